/- Layer 9: New; a memory that holds a deque's words; an operation that is begun and run. -/
import Derived.Test.YtlogmfpnjpamgaaDeqQ
open Go Go.RowKit
namespace Go.Proofs.Ytlogmfpnjpamgaa

def agg0 : Value := .agg #[.int .i64 0, .int .i64 0, .int .i64 0]
def aggD (kind base room : Int) : Value := .agg #[.int .i64 kind, .int .i64 base, .int .i64 room]
def NewPost (w : World) (m a b : Nat) (v : Value) (c : Int) (t : MemS) (e : Ending) (w' : World) : Prop := e = .returned (.tuple #[v, .int .i64 c]) ∧ IsMem w' m a b t ∧ Only [m, a, b] w w'

theorem dnew_kind (m a b : Nat) (t : MemS) (kind base room : Int) (w : World) (hm : IsMem w m a b t) (h : kind < 1 ∨ 3 < kind) :
    Calls Try.prog 11 #[.pointer (some ⟨m, 0, none⟩), .int .i64 kind, .int .i64 base, .int .i64 room] w (NewPost w m a b agg0 1 t) := by
  have HM := Lib.hid hm; clear hm
  rcases h with h | h
  · go_enter Try.func11, Try.ntmps11
    go_wp2_with fail
    exact bodyPost_ret (v := .tuple #[agg0, .int .i64 1]) (by simp [results, Try.results11, go_sem, agg0]) rfl ⟨rfl, HM.out.alloc _, (Only.refl _ _).alloc _⟩
  · have h1 : ¬ kind < 1 := by omega
    go_enter Try.func11, Try.ntmps11
    go_wp2_with fail
    exact bodyPost_ret (v := .tuple #[agg0, .int .i64 1]) (by simp [results, Try.results11, go_sem, agg0]) rfl ⟨rfl, HM.out.alloc _, (Only.refl _ _).alloc _⟩

theorem dnew_room (m a b : Nat) (t : MemS) (kind base room : Int) (w : World) (hm : IsMem w m a b t) (hk : 1 ≤ kind ∧ kind ≤ 3) (h : room < 1 ∨ 1000 < room) :
    Calls Try.prog 11 #[.pointer (some ⟨m, 0, none⟩), .int .i64 kind, .int .i64 base, .int .i64 room] w (NewPost w m a b agg0 1 t) := by
  have HM := Lib.hid hm
  have hml := hm.top.lt; clear hm
  have h1 : ¬ kind < 1 := by omega
  have h2 : ¬ 3 < kind := by omega
  clear hk
  have C := Lib.hid (fun w => words_out room w h)
  clear h
  go_enter Try.func11, Try.ntmps11
  go_wp2_with fail
  refine (C.out _).mono ?_
  rintro e w1 ⟨rfl, rfl⟩
  go_wp2_with fail
  exact bodyPost_ret (v := .tuple #[agg0, .int .i64 1]) (by simp [results, Try.results11, go_sem, agg0]) rfl ⟨rfl, HM.out.alloc _, (Only.refl _ _).alloc _⟩

theorem dnew_live (m a b : Nat) (t : MemS) (kind base : Int) (room : Nat) (w : World) (hm : IsMem w m a b t) (hk : 1 ≤ kind ∧ kind ≤ 3) (h1 : 1 ≤ room) (h2 : room ≤ 1000) :
    Calls Try.prog 11 #[.pointer (some ⟨m, 0, none⟩), .int .i64 kind, .int .i64 base, .int .i64 room] w
      (NewPost w m a b (if t.tcode base ((2 + room : Nat) : Int) true = 0 then aggD kind base room else agg0) (t.tcode base ((2 + room : Nat) : Int) true) (t.turn base ((2 + room : Nat) : Int) true)) := by
  have HM := Lib.hid hm
  have hml := hm.top.lt; clear hm
  have k1 : ¬ kind < 1 := by omega
  have k2 : ¬ 3 < kind := by omega
  clear hk
  have hz : (((2 + room : Nat) : Int) == 0) = false := by simp; omega
  have C := Lib.hid (fun w => words_in room w h1 h2)
  obtain ⟨q, hq⟩ : ∃ q : Int, q = ((2 + room : Nat) : Int) := ⟨_, rfl⟩
  rw [← hq] at hz ⊢
  have CQ : Hid (∀ w, Calls Try.prog 12 #[.int .i64 room] w fun e w' => e = .returned (.int .i64 q) ∧ w = w') := Lib.hid (by rw [hq]; exact C.out)
  clear C h1 h2 hq
  have CL := Lib.hid (fun (v : World) (hv : IsMem v m a b t) => live_any m a b t base q v hv)
  by_cases hc : t.tcode base q true = 0
  · rw [if_pos hc]
    have HC := Lib.hid hc
    rw [hc] at CL ⊢
    clear hc
    go_enter Try.func11, Try.ntmps11
    go_wp2_with fail
    refine (CQ.out _).mono ?_
    rintro e w1 ⟨rfl, rfl⟩
    go_wp2_with fail
    refine (CQ.out _).mono ?_
    rintro e w1 ⟨rfl, rfl⟩
    go_wp2_with fail
    refine (CL.out _ (HM.out.alloc _)).mono ?_
    rintro e w1 ⟨rfl, hm, ho⟩
    have hd := (Blk.new w [.int .i64 0, .int .i64 0, .int .i64 0] 27).only ho (by have h1 := HM.out.top.lt; have h2 := HM.out.words.lt; have h3 := HM.out.live.lt; simp; omega)
    have d0 := hd.cell 0; have d1 := hd.cell 1; have d2 := hd.cell 2; have f0 := hd.free 0; have f1 := hd.free 1; have f2 := hd.free 2; have hs := hd.lt
    simp at d0 d1 d2
    have HM1 := Lib.hid hm; have HO := Lib.hid ho; clear hm ho hd
    go_wp2_with fail
    have HB := HM.out; have b1 := HB.top.lt; have b2 := HB.words.lt; have b3 := HB.live.lt
    refine bodyPost_ret (v := .tuple #[aggD kind base room, .int .i64 0]) (by simp [results, Try.results11, go_sem, aggD, d0, d1, d2]) rfl ⟨rfl, ?_, ?_⟩
    · exact ((HM1.out.other (by show m ≠ w.heap.size; omega) (by show a ≠ w.heap.size; omega) (by show b ≠ w.heap.size; omega) _).other (by show m ≠ w.heap.size; omega) (by show a ≠ w.heap.size; omega) (by show b ≠ w.heap.size; omega) _).other (by show m ≠ w.heap.size; omega) (by show a ≠ w.heap.size; omega) (by show b ≠ w.heap.size; omega) _
    · exact ((((((Only.refl _ _).alloc _).trans HO.out).setNew (by simp) _).setNew (by simp) _).setNew (by simp) _)
  · rw [if_neg hc]
    have hc2 : (t.tcode base q true == 0) = false := by simpa using hc
    have E : t.turn base q true = t := MemS.turn_ne hc
    rw [E] at CL ⊢
    obtain ⟨c, hcc⟩ : ∃ c, c = t.tcode base q true := ⟨_, rfl⟩
    rw [← hcc] at CL hc2 ⊢
    clear hc E hcc
    go_enter Try.func11, Try.ntmps11
    go_wp2_with fail
    refine (CQ.out _).mono ?_
    rintro e w1 ⟨rfl, rfl⟩
    go_wp2_with fail
    refine (CQ.out _).mono ?_
    rintro e w1 ⟨rfl, rfl⟩
    go_wp2_with fail
    refine (CL.out _ (HM.out.alloc _)).mono ?_
    rintro e w1 ⟨rfl, hm, ho⟩
    have hd := (Blk.new w [.int .i64 0, .int .i64 0, .int .i64 0] 27).only ho (by have h1 := HM.out.top.lt; have h2 := HM.out.words.lt; have h3 := HM.out.live.lt; simp; omega)
    have d0 := hd.cell 0; have d1 := hd.cell 1; have d2 := hd.cell 2; have f0 := hd.free 0; have f1 := hd.free 1; have f2 := hd.free 2; have hs := hd.lt
    simp at d0 d1 d2
    have HM1 := Lib.hid hm; have HO := Lib.hid ho; clear hm ho hd
    go_wp2_with fail
    have HB := HM.out; have b1 := HB.top.lt; have b2 := HB.words.lt; have b3 := HB.live.lt
    refine bodyPost_ret (v := .tuple #[agg0, .int .i64 c]) (by simp [results, Try.results11, go_sem, agg0, d0, d1, d2]) rfl ⟨rfl, ?_, ?_⟩
    · exact ((HM1.out.other (by show m ≠ w.heap.size; omega) (by show a ≠ w.heap.size; omega) (by show b ≠ w.heap.size; omega) _).other (by show m ≠ w.heap.size; omega) (by show a ≠ w.heap.size; omega) (by show b ≠ w.heap.size; omega) _).other (by show m ≠ w.heap.size; omega) (by show a ≠ w.heap.size; omega) (by show b ≠ w.heap.size; omega) _
    · exact ((((((Only.refl _ _).alloc _).trans HO.out).setNew (by simp) _).setNew (by simp) _).setNew (by simp) _)

/-- A memory that holds a deque's words. -/
structure HM (w : World) (m a b base room : Nat) (D : Dq) : Prop where
  mem : ∃ t, IsMem w m a b t ∧ Reads t base (room + 2) D
  hbase : base ≤ 100000
  hroom : 1 ≤ room ∧ room ≤ 1000

def zeroD : Dq := fun _ => 0

theorem fresh_tcode {n base room : Nat} (h : base + room + 2 ≤ n) : (MemS.fresh n).tcode base ((2 + room : Nat) : Int) true = 0 :=
  MemS.tcode_zero (MemS.fresh_len _) (by rw [MemS.fresh_words]; omega) (fun j _ _ => by rw [MemS.fresh_live]; simp)

theorem HM.fresh {w : World} {m a b n base room : Nat} (hm : IsMem w m a b ((MemS.fresh n).turn base ((2 + room : Nat) : Int) true)) (h : base + room + 2 ≤ n) (hb : base ≤ 100000) (hr : 1 ≤ room ∧ room ≤ 1000) : HM w m a b base room zeroD := by
  refine ⟨⟨_, hm, ?_⟩, hb, hr⟩
  rw [MemS.turn_eq (fresh_tcode h)]
  have hl : base + (2 + room) ≤ (MemS.fresh n).live.length := by rw [MemS.fresh_len, MemS.fresh_words]; omega
  have hw : base + (2 + room) ≤ (MemS.fresh n).words.length := by rw [MemS.fresh_words]; omega
  have key : ∀ i, i < room + 2 → ((MemS.fresh n).fill base true (2 + room)).code ((base + i : Nat) : Int) = 0 := by
    intro i hi
    refine MemS.code_at (by rw [MemS.fill_words, MemS.fresh_words]; omega) ?_
    rw [MemS.fill_live _ _ _ _ _ hl, if_pos (by omega)]
  refine ⟨key, fun i hi => ?_⟩
  rw [MemS.word, if_pos (key i hi), Int.toNat_natCast, MemS.fill_word _ _ _ _ _ hw, if_pos (by omega)]
  rfl

theorem HM.only0 {w w' : World} {m a b base room : Nat} {D : Dq} (h : HM w m a b base room D) (ho : Only [] w w') : HM w' m a b base room D := by
  obtain ⟨⟨t, hm, hr⟩, h1, h2⟩ := h
  exact ⟨⟨t, hm.only ho (by simp) (by simp) (by simp), hr⟩, h1, h2⟩
theorem HM.begin {w w' : World} {o m a b : Nat} {S : OpD} {D : Dq} (h : HM w m a b S.base S.room D) (hb : Blk w' o (S.cells o) 76) (hs : w.heap.size ≤ o) (ho : Only [] w w') : HW w' w' o m a b S D := by
  obtain ⟨⟨t, hm, hr⟩, h1, h2⟩ := h
  have l1 := hm.top.lt; have l2 := hm.words.lt; have l3 := hm.live.lt
  exact ⟨⟨hb, ⟨t, hm.only ho (by simp) (by simp) (by simp), hr⟩, by omega, by omega, by omega, h1, h2⟩, Only.refl _ _⟩
theorem HW.rest {w0 w : World} {o m a b : Nat} {S : OpD} {D : Dq} (h : HW w0 w o m a b S D) : HM w m a b S.base S.room D := ⟨h.h.mem, h.h.hbase, h.h.hroom⟩
theorem HM.lt {w : World} {m a b base room : Nat} {D : Dq} (h : HM w m a b base room D) : m < w.heap.size ∧ a < w.heap.size ∧ b < w.heap.size := by
  obtain ⟨⟨t, hm, hr⟩, h1, h2⟩ := h
  exact ⟨hm.top.lt, hm.words.lt, hm.live.lt⟩
theorem below_only4 {B o m a b : Nat} {w w1 w2 : World} (h : Below B w w1) (hB : B ≤ w.heap.size) (ho : Only [o, m, a, b] w1 w2) (h0 : B ≤ o) (hm : B ≤ m) (ha : B ≤ a) (hb : B ≤ b) : Below B w w2 :=
  below_only h hB ho (fun k hk => by simp at hk; omega)
theorem zeroD_ok (kind room N : Nat) : DqOk kind room N zeroD := by
  unfold DqOk zeroD TOk
  split
  · omega
  · split <;> omega

/-- The example's words: ahead of x. -/
def awD (kind : Nat) : Nat → Dq
  | 6 => (DOp.runN kind 4 9 zeroD (DOp.new 0 5)).2
  | 7 => (DOp.runN kind 4 9 (DOp.runN kind 4 9 zeroD (DOp.new 0 5)).2 (DOp.new 0 6)).2
  | _ => zeroD

theorem awD_ok (kind x : Nat) (hk : kind = 1 ∨ kind = 2 ∨ kind = 3) : DqOk kind 4 20 (awD kind x) := by
  unfold awD
  split
  · exact (runN_ok kind 4 hk (by omega) 9 0 _ _ (zeroD_ok _ _ _) (DOp.new_ok _ _ _ _ _ (by omega))).2.mono (by omega)
  · exact (runN_ok kind 4 hk (by omega) 9 9 _ _ (runN_ok kind 4 hk (by omega) 9 0 _ _ (zeroD_ok _ _ _) (DOp.new_ok _ _ _ _ _ (by omega))).2 (DOp.new_ok _ _ _ _ _ (by omega))).2.mono (by omega)
  · exact zeroD_ok _ _ _

end Go.Proofs.Ytlogmfpnjpamgaa
