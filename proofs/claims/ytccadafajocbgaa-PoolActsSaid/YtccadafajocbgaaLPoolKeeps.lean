/- PoolKeeps returns true, whatever is told. -/
import Derived.Test.YtccadafajocbgaaPoolU
import Derived.Test.YtccadafajocbgaaPoolR
import Derived.Test.YtccadafajocbgaaArg2
import Derived.Test.YtccadafajocbgaaLPoolNew
import Derived.Test.YtccadafajocbgaaLPoolRemote
import Derived.Deep.Cut
open Go Go.RowKit
set_option linter.unusedSimpArgs false
namespace Go.Proofs.Ytccadafajocbgaa

set_option maxRecDepth 100000 in
theorem poolKeeps_long (z : Int) (n cap : Nat) (a : Option Addr) (w : World) (h : 100 < n) : Calls Try.prog 4 #[.int .u32 z, .slice a n cap] w fun e w' => e = .returned (.bool true) ∧ Below w.heap.size w w' := by
  go_enter Try.func4, Try.ntmps4
  go_wp2_with fail
  go_ret
  exact ⟨rfl, Below.refl _ _⟩

theorem wrapMod3 (y : Int) : ∃ k : Nat, (wrap64 (y.tmod 3 + 3)).tmod 3 = k ∧ k < 3 := by
  have h1 := Int.tmod_lt_of_pos y (b := 3) (by omega)
  have h2 := Int.lt_tmod_of_pos y (b := 3) (by omega)
  have e : wrap64 (y.tmod 3 + 3) = y.tmod 3 + 3 := by unfold wrap64; omega
  rw [e]
  have h3 := Int.tmod_nonneg (a := y.tmod 3 + 3) 3 (by omega)
  have h4 := Int.tmod_lt_of_pos (y.tmod 3 + 3) (b := 3) (by omega)
  exact ⟨((y.tmod 3 + 3).tmod 3).toNat, by omega, by omega⟩

theorem make_boolP (N : Nat) (hN : N ≤ 60000) (w : World) : (Instr.makeSlice 52 (.int .i64 ((N : Int) + 1)) (.int .i64 ((N : Int) + 1))).run Try.prog w = .ok (.slice (some ⟨w.heap.size, 0, none⟩) (N + 1) (N + 1)) (w.alloc (.cells (List.replicate (N + 1) (Value.bool false)).toArray 4)) := by
  have := make_bool (N + 1) (by omega) w
  rwa [Int.natCast_add, show ((1 : Nat) : Int) = 1 from rfl] at this

theorem Shp.off_eq (s : Shp) : s.off 3 = s.W * (s.n 0 + s.n 1 + s.n 2) := by
  simp only [Shp.off, Nat.mul_add, Nat.zero_add]

/-- the law's own blocks: the shape's, the flags', and an act's -/
def two (x y : Nat) : Nat → Prop := fun k => k = x ∨ k = y
def thr (x y z : Nat) : Nat → Prop := fun k => k = x ∨ k = y ∨ k = z

/-- The pool of a walk of PoolKeeps, and its shape and flags. -/
structure KX (w0 : World) (X : Nat → Prop) (bx tk m a b p : Nat) (s : Shp) (S : PS) (tkl : List Bool) (w : World) : Prop where
  pl : PL w0 X m a b p S w
  hb : Blk w bx s.cells 26
  ht : Blk w tk (tkl.map Value.bool) 4
  mem : X bx ∧ X tk
  ne : bx ≠ tk
  old : ∀ k, X k → w0.heap.size ≤ k

section
variable {w0 w w' : World} {X : Nat → Prop} {bx tk m a b p : Nat} {s : Shp} {S S' : PS} {tkl : List Bool}
def KXPost (w0 : World) (X : Nat → Prop) (bx tk m a b p : Nat) (s : Shp) (S : PS) (tkl : List Bool) (w : World) (r : Value) (e : Ending) (w' : World) : Prop :=
  e = .returned r ∧ KX w0 X bx tk m a b p s S tkl w' ∧ Turn (fun k => ¬ X k) w w'
theorem KX.post (h : KX w0 X bx tk m a b p s S tkl w) {r : Value} {e : Ending} (hp : PLPost w0 X m a b p S' w r e w') : KXPost w0 X bx tk m a b p s S' tkl w r e w' := by
  obtain ⟨h1, h2, h3⟩ := hp
  exact ⟨h1, ⟨h2, h.hb.turn h3 (fun q => q.1 h.mem.1), h.ht.turn h3 (fun q => q.1 h.mem.2), h.mem, h.ne, h.old⟩, h3.mono (fun _ q => .inl q.1)⟩
theorem KX.still (h : KX w0 X bx tk m a b p s S tkl w) (ht : Turn (fun _ => False) w w') : KX w0 X bx tk m a b p s S tkl w' :=
  ⟨h.pl.still ht, h.hb.turn ht (fun q => q), h.ht.turn ht (fun q => q), h.mem, h.ne, h.old⟩
theorem KX.take (h : KX w0 X bx tk m a b p s S tkl w) (v c : Int) : Calls Try.prog 15 #[.pointer (some ⟨p, 0, none⟩), .int .i64 v, .int .i64 c] w (KXPost w0 X bx tk m a b p s (S.takeS v c) tkl w (.tuple #[.int .i64 (S.takeR v c).1, .int .i64 (S.takeR v c).2])) :=
  (h.pl.take v c).mono fun _ _ q => h.post q
theorem KX.give (h : KX w0 X bx tk m a b p s S tkl w) (v x : Int) : Calls Try.prog 17 #[.pointer (some ⟨p, 0, none⟩), .int .i64 v, .int .i64 x] w (KXPost w0 X bx tk m a b p s (S.giveS v x) tkl w (.int .i64 (S.giveR v x))) :=
  (h.pl.give v x).mono fun _ _ q => h.post q
theorem KX.drain (h : KX w0 X bx tk m a b p s S tkl w) (v : Int) : Calls Try.prog 19 #[.pointer (some ⟨p, 0, none⟩), .int .i64 v] w (KXPost w0 X bx tk m a b p s (S.drain v).2 tkl w (.int .i64 (S.drain v).1)) :=
  (h.pl.drain v).mono fun _ _ q => h.post q
theorem KX.where_ (h : KX w0 X bx tk m a b p s S tkl w) (x : Int) : Calls Try.prog 24 #[.pointer (some ⟨p, 0, none⟩), .int .i64 x] w (KXPost w0 X bx tk m a b p s S tkl w (.tuple (S.whereV x))) :=
  (h.pl.where_ x).mono fun _ _ q => h.post q
theorem KX.home (h : KX w0 X bx tk m a b p s S tkl w) (hs : S.isHome) : Calls Try.prog 23 #[.pointer (some ⟨p, 0, none⟩)] w fun e w' => e = .returned (.bool true) ∧ KX w0 X bx tk m a b p s S tkl w' ∧ Turn (fun _ => False) w w' := by
  refine h.pl.home.mono ?_
  rintro e w' ⟨⟨r, rfl, hr⟩, -, ht⟩
  rw [hr.2 hs]
  exact ⟨rfl, h.still ht, ht⟩
/-- an act is boxed -/
theorem KX.box (h : KX w0 (two bx tk) bx tk m a b p s S tkl w) (c : List Value) (t : TypeId) : KX w0 (thr bx tk w.heap.size) bx tk m a b p s S tkl (w.alloc (.cells c.toArray t)) ∧ Blk (w.alloc (.cells c.toArray t)) w.heap.size c t := by
  have hT := (Turn.refl (fun _ => False) w).alloc (.cells c.toArray t)
  have hB := Blk.new w c t
  have h1 := h.hb.lt; have h2 := h.ht.lt; have h3 := hB.lt; have h4 := hT.size
  have h5 : w0.heap.size ≤ w.heap.size := h.pl.below.size
  refine ⟨⟨h.pl.law (hT.mono (fun _ q => q.elim)) h.old (fun k hk => ?_), h.hb.turn hT (fun q => q), h.ht.turn hT (fun q => q), ⟨.inl rfl, .inr (.inl rfl)⟩, h.ne, fun k hk => ?_⟩, hB⟩
  · rcases hk with rfl | rfl | rfl
    · exact ⟨by omega, .inl (.inl rfl)⟩
    · exact ⟨by omega, .inl (.inr rfl)⟩
    · exact ⟨h3, .inr (Nat.le_refl _)⟩
  · rcases hk with rfl | rfl | rfl
    · exact h.old _ (.inl rfl)
    · exact h.old _ (.inr rfl)
    · exact h5
/-- and forgotten -/
theorem KX.unbox {bA : Nat} (h : KX w0 (thr bx tk bA) bx tk m a b p s S tkl w) : KX w0 (two bx tk) bx tk m a b p s S tkl w := by
  have h1 := h.hb.lt; have h2 := h.ht.lt
  refine ⟨h.pl.law (Turn.refl _ w) h.old (fun k hk => ?_), h.hb, h.ht, ⟨.inl rfl, .inr rfl⟩, h.ne, fun k hk => ?_⟩
  · rcases hk with rfl | rfl
    · exact ⟨h1, .inl (.inl rfl)⟩
    · exact ⟨h2, .inl (.inr (.inl rfl))⟩
  · rcases hk with rfl | rfl
    · exact h.old _ (.inl rfl)
    · exact h.old _ (.inr (.inl rfl))
/-- a flag is set -/
theorem KX.mark (h : KX w0 X bx tk m a b p s S tkl w) (x : Nat) (t : Bool) : KX w0 X bx tk m a b p s S (tkl.set x t) (w.setCell ⟨tk, x, none⟩ (.bool t)) := by
  have hT := (Turn.refl X w).setCell (p := ⟨tk, x, none⟩) (.inl h.mem.2) (.bool t)
  have hX : ∀ k, X k → k < w.heap.size := fun k hk => by obtain ⟨M, ⟨L, -, -, -, -, -, -, -, g⟩, -⟩ := h.pl; exact g k hk
  refine ⟨h.pl.law hT h.old (fun k hk => ⟨hT.lt (hX k hk), .inl hk⟩), h.hb.other h.ne _, ?_, h.mem, h.ne, h.old⟩
  rw [List.map_set]
  exact h.ht.set x _
theorem KX.flag (h : KX w0 X bx tk m a b p s S tkl w) {x : Nat} (hx : x < tkl.length) : w.cell? ⟨tk, x, none⟩ = some (.bool (tkl.getD x false)) := by
  rw [h.ht.cell, List.getElem?_map, List.getElem?_eq_getElem hx, List.getD_eq_getElem?_getD, List.getElem?_eq_getElem hx]; rfl
end

set_option maxRecDepth 100000 in
set_option maxHeartbeats 2000000 in
theorem poolKeeps_short (z : Nat) (hz : z ≤ 4294967295) (n : Nat) (c : Nat → Nat → Int) (v : Value) (w : World) (hv : ArgRows w v n 3 (fun i j => .int .i64 (c i j))) (h : n ≤ 100) : Calls Try.prog 4 #[.int .u32 z, v] w fun e w' => e = .returned (.bool true) ∧ Below w.heap.size w w' := by
  obtain ⟨aa, cap, rfl, hv⟩ := hv
  have HV := Lib.hid hv; clear hv
  have CS := Lib.hid (small_any z hz w)
  have hn0 : ¬ 100 < n := by omega
  go_enter Try.func4, Try.ntmps4
  go_wp2_with fail
  refine CS.out.mono ?_
  rintro e w1 ⟨s, rfl, hu, ht⟩
  have HU := Lib.hid hu; have HT1 := Lib.hid ht
  clear hu ht CS
  unfold Shp.val shpV
  go_wp2_with fail
  obtain ⟨bx, hbx⟩ : ∃ bx, bx = w1.heap.size := ⟨_, rfl⟩
  obtain ⟨w2, hw2⟩ : ∃ w2, w2 = w1.alloc (.cells #[.int .i64 s.W, .int .i64 (s.z 0), .int .i64 (s.z 1), .int .i64 (s.z 2), .int .i64 (s.n 0), .int .i64 (s.n 1), .int .i64 (s.n 2)] 26) := ⟨_, rfl⟩
  have hX : Blk w2 bx s.cells 26 := by rw [hw2, hbx]; exact Blk.new w1 _ _
  have hT2 : Turn (fun _ => False) w w2 := by rw [hw2]; exact HT1.out.alloc _
  have hbxw : w.heap.size ≤ bx := by rw [hbx]; exact HT1.out.size
  rw [← hbx, ← hw2]
  have HX2 := Lib.hid hX; have HT2 := Lib.hid hT2
  clear hX hT2 hw2 hbx HT1
  have hR := HU.out.right
  have hN4 := Shp.off_eq s
  have hws := Shp.ws_le hR 3 (by omega)
  have CW := Lib.hid (fun v => rwords_any s hR v)
  have CO := Lib.hid (fun v => of_any s.W (s.z 0) (s.z 1) (s.z 2) (s.n 0) (s.n 1) (s.n 2) v)
  obtain ⟨ws, hwsq⟩ : ∃ ws, ws = s.ws 3 := ⟨_, rfl⟩
  have hws2 : ws ≤ 60000 := by
    rw [hwsq]
    have t : ∀ k, k < 3 → s.W * s.n k * s.z k ≤ 64 := fun k hk => by
      have h1 := HU.out.2.2 k hk
      have h2 : s.W * s.n k ≤ 4 * 4 := Nat.mul_le_mul HU.out.2.1 h1.2.2
      have h3 : s.W * s.n k * s.z k ≤ 4 * 4 * 4 := Nat.mul_le_mul h2 h1.2.1
      omega
    have := t 0 (by omega); have := t 1 (by omega); have := t 2 (by omega)
    simp only [Shp.ws]; omega
  have CN := Lib.hid (fun (v : World) (m a b : Nat) (hm : IsMem v m a b (MemS.fresh ws)) hB hb h3 => PL.new (w0 := w) (w := v) (X := fun k => k = bx) (m := m) (a := a) (b := b) 0 s hR (by omega) hm (by omega) hB hb h3)
  rw [← hwsq] at CW
  have HWS := Lib.hid hwsq
  unfold Shp.val shpV at CW CN
  unfold shpV at CO
  rw [show ((0 : Nat) : Int) = 0 from rfl] at CN
  obtain ⟨S0, hS0⟩ : ∃ S0, S0 = s.at_ 0 (s.off 3) := ⟨_, rfl⟩
  have hK0 : KB s 0 S0 ∧ ∀ x, S0.there x → (S0.blk x).taken = false := by
    rw [hS0]
    refine ⟨KB.start hR (by omega), fun x hx => ?_⟩
    have := Shp.at_there.1 hx
    rw [Shp.at_blk this.1 this.2]; rfl
  rw [← hS0] at CN
  have HK0 := Lib.hid hK0
  obtain ⟨N, hN⟩ : ∃ N, N = s.off 3 := ⟨_, rfl⟩
  have hNb : N ≤ 48 := by
    rw [hN, hN4]
    have := HU.out.2.2 0 (by omega); have := HU.out.2.2 1 (by omega); have := HU.out.2.2 2 (by omega)
    have h3 : s.W * (s.n 0 + s.n 1 + s.n 2) ≤ 4 * 12 := Nat.mul_le_mul HU.out.2.1 (by omega)
    omega
  have hNe : (s.W : Int) * ((s.n 0 : Int) + (s.n 1 : Int) + (s.n 2 : Int)) = N := by rw [hN, hN4, Int.natCast_mul, Int.natCast_add, Int.natCast_add]
  have HN := Lib.hid hN
  have hq0 := (HU.out.2.2 0 (by omega)).2.2; have hq1 := (HU.out.2.2 1 (by omega)).2.2; have hq2 := (HU.out.2.2 2 (by omega)).2.2
  have hW4 := HU.out.2.1; have hW1 := HU.out.1
  clear hwsq hR hN4 hws hK0 hN hS0
  have HNe := Lib.hid hNe; clear hNe
  refine (CW.out _).mono ?_
  rintro e w3 ⟨rfl, ht⟩
  have HX3 := Lib.hid (HX2.out.turn ht (fun h => h)); have HT3 := Lib.hid (HT2.out.trans ht (fun _ h => .inl h)); clear ht
  go_wp2_with fail
  refine (new_mem ws (by omega) _).mono ?_
  rintro e w4 ⟨m, a, b, rfl, hm, hbd, ht⟩
  have HX4 := Lib.hid (HX3.out.turn ht (fun h => h)); have HT4 := Lib.hid (HT3.out.trans ht (fun _ h => .inl h))
  have HM4 := Lib.hid hm
  have HBD := Lib.hid (show (w.heap.size ≤ m ∧ w.heap.size ≤ a ∧ w.heap.size ≤ b) ∧ bx ≠ m ∧ bx ≠ a ∧ bx ≠ b from by
    have h1 := HT3.out.size
    have h2 := HX3.out.lt
    omega)
  clear ht hm hbd
  obtain ⟨c0, c1, c2, c3, c4, c5, c6⟩ := shp_cells HX4.out
  go_wp2_with fail
  refine (CO.out _).mono ?_
  rintro e w5 ⟨rfl, ht⟩
  have HX5 := Lib.hid (HX4.out.turn ht (fun h => h)); have HT5 := Lib.hid (HT4.out.trans ht (fun _ h => .inl h))
  have HM5 := Lib.hid (HM4.out.turn ht (fun h => h) (fun h => h) (fun h => h))
  clear ht c0 c1 c2 c3 c4 c5 c6
  go_wp2_with fail
  refine (CN.out w5 m a b HM5.out (turn_below HT5.out) HBD.out.1 ⟨fun h => HBD.out.2.1 h.symm, fun h => HBD.out.2.2.1 h.symm, fun h => HBD.out.2.2.2 h.symm⟩ (fun k hk => by subst hk; exact HX5.out.lt)).mono ?_
  rintro e w6 ⟨p, rfl, hp, ht⟩
  have HX6 := Lib.hid (HX5.out.turn ht (fun h => h)); have HP6 := Lib.hid hp
  clear ht hp
  obtain ⟨c0, c1, c2, c3, c4, c5, c6⟩ := shp_cells HX6.out
  have mk := make_boolP N (by omega)
  have hNe := HNe.out
  go_wp2_with fail
  obtain ⟨tk, htk⟩ : ∃ tk, tk = w6.heap.size := ⟨_, rfl⟩
  obtain ⟨w7, hw7⟩ : ∃ w7, w7 = w6.alloc (.cells (Array.replicate (N + 1) (Value.bool false)) 4) := ⟨_, rfl⟩
  have hk7 : KX w (two bx tk) bx tk m a b p s S0 (List.replicate (N + 1) false) w7 := by
    have h1 := HX6.out.lt
    have hT : Turn (fun _ => False) w6 w7 := by rw [hw7]; exact (Turn.refl _ w6).alloc _
    have h2 : w.heap.size ≤ w6.heap.size := HP6.out.below.size
    have hB : Blk w7 tk ((List.replicate (N + 1) false).map Value.bool) 4 := by
      rw [hw7, htk, List.map_replicate, ← List.toArray_replicate]; exact Blk.new w6 _ _
    have h3 := hB.lt; have h4 := hT.size
    refine ⟨HP6.out.law (hT.mono (fun _ q => q.elim)) (fun k hk => by subst hk; exact hbxw) (fun k hk => ?_), HX6.out.turn hT (fun q => q), hB, ⟨.inl rfl, .inr rfl⟩, by omega, fun k hk => ?_⟩
    · rcases hk with rfl | rfl
      · exact ⟨by omega, .inl rfl⟩
      · exact ⟨h3, .inr (by omega)⟩
    · rcases hk with rfl | rfl
      · exact hbxw
      · omega
  have HK7 := Lib.hid hk7
  have HKT := Lib.hid (show KT s 0 S0 (List.replicate (N + 1) false) from by
    refine ⟨HK0.out.1, fun x hx => ?_, by rw [HN.out]; simp⟩
    rw [HK0.out.2 x hx, List.getD_eq_getElem?_getD, List.getElem?_replicate]
    split <;> rfl)
  rw [← htk, ← hw7]
  clear hk7 htk hw7 c0 c1 c2 c3 c4 c5 c6 mk hNe
  clear HX2 HT2 HX3 HT3 HX4 HT4 HM4 HX5 HT5 HM5 HX6 HP6 CW CO CN HBD
  go_loopw [12] (fun t wr => ∃ (i : Nat) (S : PS) (tkl : List Bool), i ≤ n ∧ t = .int .i64 i ∧ KT s 0 S tkl ∧ KX w (two bx tk) bx tk m a b p s S tkl wr) (fun t _ => n - (intOf t).toNat)
  case atStart => exact ⟨0, _, _, by omega, rfl, HKT.out, HK7.out⟩
  case round =>
    obtain ⟨i, S, tkl, hi, rfl, hkt, hkx⟩ := hrel
    have HR := Lib.hid hkt; have HQ := Lib.hid hkx
    clear hkt hkx HKT HK7 HK0
    by_cases hlt : i < n
    · obtain ⟨bb, off, rfl, hbb, hcell⟩ := HV.out (by omega)
      have hB := HQ.out.pl.below
      have c0 := (hB.cell (p := ⟨bb, off + i * 3 + 0, none⟩) hbb).trans (hcell i hlt 0 (by omega))
      have c1 := (hB.cell (p := ⟨bb, off + i * 3 + 1, none⟩) hbb).trans (hcell i hlt 1 (by omega))
      have c2 := (hB.cell (p := ⟨bb, off + i * 3 + 2, none⟩) hbb).trans (hcell i hlt 2 (by omega))
      rw [Nat.add_zero] at c0
      clear hcell hB
      generalize c i 0 = y0 at c0
      generalize c i 1 = y1 at c1
      generalize c i 2 = y2 at c2
      obtain ⟨k, hk, hk3⟩ := wrapMod3 y0
      go_upto_region 14 with fail
      obtain ⟨bA, hbA⟩ : ∃ bA, bA = wr.heap.size := ⟨_, rfl⟩
      obtain ⟨w8, hw8⟩ : ∃ w8, w8 = wr.alloc (.cells #[.int .i64 y0, .int .i64 y1, .int .i64 y2] 41) := ⟨_, rfl⟩
      have hq := HQ.out.box [.int .i64 y0, .int .i64 y1, .int .i64 y2] 41
      rw [← hbA, ← hw8] at hq ⊢
      have HQ8 := Lib.hid hq.1; have HA8 := Lib.hid hq.2
      clear hq hbA hw8 c0 c1 c2 HQ
      have a0 : w8.cell? ⟨bA, 0, none⟩ = some (.int .i64 y0) := by rw [HA8.out.cell]; rfl
      have a1 : w8.cell? ⟨bA, 1, none⟩ = some (.int .i64 y1) := by rw [HA8.out.cell]; rfl
      have a2 : w8.cell? ⟨bA, 2, none⟩ = some (.int .i64 y2) := by rw [HA8.out.cell]; rfl
      obtain ⟨c0, -⟩ := shp_cells HQ8.out.hb
      have hAt : bA ≠ tk := HA8.out.ne_type HQ8.out.ht (by decide)
      have hN9 := HN.out
      have hlen : tkl.length = N + 1 := by rw [HN.out]; exact HR.out.len
      have HLEN := Lib.hid hlen
      clear hN9 hlen
      rcases (show k = 0 ∨ (k = 1 ∨ k = 2) by omega) with rfl | hk12
      · go_wp2_with fail
        refine (HQ8.out.take y1 y2).mono ?_
        rintro e w9 ⟨rfl, hq, ht⟩
        have HQ9 := Lib.hid hq
        clear hq ht a0 a1 a2 c0 HA8
        rcases HR.out.take y1 y2 with ⟨hne, hkt⟩ | ⟨x, hr, hx1, hx2, hfl, hkt⟩
        · have HKT9 := Lib.hid hkt; clear hkt
          obtain ⟨g, hg⟩ : ∃ g, g = (S.takeR y1 y2).1 := ⟨_, rfl⟩
          obtain ⟨q, hq⟩ : ∃ q, q = (S.takeR y1 y2).2 := ⟨_, rfl⟩
          rw [← hq] at hne ⊢
          rw [← hg]
          clear hg hq
          have hq0 : (q == 0) = false := by simpa using hne
          go_wp2_with fail
          go_roundw
          case rel => exact ⟨i + 1, _, _, by omega, by go_num, HKT9.out, HQ9.out.unbox⟩
          case measure => simp [intOf]; omega
        · rw [hr]
          obtain ⟨x, rfl⟩ : ∃ y : Nat, x = y := ⟨x.toNat, by omega⟩
          rw [Int.toNat_natCast] at hfl hkt
          have HKT9 := Lib.hid hkt
          have hx3 : x ≤ N := by rw [HN.out]; omega
          have hx4 : 1 ≤ x := by omega
          have cf := HQ9.out.flag (x := x) (by rw [HLEN.out]; omega)
          have hf := HQ9.out.ht.free x
          rw [hfl] at cf
          clear hkt hr hx1 hx2 hfl
          go_wp2_with fail
          go_roundw
          case rel => exact ⟨i + 1, _, _, by omega, by go_num, HKT9.out, (HQ9.out.mark x true).unbox⟩
          case measure => simp [intOf]; omega
      · by_cases hin : 1 ≤ y2 ∧ y2 ≤ N ∧ 0 ≤ y1 ∧ y1 < s.W
        · obtain ⟨x, rfl⟩ : ∃ y : Nat, y2 = y := ⟨y2.toNat, by omega⟩
          obtain ⟨v, rfl⟩ : ∃ y : Nat, y1 = y := ⟨y1.toNat, by omega⟩
          have hx3 : x ≤ N := by omega
          have hx4 : 1 ≤ x := by omega
          have hv4 : v < s.W := by omega
          have cf := HQ8.out.flag (x := x) (by rw [HLEN.out]; omega)
          clear hin
          cases hfl : tkl.getD x false
          · rw [hfl] at cf
            go_wp2_with fail
            refine (HQ8.out.drain _).mono ?_
            rintro e w9 ⟨rfl, hq, -⟩
            have HQ9 := Lib.hid hq
            clear hq a0 a1 a2 c0 HQ8 HA8
            go_wp2_with fail
            go_roundw
            case rel => exact ⟨i + 1, _, _, by omega, by go_num, HR.out.drain _, HQ9.out.unbox⟩
            case measure => simp [intOf]; omega
          · rw [hfl] at cf
            have hg := HR.out.give (v := v) (x := x) (by omega) (by rw [← HN.out]; omega) (by rw [Int.toNat_natCast]; exact hfl)
            rw [Int.toNat_natCast] at hg
            have HG := Lib.hid hg
            clear hg
            go_wp2_with fail
            refine (HQ8.out.give v x).mono ?_
            rintro e w9 ⟨rfl, hq, ht⟩
            rw [HG.out.1]
            have HQ9 := Lib.hid hq
            have HA9 := Lib.hid (HA8.out.turn ht (fun q => q (.inr (.inr rfl))))
            clear hq ht a0 a1 a2 c0 cf HQ8 HA8
            have a1 : w9.cell? ⟨bA, 1, none⟩ = some (.int .i64 v) := by rw [HA9.out.cell]; rfl
            have a2 : w9.cell? ⟨bA, 2, none⟩ = some (.int .i64 x) := by rw [HA9.out.cell]; rfl
            have cf := HQ9.out.flag (x := x) (by rw [HLEN.out]; omega)
            have hf := HQ9.out.ht.free x
            rw [hfl] at cf
            go_wp2_with fail
            refine ((HQ9.out.mark x false).drain v).mono ?_
            rintro e w10 ⟨rfl, hq, -⟩
            have HQ10 := Lib.hid hq
            clear hq a1 a2 cf hf
            go_wp2_with fail
            go_roundw
            case rel => exact ⟨i + 1, _, _, by omega, by go_num, HG.out.2.drain v, HQ10.out.unbox⟩
            case measure => simp [intOf]; omega
        · rcases (show y2 < 1 ∨ (1 ≤ y2 ∧ (N : Int) < y2) ∨ (1 ≤ y2 ∧ y2 ≤ (N : Int) ∧ y1 < 0) ∨ (1 ≤ y2 ∧ y2 ≤ (N : Int) ∧ 0 ≤ y1 ∧ (s.W : Int) ≤ y1) by omega) with hy | ⟨hy, hy2⟩ | ⟨hy, hy2, hy3⟩ | ⟨hy, hy2, hy3, hy4⟩
          · clear hin
            go_wp2_with fail
            refine (HQ8.out.drain _).mono ?_
            rintro e w9 ⟨rfl, hq, -⟩
            have HQ9 := Lib.hid hq
            clear hq a0 a1 a2 c0 HQ8 HA8
            go_wp2_with fail
            go_roundw
            case rel => exact ⟨i + 1, _, _, by omega, by go_num, HR.out.drain _, HQ9.out.unbox⟩
            case measure => simp [intOf]; omega
          · clear hin
            go_wp2_with fail
            refine (HQ8.out.drain _).mono ?_
            rintro e w9 ⟨rfl, hq, -⟩
            have HQ9 := Lib.hid hq
            clear hq a0 a1 a2 c0 HQ8 HA8
            go_wp2_with fail
            go_roundw
            case rel => exact ⟨i + 1, _, _, by omega, by go_num, HR.out.drain _, HQ9.out.unbox⟩
            case measure => simp [intOf]; omega
          · clear hin
            go_wp2_with fail
            refine (HQ8.out.drain _).mono ?_
            rintro e w9 ⟨rfl, hq, -⟩
            have HQ9 := Lib.hid hq
            clear hq a0 a1 a2 c0 HQ8 HA8
            go_wp2_with fail
            go_roundw
            case rel => exact ⟨i + 1, _, _, by omega, by go_num, HR.out.drain _, HQ9.out.unbox⟩
            case measure => simp [intOf]; omega
          · clear hin
            go_wp2_with fail
            refine (HQ8.out.drain _).mono ?_
            rintro e w9 ⟨rfl, hq, -⟩
            have HQ9 := Lib.hid hq
            clear hq a0 a1 a2 c0 HQ8 HA8
            go_wp2_with fail
            go_roundw
            case rel => exact ⟨i + 1, _, _, by omega, by go_num, HR.out.drain _, HQ9.out.unbox⟩
            case measure => simp [intOf]; omega
    · obtain rfl : i = n := by omega
      have HG := Lib.hid HR.out.gives
      have HLEN := Lib.hid (show tkl.length = N + 1 by rw [HN.out]; exact HR.out.len)
      clear HR HV
      go_wp2_with fail
      obtain ⟨wo, rfl⟩ : ∃ x, x = wr := ⟨_, rfl⟩
      go_loopw [16] (fun t wr => ∃ (j : Nat) (S : PS), j ≤ N ∧ t = .int .i64 ((j : Int) + 1) ∧ KG s 0 S tkl j ∧ KX w (two bx tk) bx tk m a b p s S tkl wr) (fun t _ => N + 1 - (intOf t).toNat)
      case atStart => exact ⟨0, S, by omega, rfl, HG.out, HQ.out⟩
      case round =>
        obtain ⟨j, S2, hj, rfl, hg, hp⟩ := hrel
        have HG2 := Lib.hid hg; have HQ2 := Lib.hid hp
        clear hg hp HQ HG
        by_cases hlt2 : j < N
        · have hg := HG2.out.give hW1 (by rw [← HN.out]; exact hlt2)
          have HG3 := Lib.hid hg
          obtain ⟨g, hgq⟩ : ∃ g, g = S2.giveR 0 ((j : Int) + 1) := ⟨_, rfl⟩
          have hg1 := hg.1
          have CG := Lib.hid (fun v (q : KX w (two bx tk) bx tk m a b p s S2 tkl v) => q.give 0 ((j : Int) + 1))
          rw [← hgq] at hg1 CG
          clear hgq hg
          cases hfl : tkl.getD (j + 1) false
          · rw [hfl] at hg1
            have cf := HQ2.out.flag (x := j + 1) (by rw [HLEN.out]; omega)
            rw [hfl] at cf
            go_wp2_with fail
            go_region_with (go_at_call 17; refine (CG.out _ (HQ2.out.still ((Turn.refl _ _).drew))).mono ?_; rintro e w9 ⟨rfl, hq, -⟩; have HQ9 := Lib.hid hq; clear hq; have cf9 := HQ9.out.flag (x := j + 1) (by rw [HLEN.out]; omega); rw [hfl] at cf9)
            all_goals go_wp2_with fail
            all_goals
              go_roundw
              case rel => exact ⟨j + 1, _, by omega, by go_num, HG3.out.2, HQ9.out⟩
              case measure => simp [intOf]; omega
          · rw [hfl] at hg1
            have cf := HQ2.out.flag (x := j + 1) (by rw [HLEN.out]; omega)
            rw [hfl] at cf
            go_wp2_with fail
            go_region_with (go_at_call 17; refine (CG.out _ (HQ2.out.still ((Turn.refl _ _).drew))).mono ?_; rintro e w9 ⟨rfl, hq, -⟩; have HQ9 := Lib.hid hq; clear hq; have cf9 := HQ9.out.flag (x := j + 1) (by rw [HLEN.out]; omega); rw [hfl] at cf9)
            all_goals go_wp2_with fail
            all_goals
              go_roundw
              case rel => exact ⟨j + 1, _, by omega, by go_num, HG3.out.2, HQ9.out⟩
              case measure => simp [intOf]; omega
        · obtain rfl : j = N := by omega
          have hD := HG2.out
          rw [HN.out] at hD
          have HD := Lib.hid hD.drains
          clear hD HG2
          obtain ⟨c0, -⟩ := shp_cells HQ2.out.hb
          go_wp2_with fail
          clear c0
          obtain ⟨wo2, rfl⟩ : ∃ x, x = wr := ⟨_, rfl⟩
          go_loopw [17] (fun t wr => ∃ (v : Nat) (S : PS), v ≤ s.W ∧ t = .int .i64 v ∧ KD s 0 S v ∧ KX w (two bx tk) bx tk m a b p s S tkl wr) (fun t _ => s.W - (intOf t).toNat)
          case atStart => exact ⟨0, S2, by omega, rfl, HD.out, HQ2.out⟩
          case round =>
            obtain ⟨v, S3, hv, rfl, hd, hp⟩ := hrel
            have HD3 := Lib.hid hd; have HQ3 := Lib.hid hp
            clear hd hp HQ2 HD
            obtain ⟨c0, -⟩ := shp_cells HQ3.out.hb
            by_cases hlt3 : v < s.W
            · go_wp2_with fail
              refine (HQ3.out.drain v).mono ?_
              rintro e w9 ⟨rfl, hq, -⟩
              have HQ9 := Lib.hid hq
              clear hq c0
              go_wp2_with fail
              go_roundw
              case rel => exact ⟨v + 1, _, by omega, by go_num, HD3.out.drain hlt3, HQ9.out⟩
              case measure => simp [intOf]; omega
            · have hvW : v = s.W := by omega
              have hD := HD3.out
              rw [hvW] at hD
              have HKW := Lib.hid hD.takes
              have HOME := Lib.hid hD.home
              clear hD HD3 hvW
              go_wp2_with fail
              refine (HQ3.out.home HOME.out).mono ?_
              rintro e w9 ⟨rfl, hq, -⟩
              have HQ9 := Lib.hid hq
              clear hq c0 HOME HQ3
              obtain ⟨c0, -⟩ := shp_cells HQ9.out.hb
              go_wp2_with fail
              clear c0
              obtain ⟨wo3, rfl⟩ : ∃ x, x = w9 := ⟨_, rfl⟩
              go_loopw [18] (fun t wr => ∃ (u : Nat) (S : PS), u ≤ s.W ∧ t = .int .i64 u ∧ KW s 0 S (3 * u) ∧ KX w (two bx tk) bx tk m a b p s S tkl wr) (fun t _ => s.W - (intOf t).toNat)
              case atStart => exact ⟨0, S3, by omega, rfl, HKW.out, HQ9.out⟩
              case round =>
                obtain ⟨u, S4, hu, rfl, hd, hp⟩ := hrel
                have HW4 := Lib.hid hd; have HQ4 := Lib.hid hp
                clear hd hp HQ9 HKW
                obtain ⟨c0, -⟩ := shp_cells HQ4.out.hb
                by_cases hlt4 : u < s.W
                · go_wp2_with fail
                  clear c0
                  obtain ⟨wo4, rfl⟩ : ∃ x, x = wr := ⟨_, rfl⟩
                  go_loopw [19] (fun t wr => ∃ (d : Nat) (S : PS), d ≤ 3 ∧ t = .int .i64 d ∧ KW s 0 S (3 * u + d) ∧ KX w (two bx tk) bx tk m a b p s S tkl wr) (fun t _ => 3 - (intOf t).toNat)
                  case atStart => exact ⟨0, S4, by omega, rfl, HW4.out, HQ4.out⟩
                  case round =>
                    obtain ⟨d, S5, hd3, rfl, hd, hp⟩ := hrel
                    have HW5 := Lib.hid hd; have HQ5 := Lib.hid hp
                    clear hd hp HQ4
                    by_cases hlt5 : d < 3
                    · have HR5 := Lib.hid (HW5.out.row rfl hlt4 hlt5)
                      have hnd : s.n d ≤ 4 := (HU.out.2.2 d hlt5).2.2
                      go_wp2_with fail
                      rw [show decide ((d : Int) < 3) = true from decide_eq_true (by omega)]
                      obtain ⟨wo5, rfl⟩ : ∃ x, x = wr := ⟨_, rfl⟩
                      go_loopw [20] (fun t wr => ∃ (i : Nat) (S : PS), i ≤ s.n d ∧ t = .int .i64 i ∧ KR s 0 S u d i ∧ KX w (two bx tk) bx tk m a b p s S tkl wr) (fun t _ => s.n d - (intOf t).toNat)
                      case atStart => exact ⟨0, S5, by omega, rfl, HR5.out, HQ5.out⟩
                      case round =>
                        obtain ⟨i, S6, hi6, rfl, hd, hp⟩ := hrel
                        have HR6 := Lib.hid hd; have HQ6 := Lib.hid hp
                        clear hd hp HQ5 HW5 HR5
                        have cn : wr.cell? ⟨bx, 4 + d, none⟩ = some (.int .i64 (s.n d)) := by
                          obtain ⟨-, -, -, -, c4, c5, c6⟩ := shp_cells HQ6.out.hb
                          rcases (show d = 0 ∨ d = 1 ∨ d = 2 by omega) with rfl | rfl | rfl
                          · exact c4
                          · exact c5
                          · exact c6
                        by_cases hlt6 : i < s.n d
                        · obtain ⟨x, hx1, hx2, hx3⟩ := HR6.out.take hlt4 hlt5 hlt6
                          have HX1 := Lib.hid hx1; have HX2 := Lib.hid hx2; have HX3 := Lib.hid hx3
                          clear hx1 hx2 hx3
                          go_wp2_with fail
                          refine (HQ6.out.take u d).mono ?_
                          rintro e w9 ⟨rfl, hq, -⟩
                          rw [HX1.out]
                          have HQ7 := Lib.hid hq
                          clear hq cn HQ6
                          go_wp2_with fail
                          refine (HQ7.out.where_ x).mono ?_
                          rintro e w10 ⟨rfl, hq, -⟩
                          rw [HX2.out]
                          have HQ8 := Lib.hid hq
                          clear hq HQ7
                          go_wp2_with fail
                          go_roundw
                          case rel => exact ⟨i + 1, _, by omega, by go_num, HX3.out, HQ8.out⟩
                          case measure => simp [intOf]; omega
                        · obtain rfl : i = s.n d := by omega
                          obtain ⟨hx1, hx2, hx3⟩ := HR6.out.empty hlt4 hlt5
                          have HX1 := Lib.hid hx1; have HX2 := Lib.hid hx2; have HX3 := Lib.hid hx3
                          clear hx1 hx2 hx3
                          go_wp2_with fail
                          refine (HQ6.out.take u d).mono ?_
                          rintro e w9 ⟨rfl, hq, -⟩
                          rw [HX1.out]
                          rw [HX2.out] at hq
                          have HQ7 := Lib.hid hq
                          clear hq cn HQ6
                          go_wp2_with fail
                          go_roundw
                          case rel => exact ⟨d + 1, _, by omega, by go_num, HX3.out, HQ7.out⟩
                          case measure => simp [intOf]; omega
                    · obtain rfl : d = 3 := by omega
                      go_wp2_with fail
                      go_roundw
                      case rel => exact ⟨u + 1, _, by omega, by go_num, HW5.out, HQ5.out⟩
                      case measure => simp [intOf]; omega
                · go_wp2_with fail
                  refine (awake_any _).mono ?_
                  rintro e w9 ⟨rfl, hb⟩
                  have HB := Lib.hid (below_below HQ4.out.pl.below (Nat.le_refl _) hb); clear hb
                  go_wp2_with fail
                  go_ret
                  exact ⟨rfl, HB.out⟩

theorem poolKeeps_walk (z : Int) (hz : (Lit.int .u32 z).wf = true) (n : Nat) (c : Nat → Nat → Int) (v : Value) (w : World) (hv : ArgRows w v n 3 (fun i j => .int .i64 (c i j))) : Calls Try.prog 4 #[.int .u32 z, v] w fun e w' => e = .returned (.bool true) ∧ Below w.heap.size w w' := by
  have hz := wf_u32 hz
  by_cases h : n ≤ 100
  · obtain ⟨y, rfl⟩ : ∃ y : Nat, z = y := ⟨z.toNat, by omega⟩
    exact poolKeeps_short y (by omega) n c v w hv h
  · obtain ⟨a, cap, rfl, _⟩ := hv
    exact poolKeeps_long _ _ _ _ _ (by omega)

end Go.Proofs.Ytccadafajocbgaa
