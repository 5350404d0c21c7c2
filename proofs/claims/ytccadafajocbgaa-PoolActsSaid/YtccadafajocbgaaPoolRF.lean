/- Layer 10: both pools in one world; the law's 'same'. -/
import Derived.Test.YtccadafajocbgaaPoolRE
import Derived.Test.YtccadafajocbgaaPoolS
import Derived.BigQuiet
open Go Go.RowKit
set_option linter.unusedSimpArgs false
namespace Go.Proofs.Ytccadafajocbgaa

theorem quiet_eq {P : Program} {f : FuncId} {args : Array Value} {w : World} {n : Nat} {v : Value} (h : Calls P f args (w.drewN n) fun e w' => e = .returned v ∧ w.drewN n = w') : Calls P f args (w.drewN n) fun e w'' => e = .returned v ∧ ∃ m, w'' = w.drewN m :=
  h.mono fun _ _ ⟨he, hm⟩ => ⟨he, n, hm.symm⟩

/-- The program's pool reads as S, the document's as T. -/
def K2R (w0 : World) (m a b p r : Nat) (s : Shp) (S T : PS) (w : World) : Prop :=
  ∃ L, L.r = r ∧ PL w0 (fun k => L.own s.W k) m a b p S w ∧ DocS w w0.heap.size L s T
/-- The same, beside an act in a box of its own. -/
def K2Q (w0 : World) (m a b p r bA : Nat) (c : List Value) (s : Shp) (S T : PS) (w : World) : Prop :=
  ∃ L, L.r = r ∧ PL w0 (fun k => k = bA ∨ L.own s.W k) m a b p S w ∧ DocS w w0.heap.size L s T ∧ Blk w bA c 41 ∧ w0.heap.size ≤ bA ∧ ¬ L.own s.W bA

section
variable {w0 w w' : World} {m a b p r bA : Nat} {c : List Value} {s : Shp} {S T : PS}

theorem K2R.below (h : K2R w0 m a b p r s S T w) : Below w0.heap.size w0 w := by obtain ⟨L, -, hp, -⟩ := h; exact hp.below
theorem K2R.ok (h : K2R w0 m a b p r s S T w) : S.Ok := by obtain ⟨L, -, hp, -⟩ := h; exact hp.ok
theorem K2R.still (h : K2R w0 m a b p r s S T w) (ht : Turn (fun _ => False) w w') : K2R w0 m a b p r s S T w' := by
  obtain ⟨L, hr, hp, hd⟩ := h; exact ⟨L, hr, hp.still ht, hd.still ht⟩
theorem K2R.box (h : K2R w0 m a b p r s S T w) (c : List Value) : K2Q w0 m a b p r w.heap.size c s S T (w.alloc (.cells c.toArray 41)) := by
  obtain ⟨L, hr, hp, hd⟩ := h
  have hT := (Turn.refl (fun k => L.own s.W k) w).alloc (.cells c.toArray 41)
  have hB := Blk.new w c 41
  refine ⟨L, hr, hp.law hT (fun k hk => (hd.lies.lt hk).1) (fun k hk => ?_), hd.still ((Turn.refl _ w).alloc _), hB, hp.below.size, fun hk => by have := (hd.lies.lt hk).2; omega⟩
  rcases hk with rfl | hk
  · exact ⟨hB.lt, .inr (Nat.le_refl _)⟩
  · exact ⟨hT.lt (hd.lies.lt hk).2, .inl hk⟩
theorem K2Q.forget (h : K2Q w0 m a b p r bA c s S T w) : K2R w0 m a b p r s S T w := by
  obtain ⟨L, hr, hp, hd, hb, hb0, hn⟩ := h
  refine ⟨L, hr, hp.law (Turn.refl _ w) (fun k hk => ?_) (fun k hk => ⟨(hd.lies.lt hk).2, .inl (.inr hk)⟩), hd⟩
  rcases hk with rfl | hk
  · exact hb0
  · exact (hd.lies.lt hk).1
theorem K2Q.ok (h : K2Q w0 m a b p r bA c s S T w) : S.Ok := by obtain ⟨L, -, hp, -⟩ := h; exact hp.ok
theorem K2Q.act (h : K2Q w0 m a b p r bA c s S T w) (j : Nat) : w.cell? ⟨bA, j, none⟩ = c[j]? := by obtain ⟨L, -, -, -, hb, -⟩ := h; exact hb.cell j
theorem K2Q.lt (h : K2Q w0 m a b p r bA c s S T w) : bA < w.heap.size := by obtain ⟨L, -, -, -, hb, -⟩ := h; exact hb.lt
theorem K2Q.still (h : K2Q w0 m a b p r bA c s S T w) (ht : Turn (fun _ => False) w w') : K2Q w0 m a b p r bA c s S T w' := by
  obtain ⟨L, hr, hp, hd, hb, hb0, hn⟩ := h; exact ⟨L, hr, hp.still ht, hd.still ht, hb.turn ht (fun q => q), hb0, hn⟩
theorem K2Q.drew (h : K2Q w0 m a b p r bA c s S T w) : K2Q w0 m a b p r bA c s S T w.drew := h.still ((Turn.refl _ w).drew)
theorem K2Q.drewN (h : K2Q w0 m a b p r bA c s S T w) (n : Nat) : K2Q w0 m a b p r bA c s S T (w.drewN n) := h.still ((Turn.refl _ w).drewN n)

theorem K2Q.takeP (h : K2Q w0 m a b p r bA c s S T w) (v x : Int) : Calls Try.prog 15 #[.pointer (some ⟨p, 0, none⟩), .int .i64 v, .int .i64 x] w fun e w' => e = .returned (.tuple #[.int .i64 (S.takeR v x).1, .int .i64 (S.takeR v x).2]) ∧ K2Q w0 m a b p r bA c s (S.takeS v x) T w' := by
  obtain ⟨L, hr, hp, hd, hb, hb0, hn⟩ := h
  refine (hp.take v x).mono ?_
  rintro e w' ⟨rfl, h1, ht⟩
  exact ⟨rfl, L, hr, h1, hd.turn ht (fun k hk q => q.1 (.inr hk)), hb.turn ht (fun q => q.1 (.inl rfl)), hb0, hn⟩
theorem K2Q.giveP (h : K2Q w0 m a b p r bA c s S T w) (v x : Int) : Calls Try.prog 17 #[.pointer (some ⟨p, 0, none⟩), .int .i64 v, .int .i64 x] w fun e w' => e = .returned (.int .i64 (S.giveR v x)) ∧ K2Q w0 m a b p r bA c s (S.giveS v x) T w' := by
  obtain ⟨L, hr, hp, hd, hb, hb0, hn⟩ := h
  refine (hp.give v x).mono ?_
  rintro e w' ⟨rfl, h1, ht⟩
  exact ⟨rfl, L, hr, h1, hd.turn ht (fun k hk q => q.1 (.inr hk)), hb.turn ht (fun q => q.1 (.inl rfl)), hb0, hn⟩
theorem K2Q.drainP (h : K2Q w0 m a b p r bA c s S T w) (v : Int) : Calls Try.prog 19 #[.pointer (some ⟨p, 0, none⟩), .int .i64 v] w fun e w' => e = .returned (.int .i64 (S.drain v).1) ∧ K2Q w0 m a b p r bA c s (S.drain v).2 T w' := by
  obtain ⟨L, hr, hp, hd, hb, hb0, hn⟩ := h
  refine (hp.drain v).mono ?_
  rintro e w' ⟨rfl, h1, ht⟩
  exact ⟨rfl, L, hr, h1, hd.turn ht (fun k hk q => q.1 (.inr hk)), hb.turn ht (fun q => q.1 (.inl rfl)), hb0, hn⟩

theorem K2Q.docs {L : RLay} {T' : PS} {v : Value} {e : Ending} (hr : L.r = r) (hp : PL w0 (fun k => k = bA ∨ L.own s.W k) m a b p S w) (hd : DocS w w0.heap.size L s T) (hb : Blk w bA c 41) (hb0 : w0.heap.size ≤ bA) (hn : ¬ L.own s.W bA)
    (h : DPost w w0.heap.size L s T' v e w') : e = .returned v ∧ K2Q w0 m a b p r bA c s S T' w' := by
  obtain ⟨rfl, L', hr', hd', ht, ho⟩ := h
  have hb' := hb.turn ht hn
  refine ⟨rfl, L', hr'.trans hr, hp.law (ht.mono (fun k q => .inl (.inr q))) (fun k hk => ?_) (fun k hk => ?_), hd', hb', hb0, fun hk => ?_⟩
  · rcases hk with rfl | hk
    · exact hb0
    · exact (hd.lies.lt hk).1
  · rcases hk with rfl | hk
    · exact ⟨hb'.lt, .inl (.inl rfl)⟩
    · exact ⟨(hd'.lies.lt hk).2, (ho k hk).imp .inr id⟩
  · rcases ho _ hk with q | q
    · exact hn q
    · have := hb.lt; omega
theorem K2Q.takeD (h : K2Q w0 m a b p r bA c s S T w) (hR : s.Right) (hok : T.Ok) (v x : Int) : Calls Try.prog 16 #[.pointer (some ⟨r, 0, none⟩), .int .i64 v, .int .i64 x] w fun e w' => e = .returned (.tuple #[.int .i64 (T.takeR v x).1, .int .i64 (T.takeR v x).2]) ∧ K2Q w0 m a b p r bA c s S (T.takeS v x) w' := by
  obtain ⟨L, rfl, hp, hd, hb, hb0, hn⟩ := h
  exact (rtake_any hd hR hok v x).mono fun e w' hh => K2Q.docs rfl hp hd hb hb0 hn hh
theorem K2Q.giveD (h : K2Q w0 m a b p r bA c s S T w) (hR : s.Right) (hok : T.Ok) (v x : Int) : Calls Try.prog 18 #[.pointer (some ⟨r, 0, none⟩), .int .i64 v, .int .i64 x] w fun e w' => e = .returned (.int .i64 (T.giveR v x)) ∧ K2Q w0 m a b p r bA c s S (T.giveS v x) w' := by
  obtain ⟨L, rfl, hp, hd, hb, hb0, hn⟩ := h
  exact (rgive_any hd hR hok hp.below.size v x).mono fun e w' hh => K2Q.docs rfl hp hd hb hb0 hn hh
theorem K2Q.drainD (h : K2Q w0 m a b p r bA c s S T w) (hR : s.Right) (hok : T.Ok) (v : Int) : Calls Try.prog 20 #[.pointer (some ⟨r, 0, none⟩), .int .i64 v] w fun e w' => e = .returned (.int .i64 (T.drain v).1) ∧ K2Q w0 m a b p r bA c s S (T.drain v).2 w' := by
  obtain ⟨L, rfl, hp, hd, hb, hb0, hn⟩ := h
  exact (rdrain_any hd hR hok hp.below.size v).mono fun e w' hh => K2Q.docs rfl hp hd hb hb0 hn hh

theorem DocS.lens {L : RLay} {k : Nat} (h : DocS w w0.heap.size L s S) (hk : k < 4 * s.W) : ∃ a cap, L.V k = .slice a (S.row k).length cap := by
  rcases (h.lies.rows k hk).rd with ⟨e, hl⟩ | ⟨g, off, cap, cs, e, _⟩
  · exact ⟨none, 0, by rw [e, hl]; rfl⟩
  · exact ⟨_, cap, e⟩

set_option maxRecDepth 100000 in
set_option maxHeartbeats 2000000 in
theorem same10_any (h : K2R w0 m a b p r s S S w) (hR : s.Right) : Calls Try.prog 21 #[.pointer (some ⟨p, 0, none⟩), .pointer (some ⟨r, 0, none⟩)] w fun e w' => e = .returned (.bool true) ∧ K2R w0 m a b p r s S S w' := by
  have HK := Lib.hid h
  obtain ⟨L, rfl, hp, hd⟩ := h
  have hok := hp.ok
  have hW2 := hR.W2
  have hWS := hd.W
  have HF := Lib.hid (fun (w' : World) (ht : Turn (fun _ => False) w w') (i c : Nat) (hi : i < s.W) (hc : c < 3) => show Calls Try.prog 25 #[.pointer (some ⟨p, 0, none⟩), .int .i64 (i : Int), .int .i64 (c : Int)] w' fun e w'' => e = .returned (.int .i64 ((S.row (4 * i + c)).length : Int)) ∧ w' = w'' from by
    have := (hp.still ht).free (i : Int) (c : Int)
    unfold PS.many at this
    rw [if_pos (by omega), Int.toNat_natCast, Int.toNat_natCast] at this
    exact this)
  have HM := Lib.hid (fun (w' : World) (ht : Turn (fun _ => False) w w') (i : Nat) (hi : i < s.W) => show Calls Try.prog 26 #[.pointer (some ⟨p, 0, none⟩), .int .i64 (i : Int)] w' fun e w'' => e = .returned (.int .i64 ((S.row (4 * i + 3)).length : Int)) ∧ w' = w'' from by
    have := (hp.still ht).remote (i : Int)
    unfold PS.manyR at this
    rw [if_pos (by omega), Int.toNat_natCast] at this
    exact this)
  have HH := Lib.hid (fun (w' : World) (ht : Turn (fun _ => False) w w') => (hp.still ht).home)
  have HG := Lib.hid (fun (w' : World) (ht : Turn (fun _ => False) w w') => rHome_any (hd.still ht) hR hok)
  have HC := Lib.hid (fun (w' : World) (ht : Turn (fun _ => False) w w') => (hd.still ht).lies.cellS)
  have HVF := Lib.hid (fun (w' : World) (ht : Turn (fun _ => False) w w') (i c : Nat) (hi : i < s.W) (hc : c < 3) => show ∃ x cap, w'.cell? ⟨L.f, i * 3 + c, none⟩ = some (.slice x (S.row (4 * i + c)).length cap) ∧ (S.row (4 * i + c)).length ≤ 192000 from by
    obtain ⟨cV, -⟩ := (hd.still ht).lies.cellF hi hc
    obtain ⟨x, cap, e⟩ := DocS.lens hd (k := 4 * i + c) (by omega)
    exact ⟨x, cap, by rw [cV, e], hok.short (by omega)⟩)
  have HVQ := Lib.hid (fun (w' : World) (ht : Turn (fun _ => False) w w') (i : Nat) (hi : i < s.W) => show ∃ x cap, w'.cell? ⟨L.q, i, none⟩ = some (.slice x (S.row (4 * i + 3)).length cap) ∧ (S.row (4 * i + 3)).length ≤ 192000 from by
    obtain ⟨cV, -⟩ := (hd.still ht).lies.cellQ hi
    obtain ⟨x, cap, e⟩ := DocS.lens hd (k := 4 * i + 3) (by omega)
    exact ⟨x, cap, by rw [cV, e], hok.short (by omega)⟩)
  obtain ⟨r, hr0⟩ : ∃ r, r = L.r := ⟨_, rfl⟩
  rw [← hr0] at HK HG HC ⊢
  generalize L.f = f at HC HVF
  generalize L.q = q at HC HVQ
  clear hp hd hR hok hWS hr0
  go_enter Try.func21, Try.ntmps21
  go_wp2_with fail
  go_loopw [5] (fun t wr => ∃ i : Nat, i ≤ s.W ∧ t = .int .i64 i ∧ Turn (fun _ => False) w wr) (fun t _ => s.W - (intOf t).toNat)
  case atStart => exact ⟨0, by omega, rfl, Turn.refl _ _⟩
  case round =>
    obtain ⟨i, hi, rfl, ht⟩ := hrel
    have HT := Lib.hid ht
    clear ht
    obtain ⟨c0, -, -, -, -, -⟩ := HC.out wr HT.out
    by_cases hlt : i < s.W
    · have v0 : (0 : Int) ≤ (i : Int) := by omega
      have v1 : (i : Int) < (s.W : Int) := by omega
      go_wp2_with fail
      clear c0
      obtain ⟨wo, rfl⟩ : ∃ x, x = wr := ⟨_, rfl⟩
      try rw [show decide ((i : Int) < (s.W : Int)) = true from decide_eq_true (by omega)]
      go_loopw [6] (fun t wr => ∃ c : Nat, c ≤ 3 ∧ t = .int .i64 c ∧ Turn (fun _ => False) w wr) (fun t _ => 3 - (intOf t).toNat)
      case atStart => exact ⟨0, by omega, rfl, HT.out⟩
      case round =>
        obtain ⟨c, hc, rfl, ht⟩ := hrel
        have HT2 := Lib.hid ht
        clear ht HT
        by_cases hlt2 : c < 3
        · obtain ⟨-, -, -, c7, -, -⟩ := HC.out wr HT2.out
          obtain ⟨x, cap, cV, hl⟩ := HVF.out wr HT2.out i c hlt hlt2
          have HFF := Lib.hid (fun n => HF.out _ (HT2.out.drewN n) i c hlt hlt2)
          obtain ⟨n, hn⟩ : ∃ n, n = (S.row (4 * i + c)).length := ⟨_, rfl⟩
          rw [← hn] at cV hl HFF
          clear hn
          have i0 : (0 : Int) ≤ (c : Int) := by omega
          have i1 : (c : Int) < 3 := by omega
          go_wp2_with fail
          go_quiet ((go_at_call 25; exact quiet_eq (HFF.out _)))
          go_wp2_with fail
          go_roundw
          case rel => exact ⟨c + 1, by omega, by go_num, HT2.out.drewN _⟩
          case measure => simp [intOf]; omega
        · obtain ⟨-, -, -, -, c8, -⟩ := HC.out wr HT2.out
          obtain ⟨x, cap, cV, hl⟩ := HVQ.out wr HT2.out i hlt
          have HFF := Lib.hid (fun n => HM.out _ (HT2.out.drewN n) i hlt)
          obtain ⟨n, hn⟩ : ∃ n, n = (S.row (4 * i + 3)).length := ⟨_, rfl⟩
          rw [← hn] at cV hl HFF
          clear hn
          go_wp2_with fail
          go_quiet ((go_at_call 26; exact quiet_eq (HFF.out _)))
          go_wp2_with fail
          go_roundw
          case rel => exact ⟨i + 1, by omega, by go_num, HT2.out.drewN _⟩
          case measure => simp [intOf]; omega
    · go_wp2_with fail
      refine (HH.out _ HT.out).mono ?_
      rintro e w2 ⟨⟨r1, rfl, hr1⟩, -, ht⟩
      have HT2 := Lib.hid (HT.out.trans ht (fun _ q => .inl q))
      have HR1 := Lib.hid hr1
      clear ht hr1 c0
      go_wp2_with fail
      refine (HG.out _ HT2.out).mono ?_
      rintro e w3 ⟨⟨r2, rfl, hr2⟩, rfl⟩
      obtain rfl : r1 = r2 := by
        have h1 := HR1.out
        cases r1 <;> cases r2 <;> simp_all
      clear hr2
      go_wp2_with fail
      go_ret
      exact ⟨by simp, HK.out.still HT2.out⟩
end

end Go.Proofs.Ytccadafajocbgaa
