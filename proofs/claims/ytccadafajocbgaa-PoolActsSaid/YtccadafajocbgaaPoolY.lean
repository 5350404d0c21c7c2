/- Layer 10: the document's Where. -/
import Derived.Test.YtccadafajocbgaaPoolX
open Go Go.RowKit
set_option linter.unusedSimpArgs false
namespace Go.Proofs.Ytccadafajocbgaa

/-- What the document's Where tells. -/
def Shp.whereV (s : Shp) (x : Int) : Array Value :=
  if 1 ≤ x ∧ x ≤ s.off 3 then #[.int .i64 (s.place 0 (x - 1).toNat).pos, .int .i64 (s.place 0 (x - 1).toNat).size, .int .i64 (s.place 0 (x - 1).toNat).owner, .int .i64 (s.place 0 (x - 1).toNat).cls, .bool true]
  else #[.int .i64 0, .int .i64 0, .int .i64 0, .int .i64 0, .bool false]

section
variable {o : Bool} {w : World} {B : Nat} {L : RLay} {s : Shp} {rows : Nat → List Int} {tk : List Bool}

theorem RLies.cellS (h : RLies o w B L s rows tk) : w.cell? ⟨L.r, 0, none⟩ = some (.int .i64 s.W) ∧ (∀ c, c < 3 → w.cell? ⟨L.r, 1 + c, none⟩ = some (.int .i64 (s.z c))) ∧ (∀ c, c < 3 → w.cell? ⟨L.r, 4 + c, none⟩ = some (.int .i64 (s.n c))) ∧
    w.cell? ⟨L.r, 7, none⟩ = some (.slice (some ⟨L.f, 0, none⟩) s.W s.W) ∧ w.cell? ⟨L.r, 8, none⟩ = some (.slice (some ⟨L.q, 0, none⟩) s.W s.W) ∧ w.cell? ⟨L.r, 9, none⟩ = some L.tv := by
  refine ⟨h.top.cell 0, fun c hc => ?_, fun c hc => ?_, h.top.cell 7, h.top.cell 8, h.top.cell 9⟩
  · rw [h.top.cell]
    rcases (show c = 0 ∨ c = 1 ∨ c = 2 by omega) with rfl | rfl | rfl <;> rfl
  · rw [h.top.cell]
    rcases (show c = 0 ∨ c = 1 ∨ c = 2 by omega) with rfl | rfl | rfl <;> rfl

theorem rworker_any (h : RLies o w B L s rows tk) (v : Int) : Calls Try.prog 39 #[.pointer (some ⟨L.r, 0, none⟩), .int .i64 v] w fun e w' => e = .returned (.bool (decide (0 ≤ v ∧ v < s.W))) ∧ w = w' := by
  obtain ⟨c0, -⟩ := h.cellS
  by_cases hv : 0 ≤ v
  · by_cases hv2 : v < s.W
    · rw [show decide (0 ≤ v ∧ v < s.W) = true from decide_eq_true ⟨hv, hv2⟩]
      go_enter Try.func39, Try.ntmps39
      go_wp2_with fail
      go_ret
      exact ⟨rfl, rfl⟩
    · rw [show decide (0 ≤ v ∧ v < s.W) = false from decide_eq_false (fun q => hv2 q.2)]
      go_enter Try.func39, Try.ntmps39
      go_wp2_with fail
      go_ret
      exact ⟨rfl, rfl⟩
  · rw [show decide (0 ≤ v ∧ v < s.W) = false from decide_eq_false (fun q => hv q.1)]
    go_enter Try.func39, Try.ntmps39
    go_wp2_with fail
    go_ret
    exact ⟨rfl, rfl⟩

set_option maxRecDepth 100000 in
theorem rwhere_none (h : RLies o w B L s rows tk) (hR : s.Right) (hl : tk.length = s.off 3 + 1) (x : Int) (hx : ¬ (1 ≤ x ∧ x ≤ s.off 3)) : Calls Try.prog 30 #[.pointer (some ⟨L.r, 0, none⟩), .int .i64 x] w fun e w' => e = .returned (.tuple (s.whereV x)) ∧ Turn (fun _ => False) w w' := by
  obtain ⟨c0, -, -, -, -, c9⟩ := h.cellS
  obtain ⟨tg, tcap, htf, -, -⟩ := h.taken.form (by rw [hl]; omega)
  have hoff := Shp.off_le hR
  rw [htf, hl] at c9
  rw [show s.whereV x = #[.int .i64 0, .int .i64 0, .int .i64 0, .int .i64 0, .bool false] from if_neg hx]
  obtain ⟨N, hN⟩ : ∃ N, N = s.off 3 := ⟨_, rfl⟩
  rw [← hN] at c9 hx hoff
  have HT := Lib.hid (Turn.refl (fun _ => False) w)
  clear h htf hl hN
  rcases (show x < 1 ∨ (1 ≤ x ∧ (N : Int) < x) by omega) with h1 | ⟨h1, h2⟩
  · clear hx
    go_enter Try.func30, Try.ntmps30
    go_wp2_with fail
    exact bodyPost_ret (v := .tuple #[.int .i64 0, .int .i64 0, .int .i64 0, .int .i64 0, .bool false]) (by simp [results, Try.results30, go_sem]) rfl ⟨rfl, HT.out⟩
  · clear hx
    go_enter Try.func30, Try.ntmps30
    go_wp2_with fail
    exact bodyPost_ret (v := .tuple #[.int .i64 0, .int .i64 0, .int .i64 0, .int .i64 0, .bool false]) (by simp [results, Try.results30, go_sem]) rfl ⟨rfl, HT.out⟩

set_option maxRecDepth 100000 in
set_option maxHeartbeats 2000000 in
theorem rwhere_at (h : RLies o w B L s rows tk) (hR : s.Right) (hl : tk.length = s.off 3 + 1) (j : Nat) (hj : j < s.off 3) : Calls Try.prog 30 #[.pointer (some ⟨L.r, 0, none⟩), .int .i64 ((j : Int) + 1)] w fun e w' => e = .returned (.tuple #[.int .i64 (s.place 0 j).pos, .int .i64 (s.place 0 j).size, .int .i64 (s.place 0 j).owner, .int .i64 (s.place 0 j).cls, .bool true]) ∧ Turn (fun _ => False) w w' := by
  obtain ⟨-, -, -, -, -, c9⟩ := h.cellS
  obtain ⟨tg, tcap, htf, -, -⟩ := h.taken.form (by rw [hl]; omega)
  have hoff := Shp.off_le hR
  rw [htf, hl] at c9
  have HJ := Lib.hid hj
  obtain ⟨N, hN⟩ : ∃ N, N = s.off 3 := ⟨_, rfl⟩
  rw [← hN] at c9 hoff hj
  have HR := Lib.hid hR
  have HC := Lib.hid (fun (w' : World) (ht : Turn (fun _ => False) w w') => (h.still ht).cellS)
  have hrt := h.top.lt
  obtain ⟨r, hr⟩ : ∃ r, r = L.r := ⟨_, rfl⟩
  rw [← hr] at c9 HC hrt ⊢
  clear h htf hl hN hR hr
  have hW2 := HR.out.W2
  go_enter Try.func30, Try.ntmps30
  go_wp2_with fail
  clear c9
  go_loopw [9, 10, 11] (fun t9 t10 t11 wr => ∃ c : Nat, c ≤ 3 ∧ t11 = .int .i64 c ∧ s.off c ≤ j ∧ t9 = .int .i64 (s.ws c : Nat) ∧ t10 = .int .i64 ((j - s.off c : Nat) : Int) ∧ Turn (fun _ => False) w wr) (fun _ _ t _ => 3 - (intOf t).toNat)
  case atStart => exact ⟨0, by omega, rfl, Nat.zero_le _, rfl, by simp [Shp.off], Turn.refl _ _⟩
  case round =>
    obtain ⟨c, hc, rfl, hoc, rfl, rfl, ht⟩ := hrel
    have HT := Lib.hid ht
    by_cases hlt : c < 3
    · obtain ⟨c0, cz, cn, -, -, -⟩ := HC.out wr ht
      have cz := cz c hlt
      have cn := cn c hlt
      clear ht
      have i0 : (0 : Int) ≤ (c : Int) := by omega
      have i1 : (c : Int) < 3 := by omega
      have hnb : s.n c ≤ 1000 := HR.out.n1 c hlt
      have hzb := HR.out.z1 c hlt
      have hterm := Shp.term HR.out hlt
      have hwsl := Shp.ws_le HR.out c (by omega)
      obtain ⟨mn, hmn⟩ : ∃ mn, mn = s.W * s.n c := ⟨_, rfl⟩
      obtain ⟨k, hk⟩ : ∃ k, k = j - s.off c := ⟨_, rfl⟩
      obtain ⟨ws, hws⟩ : ∃ ws, ws = s.ws c := ⟨_, rfl⟩
      have hmni : (s.W : Int) * (s.n c : Int) = mn := by rw [hmn, Int.natCast_mul]
      rw [← hmn] at hterm
      rw [← hk, ← hws]
      rw [← hws] at hwsl
      have hk2 : k ≤ 192000 := by omega
      by_cases hkm : k < mn
      · have hcl : s.cl j = c := Shp.cl_of hlt hoc (by rw [Shp.off, ← hmn]; omega)
        have hn0 : 0 < s.n c := by
          rcases Nat.eq_zero_or_pos (s.n c) with e | e
          · rw [e, Nat.mul_zero] at hmn; omega
          · exact e
        have hkz : k * s.z c ≤ mn * s.z c := Nat.mul_le_mul_right _ (by omega)
        obtain ⟨kz, hkzq⟩ : ∃ kz, kz = k * s.z c := ⟨_, rfl⟩
        have hkzi : (k : Int) * (s.z c : Int) = kz := by rw [hkzq, Int.natCast_mul]
        have hkd : (k : Int).tdiv (s.n c : Int) = ((k / s.n c : Nat) : Int) := by rw [Int.tdiv_eq_ediv_of_nonneg (by omega), Int.natCast_ediv]
        have hne : ((s.n c : Int) == 0) = false := by rw [beq_eq_false_iff_ne]; omega
        have hkz2 : kz ≤ 4096000 := by rw [hkzq]; omega
        have hpl : s.place 0 j = ⟨ws + kz, s.z c, k / s.n c, c, false⟩ := by
          unfold Shp.place
          rw [hcl, ← hk, ← hkzq, ← hws, Nat.zero_add]
        have HPL := Lib.hid hpl
        have hkq : k / s.n c ≤ k := Nat.div_le_self _ _
        have HKW := Lib.hid (show wrap64 ((k : Int) / (s.n c : Int)) = (k : Int) / (s.n c : Int) from by
          rw [← Int.natCast_ediv]
          generalize k / s.n c = qq at hkq ⊢
          unfold wrap64; omega)
        clear hpl hkzq hmn hk hws hkz hoc HC
        go_wp2_with fail
        go_quiet (fail)
        go_wp2_with fail
        go_quiet (fail)
        go_wp2_with fail
        refine bodyPost_ret (v := .tuple #[.int .i64 ((ws : Int) + kz), .int .i64 (s.z c), .int .i64 ((k / s.n c : Nat) : Int), .int .i64 c, .bool true]) (by simp [results, Try.results30, go_sem, HKW.out]) rfl ⟨by rw [HPL.out]; simp only [Int.natCast_add], ?_⟩
        exact (HT.out.drewN _).drewN _
      · have hmz : mn * s.z c ≤ 4096000 := hterm.2
        obtain ⟨mz, hmzq⟩ : ∃ mz, mz = mn * s.z c := ⟨_, rfl⟩
        have hmzi : (mn : Int) * (s.z c : Int) = mz := by rw [hmzq, Int.natCast_mul]
        rw [← hmzq] at hmz
        have hoff1 : s.off (c + 1) = s.off c + mn := by rw [Shp.off, ← hmn]
        have hws1 : s.ws (c + 1) = ws + mz := by rw [Shp.ws, ← hmn, ← hmzq, hws]
        have HO1 := Lib.hid hoff1; have HS1 := Lib.hid hws1; have HK := Lib.hid hk; have HO := Lib.hid hoc
        clear hoff1 hws1 hmzq hmn hk hws hoc HC hterm
        go_wp2_with fail
        go_quiet (fail)
        go_wp2_with fail
        go_roundw
        case rel =>
          have h1 := HO1.out; have h2 := HS1.out; have h3 := HK.out; have h4 := HO.out
          exact ⟨c + 1, by omega, by go_num, by omega, by rw [h2, Int.natCast_add], by rw [h1, show (((j - (s.off c + mn) : Nat)) : Int) = (k : Int) - mn by omega], (HT.out.drewN _)⟩
        case measure => simp [intOf]; omega
    · exfalso
      have : c = 3 := by omega
      subst this
      have := HJ.out; omega
end

end Go.Proofs.Ytccadafajocbgaa
