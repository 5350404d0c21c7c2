/- Layer 10's laws: what the chapter's example says (awake). -/
import Derived.Test.YtccadafajocbgaaPoolN
open Go Go.RowKit
namespace Go.Proofs.Ytccadafajocbgaa

def noX : Nat → Prop := fun _ => False

theorem awake_any (w : World) : Calls Try.prog 22 #[] w fun e w' => e = .returned (.bool true) ∧ Below w.heap.size w w' := by
  obtain ⟨s, hs⟩ : ∃ s : Shp, s = ⟨2, fun k => if k = 0 then 4 else 1, fun k => if k = 0 then 2 else 0⟩ := ⟨_, rfl⟩
  have hv : s.val = .agg #[.int .i64 2, .int .i64 4, .int .i64 1, .int .i64 1, .int .i64 2, .int .i64 0, .int .i64 0] := by rw [hs]; rfl
  have hR : s.Right := by
    rw [hs]
    refine ⟨by decide, by decide, fun k hk => ?_, fun k hk => ?_⟩
    · rcases (show k = 0 ∨ k = 1 ∨ k = 2 by omega) with rfl | rfl | rfl <;> decide
    · rcases (show k = 0 ∨ k = 1 ∨ k = 2 by omega) with rfl | rfl | rfl <;> decide
  have hws : s.ws 3 = 16 := by rw [hs]; rfl
  obtain ⟨S0, hS0⟩ : ∃ S0, S0 = s.at_ 0 (s.off 3) := ⟨_, rfl⟩
  obtain ⟨M0, hM0⟩ : ∃ M0, M0 = MemS.fresh 100 := ⟨_, rfl⟩
  have e1 : (S0.take M0 0 0).1 = (1, 0) := by rw [hS0, hM0, hs]; kernel_rfl
  obtain ⟨S1, hS1⟩ : ∃ S1, S1 = (S0.take M0 0 0).2.1 := ⟨_, rfl⟩
  obtain ⟨M1, hM1⟩ : ∃ M1, M1 = (S0.take M0 0 0).2.2 := ⟨_, rfl⟩
  have e2 : (S1.take M1 0 0).1 = (2, 0) := by rw [hS1, hM1, hS0, hM0, hs]; kernel_rfl
  obtain ⟨S2, hS2⟩ : ∃ S2, S2 = (S1.take M1 0 0).2.1 := ⟨_, rfl⟩
  obtain ⟨M2, hM2⟩ : ∃ M2, M2 = (S1.take M1 0 0).2.2 := ⟨_, rfl⟩
  have e3 : (S2.give M2 1 1).1 = 0 := by rw [hS2, hM2, hS1, hM1, hS0, hM0, hs]; kernel_rfl
  obtain ⟨S3, hS3⟩ : ∃ S3, S3 = (S2.give M2 1 1).2.1 := ⟨_, rfl⟩
  obtain ⟨M3, hM3⟩ : ∃ M3, M3 = (S2.give M2 1 1).2.2 := ⟨_, rfl⟩
  have e4 : S3.take M3 0 0 = ((0, 9), S3, M3) := by
    have h1 : S3.W = 2 := by rw [hS3, hS2, hM2, hS1, hM1, hS0, hM0, hs]; kernel_rfl
    have h2 : S3.row 0 = [] := by rw [hS3, hS2, hM2, hS1, hM1, hS0, hM0, hs]; kernel_rfl
    unfold PS.take
    rw [if_neg (by rw [h1]; decide)]
    simp only [Int.toNat_zero, Nat.zero_mul, Nat.add_zero, h2]
  have e5 : (S3.drain 0).1 = 1 := by rw [hS3, hS2, hM2, hS1, hM1, hS0, hM0, hs]; kernel_rfl
  obtain ⟨S4, hS4⟩ : ∃ S4, S4 = (S3.drain 0).2 := ⟨_, rfl⟩
  have e6 : S4.many 0 0 = 1 := by rw [hS4, hS3, hS2, hM2, hS1, hM1, hS0, hM0, hs]; kernel_rfl
  have H0 := Lib.hid (new_ok 100 w (by omega))
  have HE1 := Lib.hid e1; have HE2 := Lib.hid e2; have HE3 := Lib.hid e3; have HE4 := Lib.hid e4; have HE5 := Lib.hid e5; have HE6 := Lib.hid e6
  have HS1 := Lib.hid hS1; have HM1 := Lib.hid hM1; have HS2 := Lib.hid hS2; have HM2 := Lib.hid hM2; have HS3 := Lib.hid hS3; have HM3 := Lib.hid hM3; have HS4 := Lib.hid hS4
  have HN := Lib.hid (fun (v : World) (m a b : Nat) (hm : IsMem v m a b (MemS.fresh 100)) hB hb => PG.new (w0 := w) (w := v) (X := noX) (m := m) (a := a) (b := b) 0 s hR (by rw [hws]; omega) hm (by rw [hws]; simp [MemS.fresh]) hB hb ⟨fun h => h, fun h => h, fun h => h⟩ (fun _ h => h.elim))
  rw [hv, ← hS0, ← hM0, show ((0 : Nat) : Int) = 0 from rfl] at HN
  have HMZ := Lib.hid hM0
  clear hS0 hM0 hs hv hR hws e1 e2 e3 e4 e5 e6 hS1 hM1 hS2 hM2 hS3 hM3 hS4
  go_enter Try.func22, Try.ntmps22
  go_wp2_with fail
  refine H0.out.mono ?_
  rintro e w1 ⟨m, a, b, rfl, hm, h1, h2, h3, ho⟩
  rw [← HMZ.out] at hm
  have HC := Lib.hid (HN.out w1 m a b hm ho.nil_below ⟨h1, h2, h3⟩)
  clear hm ho HN
  go_wp2_with fail
  refine HC.out.mono ?_
  rintro e w2 ⟨p, rfl, hp, -⟩
  have H := Lib.hid hp
  clear hp HC
  go_wp2_with fail
  refine (H.out.take 0 0).mono ?_
  rintro e w3 ⟨rfl, hp, -⟩
  rw [← HS1.out, ← HM1.out] at hp
  rw [HE1.out]
  have H1 := Lib.hid hp
  clear hp H
  go_wp2_with fail
  refine (H1.out.take 0 0).mono ?_
  rintro e w4 ⟨rfl, hp, -⟩
  rw [← HS2.out, ← HM2.out] at hp
  rw [HE2.out]
  have H2 := Lib.hid hp
  clear hp H1
  go_wp2_with fail
  refine (H2.out.give 1 1).mono ?_
  rintro e w5 ⟨rfl, hp, -⟩
  rw [← HS3.out, ← HM3.out] at hp
  rw [HE3.out]
  have H3 := Lib.hid hp
  clear hp H2
  go_wp2_with fail
  refine (H3.out.take 0 0).mono ?_
  rintro e w6 ⟨rfl, hp, -⟩
  rw [HE4.out] at hp ⊢
  have H4 := Lib.hid hp
  clear hp H3
  go_wp2_with fail
  refine (H4.out.drain 0).mono ?_
  rintro e w7 ⟨rfl, hp, -⟩
  rw [← HS4.out] at hp
  rw [HE5.out]
  have H5 := Lib.hid hp
  clear hp H4
  go_wp2_with fail
  refine (H5.out.free 0 0).mono ?_
  rintro e w8 ⟨rfl, rfl⟩
  rw [HE6.out]
  go_wp2_with fail
  go_ret
  exact ⟨rfl, H5.out.below⟩

end Go.Proofs.Ytccadafajocbgaa
