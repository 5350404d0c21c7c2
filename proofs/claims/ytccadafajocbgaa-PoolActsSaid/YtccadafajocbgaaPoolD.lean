/- Layer 10: Where, Free, Remote, Home. -/
import Derived.Test.YtccadafajocbgaaPoolC
open Go Go.RowKit
namespace Go.Proofs.Ytccadafajocbgaa

section
variable {w w' : World} {B m : Nat} {L : PLay} {S : PS}

/-- Where a block stands. -/
def PS.whereV (S : PS) (x : Int) : Array Value :=
  if 1 ≤ x ∧ x ≤ S.blks.length then #[.int .i64 (S.blk x).pos, .int .i64 (S.blk x).size, .int .i64 (S.blk x).owner, .int .i64 (S.blk x).cls, .bool true] else #[.int .i64 0, .int .i64 0, .int .i64 0, .int .i64 0, .bool false]

theorem where_any (h : IsPool w B m L S) (x : Int) : Calls Try.prog 24 #[.pointer (some ⟨L.p, 0, none⟩), .int .i64 x] w fun e w' => e = .returned (.tuple (S.whereV x)) ∧ Turn (fun _ => False) w w' := by
  unfold PS.whereV
  by_cases hx : S.there x
  · rw [if_pos (show 1 ≤ x ∧ x ≤ S.blks.length from hx)]
    have hN : 0 < S.blks.length := by have := hx.1; have := hx.2; omega
    obtain ⟨bk, cap, hb⟩ := h.bvForm hN
    have C := Lib.hid (block_in h hb x hx)
    have c0 := h.cellB hb hx 0 (by omega)
    have c1 := h.cellB hb hx 1 (by omega)
    have c2 := h.cellB hb hx 2 (by omega)
    have c3 := h.cellB hb hx 3 (by omega)
    obtain ⟨q, hq⟩ : ∃ q, q = (x - 1).toNat := ⟨_, rfl⟩
    rw [← hq] at C c0 c1 c2 c3
    simp only [PB.cells, Nat.add_zero] at c0 c1 c2 c3
    simp at c0 c1 c2 c3
    generalize S.blk x = b at *
    generalize L.p = p at *
    clear h hb hx hN hq
    go_enter Try.func24, Try.ntmps24
    go_wp2_with fail
    refine C.out.mono ?_
    rintro e w1 ⟨rfl, rfl⟩
    go_wp2_with fail
    go_quiet (fail)
    go_wp2_with fail
    refine bodyPost_ret (v := .tuple #[.int .i64 b.pos, .int .i64 b.size, .int .i64 b.owner, .int .i64 b.cls, .bool true]) (by simp [results, Try.results24, go_sem]) rfl ⟨rfl, (Turn.refl _ w).drewN _⟩
  · have hx' : ¬ (1 ≤ x ∧ x ≤ S.blks.length) := hx
    rw [if_neg hx']
    have C := Lib.hid (block_out h x hx)
    clear h hx hx'
    go_enter Try.func24, Try.ntmps24
    go_wp2_with fail
    refine C.out.mono ?_
    rintro e w1 ⟨rfl, rfl⟩
    go_wp2_with fail
    refine bodyPost_ret (v := .tuple #[.int .i64 0, .int .i64 0, .int .i64 0, .int .i64 0, .bool false]) (by simp [results, Try.results24, go_sem]) rfl ⟨rfl, Turn.refl _ w⟩

theorem where_nil (x : Int) (w : World) : Calls Try.prog 24 #[.pointer none, .int .i64 x] w fun e w' => e = .returned (.tuple #[.int .i64 0, .int .i64 0, .int .i64 0, .int .i64 0, .bool false]) ∧ w = w' := by
  have C := Lib.hid (block_nil x w)
  go_enter Try.func24, Try.ntmps24
  go_wp2_with fail
  refine C.out.mono ?_
  rintro e w1 ⟨rfl, rfl⟩
  go_wp2_with fail
  exact bodyPost_ret (v := .tuple #[.int .i64 0, .int .i64 0, .int .i64 0, .int .i64 0, .bool false]) (by simp [results, Try.results24, go_sem]) rfl ⟨rfl, rfl⟩

theorem rowLen {w : World} {B : Nat} {v : Value} {l : List Int} (h : RowI w B v l) : ∃ a cap, v = .slice a l.length cap := by
  rcases h.2 with ⟨hv, hn⟩ | ⟨g, cap, _, hv, _⟩
  · exact ⟨none, 0, by rw [hv, hn]⟩
  · exact ⟨_, _, hv⟩

/-- How many of a class a worker has. -/
def PS.many (S : PS) (v c : Int) : Int := if 0 ≤ v ∧ v < S.W ∧ 0 ≤ c ∧ c < 3 then (S.row (4 * v.toNat + c.toNat)).length else 0
def PS.manyR (S : PS) (v : Int) : Int := if 0 ≤ v ∧ v < S.W then (S.row (4 * v.toNat + 3)).length else 0

theorem free_rows (h : IsPool w B m L S) (v c : Int) : Calls Try.prog 25 #[.pointer (some ⟨L.p, 0, none⟩), .int .i64 v, .int .i64 c] w fun e w' => e = .returned (.int .i64 (S.many v c)) ∧ w = w' := by
  unfold PS.many
  by_cases hv : 0 ≤ v ∧ v < S.W
  · obtain ⟨q, rfl⟩ : ∃ q : Nat, v = q := ⟨v.toNat, by omega⟩
    have hq : q < S.W := by omega
    have C := Lib.hid (shard_in h q hq)
    by_cases hc : 0 ≤ c ∧ c < 3
    · obtain ⟨y, rfl⟩ : ∃ y : Nat, c = y := ⟨c.toNat, by omega⟩
      have hy : y < 3 := by omega
      rw [if_pos (by omega), Int.toNat_natCast, Int.toNat_natCast]
      have hk : 4 * q + y < 4 * S.W := by omega
      have c0 := h.cellR hk
      obtain ⟨a, cap, hv'⟩ := rowLen (h.rows _ hk)
      have hs := h.ok.short hk
      rw [hv'] at c0
      rw [show 4 * q + y = q * 4 + y by omega] at c0 hs ⊢
      generalize S.row (q * 4 + y) = l at *
      generalize L.p = p at *
      generalize L.sh = sh at *
      clear h hv' hk hv hq hc
      go_enter Try.func25, Try.ntmps25
      go_wp2_with fail
      refine C.out.mono ?_
      rintro e w1 ⟨rfl, rfl⟩
      go_wp2_with fail
      go_ret
      exact ⟨rfl, rfl⟩
    · rw [if_neg (by omega)]
      clear h hv hq
      by_cases h0 : c < 0
      · clear hc
        go_enter Try.func25, Try.ntmps25
        go_wp2_with fail
        refine C.out.mono ?_
        rintro e w1 ⟨rfl, rfl⟩
        go_wp2_with fail
        go_ret
        exact ⟨rfl, rfl⟩
      · have h3 : ¬ c < 3 := by omega
        clear hc
        go_enter Try.func25, Try.ntmps25
        go_wp2_with fail
        refine C.out.mono ?_
        rintro e w1 ⟨rfl, rfl⟩
        go_wp2_with fail
        go_ret
        exact ⟨rfl, rfl⟩
  · rw [if_neg (by omega)]
    have C := Lib.hid (shard_out h v (by omega))
    clear h hv
    go_enter Try.func25, Try.ntmps25
    go_wp2_with fail
    refine C.out.mono ?_
    rintro e w1 ⟨rfl, rfl⟩
    go_wp2_with fail
    go_ret
    exact ⟨rfl, rfl⟩

theorem remote_rows (h : IsPool w B m L S) (v : Int) : Calls Try.prog 26 #[.pointer (some ⟨L.p, 0, none⟩), .int .i64 v] w fun e w' => e = .returned (.int .i64 (S.manyR v)) ∧ w = w' := by
  unfold PS.manyR
  by_cases hv : 0 ≤ v ∧ v < S.W
  · obtain ⟨q, rfl⟩ : ∃ q : Nat, v = q := ⟨v.toNat, by omega⟩
    have hq : q < S.W := by omega
    have C := Lib.hid (shard_in h q hq)
    rw [if_pos hv, Int.toNat_natCast]
    have hk : 4 * q + 3 < 4 * S.W := by omega
    have c0 := h.cellR hk
    obtain ⟨a, cap, hv'⟩ := rowLen (h.rows _ hk)
    have hs := h.ok.short hk
    rw [hv'] at c0
    rw [show 4 * q + 3 = q * 4 + 3 by omega] at c0 hs ⊢
    generalize S.row (q * 4 + 3) = l at *
    generalize L.p = p at *
    generalize L.sh = sh at *
    clear h hv' hk hv hq
    go_enter Try.func26, Try.ntmps26
    go_wp2_with fail
    refine C.out.mono ?_
    rintro e w1 ⟨rfl, rfl⟩
    go_wp2_with fail
    go_ret
    exact ⟨rfl, rfl⟩
  · rw [if_neg (by omega)]
    have C := Lib.hid (shard_out h v (by omega))
    clear h hv
    go_enter Try.func26, Try.ntmps26
    go_wp2_with fail
    refine C.out.mono ?_
    rintro e w1 ⟨rfl, rfl⟩
    go_wp2_with fail
    go_ret
    exact ⟨rfl, rfl⟩

theorem free_nil (v c : Int) (w : World) : Calls Try.prog 25 #[.pointer none, .int .i64 v, .int .i64 c] w fun e w' => e = .returned (.int .i64 0) ∧ w = w' := by
  have C := Lib.hid (shard_nil v w)
  go_enter Try.func25, Try.ntmps25
  go_wp2_with fail
  refine C.out.mono ?_
  rintro e w1 ⟨rfl, rfl⟩
  go_wp2_with fail
  go_ret
  exact ⟨rfl, rfl⟩
theorem remote_nil (v : Int) (w : World) : Calls Try.prog 26 #[.pointer none, .int .i64 v] w fun e w' => e = .returned (.int .i64 0) ∧ w = w' := by
  have C := Lib.hid (shard_nil v w)
  go_enter Try.func26, Try.ntmps26
  go_wp2_with fail
  refine C.out.mono ?_
  rintro e w1 ⟨rfl, rfl⟩
  go_wp2_with fail
  go_ret
  exact ⟨rfl, rfl⟩

/-! Home -/
theorem home1_any (p z o c : Int) (t : Bool) (w : World) : Calls Try.prog 45 #[.agg #[.int .i64 p, .int .i64 z, .int .i64 o, .int .i64 c, .bool t]] w fun e w' => e = .returned (.bool t) ∧ Turn (fun _ => False) w w' := by
  go_enter Try.func45, Try.ntmps45
  go_wp2_with fail
  go_ret
  exact ⟨rfl, (Turn.refl _ w).alloc _⟩
theorem home2_any (v0 v1 v2 : Value) (a : Option Addr) (n cap : Nat) (w : World) : Calls Try.prog 47 #[.agg #[v0, v1, v2, .slice a n cap]] w fun e w' => e = .returned (.bool (decide (0 < n))) ∧ Turn (fun _ => False) w w' := by
  by_cases h : 0 < n
  · go_enter Try.func47, Try.ntmps47
    go_wp2_with fail
    go_ret
    exact ⟨ret_bool (by simp [h]), (Turn.refl _ w).alloc _⟩
  · go_enter Try.func47, Try.ntmps47
    go_wp2_with fail
    go_ret
    exact ⟨ret_bool (by simp [h]), (Turn.refl _ w).alloc _⟩

theorem indexB_any (a : Option Addr) (n cap : Nat) (b : Nat → PB) (hN : n ≤ 1000000) (w : World) (hc : ∀ i, i < n → ∃ bk, a = some ⟨bk, 0, none⟩ ∧ bk < w.heap.size ∧ ∀ j, j < 5 → w.cell? ⟨bk, i * 5 + j, none⟩ = (b i).cells[j]?) :
    Calls Try.prog 53 #[.slice a n cap, .func (.func 45) #[] #[]] w fun e w' => (∃ r : Int, e = .returned (.int .i64 r) ∧ (0 ≤ r ↔ ∃ i, i < n ∧ (b i).taken = true)) ∧ Turn (fun _ => False) w w' := by
  have HC := Lib.hid hc; clear hc
  go_enter Try.func53, Try.ntmps53
  go_wp2_with fail
  go_loopw [5, 8] (fun t5 t8 wr => ∃ k : Nat, k ≤ n ∧ t8 = .int .i64 k ∧ (∀ i, i < k → (b i).taken = false) ∧ Turn (fun _ => False) w wr) (fun _ t _ => n - (intOf t).toNat)
  case atStart => exact ⟨0, Nat.zero_le _, rfl, fun i hi => by omega, Turn.refl _ _⟩
  case round =>
    obtain ⟨k, hk, rfl, hr, ht⟩ := hrel
    have HR := Lib.hid hr; have HT := Lib.hid ht; clear hr ht
    by_cases hlt : k < n
    · obtain ⟨bk, rfl, hbk, hcell⟩ := HC.out k hlt
      have c0 := (HT.out.cell (a := ⟨bk, k * 5 + 0, none⟩) hbk (fun h => h)).trans (hcell 0 (by omega))
      have c1 := (HT.out.cell (a := ⟨bk, k * 5 + 1, none⟩) hbk (fun h => h)).trans (hcell 1 (by omega))
      have c2 := (HT.out.cell (a := ⟨bk, k * 5 + 2, none⟩) hbk (fun h => h)).trans (hcell 2 (by omega))
      have c3 := (HT.out.cell (a := ⟨bk, k * 5 + 3, none⟩) hbk (fun h => h)).trans (hcell 3 (by omega))
      have c4 := (HT.out.cell (a := ⟨bk, k * 5 + 4, none⟩) hbk (fun h => h)).trans (hcell 4 (by omega))
      simp [PB.cells] at c0 c1 c2 c3 c4
      clear hcell
      obtain ⟨q, hq⟩ : ∃ q, q = b k := ⟨_, rfl⟩
      rw [← hq] at c0 c1 c2 c3 c4
      have HQ := Lib.hid hq; clear hq
      go_wp2_with fail
      refine (home1_any q.pos q.size q.owner q.cls q.taken _).mono ?_
      rintro e w1 ⟨rfl, ht1⟩
      have HT1 := Lib.hid (HT.out.trans ht1 (fun x hx => hx.elim)); clear ht1
      clear c0 c1 c2 c3 c4
      by_cases hq : q.taken = true
      · go_wp2_with fail
        go_ret
        exact ⟨⟨k, rfl, ⟨fun _ => ⟨k, hlt, by rw [← HQ.out]; exact hq⟩, fun _ => by omega⟩⟩, HT1.out⟩
      · have hqf : q.taken = false := by simpa using hq
        clear hq
        go_wp2_with fail
        go_roundw
        case rel => exact ⟨k + 1, by omega, by go_num, fun i hi => by
          rcases Nat.lt_or_ge i k with h1 | h1
          · exact HR.out i h1
          · obtain rfl : i = k := by omega
            rw [← HQ.out]; exact hqf, HT1.out⟩
        case measure => simp [intOf]; omega
    · go_wp2_with fail
      go_ret
      refine ⟨⟨-1, rfl, ⟨fun h => by omega, fun ⟨i, hi, h⟩ => ?_⟩⟩, HT.out⟩
      have := HR.out i (by omega)
      rw [this] at h; cases h

theorem containsB_any (a : Option Addr) (n cap : Nat) (b : Nat → PB) (hN : n ≤ 1000000) (w : World) (hc : ∀ i, i < n → ∃ bk, a = some ⟨bk, 0, none⟩ ∧ bk < w.heap.size ∧ ∀ j, j < 5 → w.cell? ⟨bk, i * 5 + j, none⟩ = (b i).cells[j]?) :
    Calls Try.prog 44 #[.slice a n cap, .func (.func 45) #[] #[]] w fun e w' => (∃ r : Bool, e = .returned (.bool r) ∧ (r = true ↔ ∃ i, i < n ∧ (b i).taken = true)) ∧ Turn (fun _ => False) w w' := by
  have C := Lib.hid (indexB_any a n cap b hN w hc); clear hc
  go_enter Try.func44, Try.ntmps44
  go_wp2_with fail
  refine C.out.mono ?_
  rintro e w1 ⟨⟨r, rfl, hr⟩, ht⟩
  have HR := Lib.hid hr; have HT := Lib.hid ht; clear hr ht
  go_wp2_with fail
  go_ret
  exact ⟨⟨_, rfl, by rw [← HR.out]; simp⟩, HT.out⟩

theorem indexS_any (sh n : Nat) (cap : Nat) (V : Nat → Value) (l : Nat → List Int) (hN : n ≤ 64) (w : World) (hsh : sh < w.heap.size) (hc : ∀ k, k < 4 * n → w.cell? ⟨sh, k, none⟩ = some (V k)) (hv : ∀ k, k < 4 * n → ∃ a c, V k = .slice a (l k).length c ∧ (l k).length ≤ 192000) :
    Calls Try.prog 54 #[.slice (some ⟨sh, 0, none⟩) n cap, .func (.func 47) #[] #[]] w fun e w' => (∃ r : Int, e = .returned (.int .i64 r) ∧ (0 ≤ r ↔ ∃ i, i < n ∧ l (4 * i + 3) ≠ [])) ∧ Turn (fun _ => False) w w' := by
  have HC := Lib.hid hc; have HV := Lib.hid hv; clear hc hv
  go_enter Try.func54, Try.ntmps54
  go_wp2_with fail
  go_loopw [5, 8] (fun t5 t8 wr => ∃ k : Nat, k ≤ n ∧ t8 = .int .i64 k ∧ (∀ i, i < k → l (4 * i + 3) = []) ∧ Turn (fun _ => False) w wr) (fun _ t _ => n - (intOf t).toNat)
  case atStart => exact ⟨0, Nat.zero_le _, rfl, fun i hi => by omega, Turn.refl _ _⟩
  case round =>
    obtain ⟨k, hk, rfl, hr, ht⟩ := hrel
    have HR := Lib.hid hr; have HT := Lib.hid ht; clear hr ht
    by_cases hlt : k < n
    · have cc : ∀ j, j < 4 → wr.cell? ⟨sh, k * 4 + j, none⟩ = some (V (k * 4 + j)) := fun j hj => (HT.out.cell (a := ⟨sh, k * 4 + j, none⟩) hsh (fun h => h)).trans (HC.out _ (by omega))
      have c0 := cc 0 (by omega)
      have c1 := cc 1 (by omega)
      have c2 := cc 2 (by omega)
      have c3 := cc 3 (by omega)
      obtain ⟨a3, p3, hv3, hs⟩ := HV.out (k * 4 + 3) (by omega)
      rw [hv3] at c3
      clear cc hv3
      obtain ⟨q, hq⟩ : ∃ q, q = l (k * 4 + 3) := ⟨_, rfl⟩
      rw [← hq] at c3 hs
      have HQ := Lib.hid hq; clear hq
      generalize V (k * 4 + 0) = v0 at c0
      generalize V (k * 4 + 1) = v1 at c1
      generalize V (k * 4 + 2) = v2 at c2
      simp at c0
      go_wp2_with fail
      refine (home2_any v0 v1 v2 a3 q.length p3 _).mono ?_
      rintro e w1 ⟨rfl, ht1⟩
      have HT1 := Lib.hid (HT.out.trans ht1 (fun x hx => hx.elim)); clear ht1
      clear c0 c1 c2 c3
      by_cases hq : 0 < q.length
      · go_wp2_with fail
        go_ret
        exact ⟨⟨k, rfl, ⟨fun _ => ⟨k, hlt, by rw [show 4 * k + 3 = k * 4 + 3 by omega, ← HQ.out]; intro e; rw [e] at hq; simp at hq⟩, fun _ => by omega⟩⟩, HT1.out⟩
      · go_wp2_with fail
        go_roundw
        case rel => exact ⟨k + 1, by omega, by go_num, fun i hi => by
          rcases Nat.lt_or_ge i k with h1 | h1
          · exact HR.out i h1
          · obtain rfl : i = k := by omega
            rw [show 4 * i + 3 = i * 4 + 3 by omega, ← HQ.out]; exact List.eq_nil_of_length_eq_zero (by omega), HT1.out⟩
        case measure => simp [intOf]; omega
    · go_wp2_with fail
      go_ret
      refine ⟨⟨-1, rfl, ⟨fun h => by omega, fun ⟨i, hi, h⟩ => ?_⟩⟩, HT.out⟩
      exact absurd (HR.out i (by omega)) h

theorem containsS_any (sh n : Nat) (cap : Nat) (V : Nat → Value) (l : Nat → List Int) (hN : n ≤ 64) (w : World) (hsh : sh < w.heap.size) (hc : ∀ k, k < 4 * n → w.cell? ⟨sh, k, none⟩ = some (V k)) (hv : ∀ k, k < 4 * n → ∃ a c, V k = .slice a (l k).length c ∧ (l k).length ≤ 192000) :
    Calls Try.prog 46 #[.slice (some ⟨sh, 0, none⟩) n cap, .func (.func 47) #[] #[]] w fun e w' => (∃ r : Bool, e = .returned (.bool r) ∧ (r = true ↔ ∃ i, i < n ∧ l (4 * i + 3) ≠ [])) ∧ Turn (fun _ => False) w w' := by
  have C := Lib.hid (indexS_any sh n cap V l hN w hsh hc hv); clear hc hv
  go_enter Try.func46, Try.ntmps46
  go_wp2_with fail
  refine C.out.mono ?_
  rintro e w1 ⟨⟨r, rfl, hr⟩, ht⟩
  have HR := Lib.hid hr; have HT := Lib.hid ht; clear hr ht
  go_wp2_with fail
  go_ret
  exact ⟨⟨_, rfl, by rw [← HR.out]; simp⟩, HT.out⟩

/-- Are all blocks at home? -/
def PS.isHome (S : PS) : Prop := (∀ x, S.there x → (S.blk x).taken = false) ∧ ∀ v, v < S.W → S.row (4 * v + 3) = []

theorem home_any (h : IsPool w B m L S) : Calls Try.prog 23 #[.pointer (some ⟨L.p, 0, none⟩)] w fun e w' => (∃ r : Bool, e = .returned (.bool r) ∧ (r = true ↔ S.isHome)) ∧ Turn (fun _ => False) w w' := by
  obtain ⟨a, cap, hb⟩ := h.bvForm'
  have c8 := h.cell8
  rw [hb] at c8
  have hN := h.ok.N
  have CB := Lib.hid (containsB_any a S.blks.length cap (fun i => S.blk ((i : Int) + 1)) (by omega) w (fun i hi => by
    have hx : S.there ((i : Int) + 1) := ⟨by omega, by omega⟩
    obtain ⟨bk, cap', hb'⟩ := h.bvForm (by omega)
    have e := hb.symm.trans hb'
    injection e with e1 e2 e3
    subst e1 e3
    refine ⟨bk, rfl, (h.blocks.lt bk (by rw [hb']; rfl)).2, fun j hj => ?_⟩
    have := h.cellB hb' hx j hj
    rwa [show ((i : Int) + 1 - 1).toNat = i by omega] at this))
  have CS : Hid (∀ w', Turn (fun _ => False) w w' → _) := Lib.hid (fun w' (ht : Turn (fun _ => False) w w') => containsS_any L.sh S.W S.W L.V S.row h.ok.W2 w' (ht.lt h.shards.lt) (fun k hk => (ht.cell (a := ⟨L.sh, k, none⟩) h.shards.lt (fun h => h)).trans (h.cellR hk)) (fun k hk => by
    obtain ⟨a, c, hv⟩ := rowLen (h.rows k hk)
    exact ⟨a, c, hv, h.ok.short hk⟩))
  have C9 := Lib.hid (fun w' (ht : Turn (fun _ => False) w w') => (ht.cell (a := ⟨L.p, 9, none⟩) h.top.lt (fun h => h)).trans h.cell9)
  generalize L.p = p at *
  generalize L.sh = sh at *
  clear h hb
  go_enter Try.func23, Try.ntmps23
  go_wp2_with fail
  refine CB.out.mono ?_
  rintro e w1 ⟨⟨r, rfl, hr⟩, ht⟩
  have HR := Lib.hid hr; have HT := Lib.hid ht
  have c9 := C9.out w1 ht
  clear hr ht
  cases r with
  | true =>
    go_wp2_with fail
    go_ret
    refine ⟨⟨_, rfl, by simp only [Bool.false_eq_true, false_iff]; intro hh; obtain ⟨i, hi, h1⟩ := HR.out.1 trivial; have h2 := hh.1 ((i : Int) + 1) ⟨by omega, by omega⟩; rw [h1] at h2; cases h2⟩, HT.out⟩
  | false =>
    go_wp2_with fail
    refine (CS.out w1 HT.out).mono ?_
    rintro e w2 ⟨⟨r2, rfl, hr⟩, ht⟩
    have HR2 := Lib.hid hr; have HT2 := Lib.hid (HT.out.trans ht (fun x hx => .inl hx)); clear hr ht
    go_wp2_with fail
    go_ret
    refine ⟨⟨_, rfl, ?_⟩, HT2.out⟩
    have e1 : ∀ x, S.there x → (S.blk x).taken = false := fun x hx => by
      cases hq : (S.blk x).taken with
      | false => rfl
      | true =>
        have h1 := hx.1; have h2 := hx.2
        have := HR.out.2 ⟨(x - 1).toNat, by omega, by rw [show (((x - 1).toNat : Nat) : Int) + 1 = x by omega]; exact hq⟩
        cases this
    cases r2 with
    | true =>
      obtain ⟨i, hi, h1⟩ := HR2.out.1 rfl
      simp only [Bool.not_true, Bool.false_eq_true, false_iff]
      exact fun hh => h1 (hh.2 i hi)
    | false =>
      simp only [Bool.not_false, true_iff]
      refine ⟨e1, fun v hv => ?_⟩
      by_cases hz : S.row (4 * v + 3) = []
      · exact hz
      · have := HR2.out.2 ⟨v, hv, hz⟩
        cases this
theorem home_nil (w : World) : Calls Try.prog 23 #[.pointer none] w fun e w' => e = .returned (.bool false) ∧ w = w' := by
  go_enter Try.func23, Try.ntmps23
  go_wp2_with fail
  go_ret
  exact ⟨rfl, rfl⟩
end

end Go.Proofs.Ytccadafajocbgaa
