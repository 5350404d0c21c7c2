/- DequeOnce returns true, whatever the kind, the room and the acts are. -/
import Derived.Test.YtlogmfpnjpamgaaDeqL
import Derived.Test.YtlogmfpnjpamgaaDeqS
import Derived.Test.YtlogmfpnjpamgaaArg3
import Derived.Laws.OwnMore
open Go Go.RowKit
namespace Go.Proofs.Ytlogmfpnjpamgaa

theorem info_int : (Try.prog.info? 3).map (fun i => (i.zero, i.size, i.bytes)) = some (some (.int .i64 0), 1, 8) := by kernel_rfl
theorem make_int (n : Nat) (hn : n ≤ 65536) (w : World) : (Instr.makeSlice 41 (.int .i64 n) (.int .i64 n)).run Try.prog w = .ok (.slice (some ⟨w.heap.size, 0, none⟩) n n) (w.alloc (.cells (List.replicate n (Value.int .i64 0)).toArray 3)) := by
  obtain ⟨i0, hi, hz0, hz1, hz2⟩ := info_parts info_int
  have h := run_make (P := Try.prog) w 41 3 i0 (.int .i64 0) Try.underlying41 hi hz0 .i64 .i64 n n (by omega) (by omega) (by rw [hz2]; omega) (by omega)
  simpa [Value.cells, hz1, madeCells_one] using h

/-- How often each of 0 to n - 1 is in l. -/
def cntL (n : Nat) (l : List Int) : List Value := (List.range n).map fun j : Nat => .int .i64 ((l.count (j : Int) : Nat) : Int)
theorem cntL_get {n j : Nat} {l : List Int} (h : j < n) : (cntL n l)[j]? = some (.int .i64 ((l.count (j : Int) : Nat) : Int)) := by simp [cntL, h]
theorem cntL_nil (n : Nat) : cntL n [] = List.replicate n (Value.int .i64 0) := by
  unfold cntL
  apply List.ext_getElem?
  intro j
  by_cases h : j < n <;> simp [h]
theorem cntL_snoc {n y : Nat} {l : List Int} (h : y < n) : (cntL n l).set y (.int .i64 (((l.count (y : Int) : Nat) : Int) + 1)) = cntL n (l ++ [(y : Int)]) := by
  apply List.ext_getElem?
  intro j
  by_cases hj : j < n
  · rw [cntL_get hj, List.getElem?_set]
    by_cases e : y = j
    · subst e; simp [cntL, h, count_snoc]
    · rw [if_neg e, cntL_get hj, count_snoc, if_neg (by omega)]; rfl
  · rw [List.getElem?_eq_none (by simp [cntL]; omega), List.getElem?_eq_none (by simp [cntL]; omega)]

theorem own_read {w : World} {base i : Nat} {a : Option Addr} {n c : Nat} {xs : List Int} (h : OwnI w base (.slice a n c) xs) (hi : i < xs.length) : ∃ g, a = some ⟨g, 0, none⟩ ∧ w.cell? ⟨g, i, none⟩ = some (.int .i64 (xs[i]'hi)) := by
  have h' := h
  obtain ⟨_, ⟨hv, hn⟩ | ⟨g, cap, cur, hv, _⟩⟩ := h
  · omega
  · injection hv with h1 h2 h3
    subst h1; subst h2; subst h3
    refine ⟨g, rfl, ?_⟩
    have := World.ownsRow.cellAt h' i (by omega)
    rw [this]
    simp [hi]

theorem take_snoc {xs : List Int} {i : Nat} (h : i < xs.length) : xs.take (i + 1) = xs.take i ++ [xs[i]] := by rw [List.take_succ_eq_append_getElem h]

theorem cntL_one {n y : Nat} {l : List Int} (h : y < n) (h0 : l.count (y : Int) = 0) : (cntL n l).set y (.int .i64 1) = cntL n (l ++ [(y : Int)]) := by
  have := cntL_snoc (l := l) h
  rw [h0] at this
  exact this

theorem once_zero {kind i : Nat} {A : AW} (h : Final kind A) (hi : i < A.full.length) : (A.handed ++ A.full.take i).count A.full[i] = 0 := by
  have m1 : A.full[i] ∈ A.full := List.getElem_mem hi
  have n1 : A.full[i] ∉ A.handed := fun hm => (h.hd _ hm).2.2 m1
  have c1 := List.count_eq_zero.2 n1
  have c2 := List.nodup_iff_count.1 h.fl.1 A.full[i]
  have c3 := (List.take_sublist (i + 1) A.full).count_le A.full[i]
  rw [take_snoc hi, count_snoc, if_pos rfl] at c3
  rw [List.count_append]
  omega

theorem once_count {kind i : Nat} {A : AW} (h : Final kind A) (h1 : 1 ≤ i) (h2 : i ≤ A.pushed) : 1 ≤ (A.handed ++ A.full).count (i : Int) ∧ (kind = 1 → (A.handed ++ A.full).count (i : Int) ≤ 1) := by
  rw [List.count_append]
  refine ⟨?_, fun hk => ?_⟩
  · rcases h.cov (i : Int) (by omega) (by omega) with a | a
    · have := List.count_pos_iff.2 a; omega
    · have := List.count_pos_iff.2 a; omega
  · have a := List.nodup_iff_count.1 h.fl.1 (i : Int)
    have b := List.nodup_iff_count.1 (h.one hk) (i : Int)
    by_cases hm : (i : Int) ∈ A.handed
    · have := List.count_eq_zero.2 (h.hd _ hm).2.2; omega
    · have := List.count_eq_zero.2 hm; omega

theorem dequeOnce_long (kind room : Int) (n : Nat) (a : Option Addr) (cap : Nat) (w : World) (h : 300 < n) : Calls Try.prog 5 #[.int .u8 kind, .int .u8 room, .slice a n cap] w fun e w' => e = .returned (.bool true) ∧ Below w.heap.size w w' := by
  have hn : (300 : Int) < (n : Int) := by omega
  go_enter Try.func5, Try.ntmps5
  go_wp2_with fail
  go_ret
  exact ⟨rfl, Below.refl _ _⟩

set_option maxRecDepth 100000 in
set_option maxHeartbeats 2000000 in
theorem dequeOnce_short (kind room : Nat) (n : Nat) (x : Nat → Nat) (b : Nat → Bool) (v : Value) (w : World) (hkk : kind ≤ 255) (hrr : room ≤ 255) (hv : ArgRows w v n 2 (fun i j => if j = 0 then .int .u8 (x i) else .bool (b i))) (hx : ∀ i, i < n → x i ≤ 255) (h : n ≤ 300) :
    Calls Try.prog 5 #[.int .u8 kind, .int .u8 room, v] w fun e w' => e = .returned (.bool true) ∧ Below w.heap.size w w' := by
  obtain ⟨aa, cap, rfl, hv⟩ := hv
  have HV := Lib.hid hv; have HX := Lib.hid hx; clear hv hx
  obtain ⟨k, hk⟩ : ∃ k : Nat, (kind : Int) % 3 + 1 = k := ⟨kind % 3 + 1, by omega⟩
  obtain ⟨r, hr⟩ : ∃ r : Nat, (room : Int) % 6 + 1 = r := ⟨room % 6 + 1, by omega⟩
  have HK : Hid (k = 1 ∨ k = 2 ∨ k = 3) := Lib.hid (by omega)
  have HR : Hid (1 ≤ r ∧ r ≤ 6) := Lib.hid (by omega)
  have HK1 := Lib.hid hk
  have C := Lib.hid (fun w => world_any kind room k r w hkk hrr hk hr)
  clear hk hr hrr
  have hn0 : ¬ 300 < n := by omega
  go_enter Try.func5, Try.ntmps5
  go_wp2_with fail
  refine (C.out _).mono ?_
  rintro e w1 ⟨p, rfl, hg⟩
  have HG := Lib.hid hg; clear hg C
  go_wp2_with fail
  go_loopw [9] (fun t wr => ∃ (i : Nat) (A : AW), i ≤ n ∧ t = .int .i64 i ∧ Good w wr p k r i A) (fun t _ => n - (intOf t).toNat)
  case atStart => exact ⟨0, _, by omega, rfl, HG.out⟩
  case round =>
    obtain ⟨i, A, hi, rfl, hg⟩ := hrel
    clear HG
    have HG := Lib.hid hg; clear hg
    by_cases hlt : i < n
    · obtain ⟨bb, off, rfl, hbb, hcell⟩ := HV.out (by omega)
      have c0 := (HG.out.below.cell (p := ⟨bb, off + i * 2 + 0, none⟩) hbb).trans (hcell i hlt 0 (by omega))
      have c1 := (HG.out.below.cell (p := ⟨bb, off + i * 2 + 1, none⟩) hbb).trans (hcell i hlt 1 (by omega))
      rw [Nat.add_zero, if_pos rfl] at c0
      rw [if_neg (by omega)] at c1
      have hxi := HX.out i hlt
      clear hcell
      generalize x i = y at c0 hxi
      generalize b i = q at c1
      have C := Lib.hid (HG.out.move HK.out HR.out.1 (Nat.le_trans HR.out.2 (by omega)) (by omega) y q hxi)
      clear hxi
      go_wp2_with fail
      refine C.out.mono ?_
      rintro e w2 ⟨rfl, hg⟩
      clear HG C
      have HG := Lib.hid hg; clear hg
      go_wp2_with fail
      go_roundw
      case rel => exact ⟨i + 1, _, by omega, by go_num, HG.out⟩
      case measure => simp [intOf]; omega
    · have C := Lib.hid (settle_any HG.out HK.out HR.out.1 HR.out.2 (by omega))
      clear HG
      go_wp2_with fail
      refine C.out.mono ?_
      rintro e w3 ⟨rfl, A, N, hN, hg, hno, hsz⟩
      have HF := Lib.hid (final HK.out hg.inv hg.all (hno 0) hsz)
      obtain ⟨a, c, a', c', c14, c15, c13, _, _, vl⟩ := hg.rows
      have hlen := hg.len
      have HG := Lib.hid hg
      clear hg hno hsz C
      obtain ⟨m, hm⟩ : ∃ m : Nat, (A.pushed : Int) + 1 = m := ⟨A.pushed + 1, by omega⟩
      have hmk := fun w => make_int m (by omega) w
      go_wp2_with fail
      clear hmk
      have HB0 : Hid (Blk (w3.alloc (.cells (List.replicate m (Value.int .i64 0)).toArray 3)) w3.heap.size (cntL m []) 3) := Lib.hid (by rw [cntL_nil]; exact newBlk _ _ _ _ rfl)
      have HM := Lib.hid hm
      clear c14 c15 c13 vl hm
      obtain ⟨tb, htb⟩ : ∃ tb, tb = w3.heap.size := ⟨_, rfl⟩
      have htl : w3.heap.size ≤ tb := by omega
      have HT := Lib.hid htb
      rw [← htb] at HB0 ⊢
      clear htb
      go_loopw [11] (fun t wr => ∃ i : Nat, i ≤ A.handed.length ∧ t = .int .i64 i ∧ Blk wr tb (cntL m (A.handed.take i)) 3 ∧ Only [] w3 wr) (fun t _ => A.handed.length - (intOf t).toNat)
      case atStart => exact ⟨0, by omega, rfl, HB0.out, (Only.refl _ _).alloc _⟩
      case round =>
        obtain ⟨i1, hi1, rfl, hb, ho⟩ := hrel
        obtain ⟨a, c, a', c', c14, c15, c13, o14, o15, vl⟩ := (HG.out.only0 ho).rows
        have HO := Lib.hid ho; clear ho
        by_cases hlt1 : i1 < A.handed.length
        · obtain ⟨g, rfl, hc⟩ := own_read o15 hlt1
          obtain ⟨q1, q2, _⟩ := HF.out.hd _ (List.getElem_mem hlt1)
          have HTK := Lib.hid (take_snoc hlt1)
          generalize A.handed[i1] = z at hc q1 q2 HTK
          obtain ⟨y, rfl⟩ : ∃ y : Nat, z = y := ⟨z.toNat, by omega⟩
          have hym : y < m := by have := HM.out; omega
          have hy1 : ¬ (y : Int) < 1 := by omega
          have hy2 : ¬ A.pushed < y := by omega
          have ct := (hb.cell y).trans (cntL_get hym)
          have ft := hb.free y
          have tl := hb.lt
          have hcl : (A.handed.take i1).count (y : Int) ≤ 1000 := Nat.le_trans List.count_le_length (by rw [List.length_take]; omega)
          have HB := Lib.hid (hb.setAs y _ (cntL_snoc hym))
          rw [← HTK.out] at HB
          clear hb o14 o15
          generalize (A.handed.take i1).count (y : Int) = cc at ct hcl HB
          go_wp2_with fail
          go_roundw
          case rel => exact ⟨i1 + 1, by omega, by go_num, HB.out, HO.out.setNew htl _⟩
          case measure => simp [intOf]; omega
        · obtain rfl : i1 = A.handed.length := by omega
          have HB : Hid (Blk wr tb (cntL m (A.handed ++ A.full.take 0)) 3) := Lib.hid (by simpa using hb)
          clear hb o14 o15
          obtain ⟨wo, rfl⟩ : ∃ wo : World, wo = wr := ⟨_, rfl⟩
          go_wp2_with fail
          clear c14 c15 c13 vl
          go_loopw [13] (fun t wr => ∃ i : Nat, i ≤ A.full.length ∧ t = .int .i64 i ∧ Blk wr tb (cntL m (A.handed ++ A.full.take i)) 3 ∧ Only [] w3 wr) (fun t _ => A.full.length - (intOf t).toNat)
          case atStart => exact ⟨0, by omega, rfl, HB.out, HO.out⟩
          case round =>
            clear HB HO
            obtain ⟨i2, hi2, rfl, hb, ho⟩ := hrel
            obtain ⟨a, c, a', c', c14, c15, c13, o14, o15, vl⟩ := (HG.out.only0 ho).rows
            have HO := Lib.hid ho; clear ho
            by_cases hlt2 : i2 < A.full.length
            · obtain ⟨g, rfl, hc⟩ := own_read o14 hlt2
              obtain ⟨q1, q2⟩ := HF.out.fl.2 _ (List.getElem_mem hlt2)
              have HTK := Lib.hid (take_snoc hlt2)
              have h0 := once_zero HF.out hlt2
              generalize A.full[i2] = z at hc q1 q2 HTK h0
              obtain ⟨y, rfl⟩ : ∃ y : Nat, z = y := ⟨z.toNat, by omega⟩
              have hym : y < m := by have := HM.out; omega
              have ct := (hb.cell y).trans (cntL_get hym)
              rw [h0] at ct
              have ct0 : wr.cell? ⟨tb, y, none⟩ = some (.int .i64 0) := ct
              have ft := hb.free y
              have tl := hb.lt
              have HB := Lib.hid (hb.setAs y _ (cntL_one hym h0))
              rw [List.append_assoc, ← HTK.out] at HB
              clear hb o14 o15 ct h0
              go_wp2_with fail
              go_roundw
              case rel => exact ⟨i2 + 1, by omega, by go_num, HB.out, HO.out.setNew htl _⟩
              case measure => simp [intOf]; omega
            · obtain rfl : i2 = A.full.length := by omega
              have HB : Hid (Blk wr tb (cntL m (A.handed ++ A.full)) 3) := Lib.hid (by simpa using hb)
              clear hb o14 o15
              obtain ⟨wo2, rfl⟩ : ∃ wo : World, wo = wr := ⟨_, rfl⟩
              have hm1 : 1 ≤ m := by have := HM.out; omega
              go_wp2_with fail
              clear c14 c15 c13 vl
              go_loopw [14] (fun t wr => ∃ i : Nat, 1 ≤ i ∧ i ≤ m ∧ t = .int .i64 i ∧ Blk wr tb (cntL m (A.handed ++ A.full)) 3 ∧ Only [] w3 wr) (fun t _ => m - (intOf t).toNat)
              case atStart => exact ⟨1, by omega, hm1, rfl, HB.out, HO.out⟩
              case round =>
                clear HB HO
                obtain ⟨i3, hi1, hi2', rfl, hb, ho⟩ := hrel
                obtain ⟨a, c, a', c', c14, c15, c13, o14, o15, vl⟩ := (HG.out.only0 ho).rows
                have HO := Lib.hid ho; clear ho o14 o15
                by_cases hlt3 : i3 < m
                · have hle : i3 ≤ A.pushed := by have := HM.out; omega
                  obtain ⟨p1, p2⟩ := once_count HF.out hi1 hle
                  have ct := (hb.cell i3).trans (cntL_get hlt3)
                  have tl := hb.lt
                  have HB := Lib.hid hb
                  clear hb
                  generalize (A.handed ++ A.full).count (i3 : Int) = cc at ct p1 p2
                  by_cases hk3 : (kind : Int) % 3 = 0
                  · have hcc : cc = 1 := by have := p2 (by have := HK1.out; omega); omega
                    subst hcc
                    have ct1 : wr.cell? ⟨tb, i3, none⟩ = some (.int .i64 1) := ct
                    clear ct p1 p2
                    go_wp2_with fail
                    go_roundw
                    case rel => exact ⟨i3 + 1, by omega, by omega, by go_num, HB.out, HO.out⟩
                    case measure => simp [intOf]; omega
                  · have hb3 : ((kind : Int) % 3 == 0) = false := by simpa using hk3
                    have hc1 : ¬ (cc : Int) < 1 := by omega
                    clear p2
                    go_wp2_with fail
                    go_roundw
                    case rel => exact ⟨i3 + 1, by omega, by omega, by go_num, HB.out, HO.out⟩
                    case measure => simp [intOf]; omega
                · have hgt : ¬ i3 ≤ A.pushed := by have := HM.out; omega
                  clear hb
                  go_wp2_with fail
                  refine (awake_any _).mono ?_
                  rintro e wz ⟨rfl, hbz⟩
                  have HBz := Lib.hid (below_below (below_only HG.out.below (Nat.le_refl _) HO.out (by simp)) (Nat.le_refl _) hbz)
                  clear hbz
                  go_wp2_with fail
                  go_ret
                  exact ⟨rfl, HBz.out⟩

theorem dequeOnce_walk (kind room : Int) (n : Nat) (x : Nat → Nat) (b : Nat → Bool) (v : Value) (w : World) (h1 : 0 ≤ kind ∧ kind ≤ 255) (h2 : 0 ≤ room ∧ room ≤ 255) (hv : ArgRows w v n 2 (fun i j => if j = 0 then .int .u8 (x i) else .bool (b i))) (hx : ∀ i, i < n → x i ≤ 255) :
    Calls Try.prog 5 #[.int .u8 kind, .int .u8 room, v] w fun e w' => e = .returned (.bool true) ∧ Below w.heap.size w w' := by
  by_cases h : n ≤ 300
  · obtain ⟨i, rfl⟩ : ∃ i : Nat, kind = i := ⟨kind.toNat, by omega⟩
    obtain ⟨j, rfl⟩ : ∃ j : Nat, room = j := ⟨room.toNat, by omega⟩
    exact dequeOnce_short i j n x b v w (by omega) (by omega) hv hx h
  · obtain ⟨a, cap, rfl, _⟩ := hv
    exact dequeOnce_long _ _ _ _ _ _ (by omega)

end Go.Proofs.Ytlogmfpnjpamgaa
