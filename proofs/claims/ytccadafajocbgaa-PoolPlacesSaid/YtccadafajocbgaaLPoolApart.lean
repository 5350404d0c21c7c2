/- PoolApart returns true, whatever is told. -/
import Derived.Test.YtccadafajocbgaaPoolV
import Derived.Test.YtccadafajocbgaaLPoolKeeps
open Go Go.RowKit
set_option linter.unusedSimpArgs false
namespace Go.Proofs.Ytccadafajocbgaa

set_option maxRecDepth 100000 in
theorem poolApart_long (z mark : Int) (n cap : Nat) (a : Option Addr) (w : World) (h : 60 < n) : Calls Try.prog 6 #[.int .u32 z, .slice a n cap, .int .i64 mark] w fun e w' => e = .returned (.bool true) ∧ Below w.heap.size w w' := by
  go_enter Try.func6, Try.ntmps6
  go_wp2_with fail
  go_ret
  exact ⟨rfl, Below.refl _ _⟩

theorem PS.whereV_there {S : PS} {x : Int} (h : S.there x) : S.whereV x = #[.int .i64 (S.blk x).pos, .int .i64 (S.blk x).size, .int .i64 (S.blk x).owner, .int .i64 (S.blk x).cls, .bool true] := by
  unfold PS.whereV
  exact if_pos h

section
variable {w0 w w' : World} {X : Nat → Prop} {m a b p : Nat} {S S' : PS} {M M' : MemS}
theorem PG.store (h : PG w0 X m a b p S M w) (at_ n : Int) : Calls Try.prog 27 #[.pointer (some ⟨m, 0, none⟩), .int .i64 at_, .int .i64 n] w (PGPost w0 X m a b p S (M.store at_ n) w (.int .i64 (M.code at_))) := by
  refine (store_any m a b M at_ n w h.mem).mono ?_
  rintro e w' ⟨rfl, hm, ho⟩
  exact ⟨rfl, h.only hm ho⟩
theorem PG.load (h : PG w0 X m a b p S M w) (at_ : Int) : Calls Try.prog 28 #[.pointer (some ⟨m, 0, none⟩), .int .i64 at_] w (PGPost w0 X m a b p S (M.load at_) w (.tuple #[.int .i64 (M.word at_), .int .i64 (M.code at_)])) := by
  refine (load_any m a b M at_ w h.mem).mono ?_
  rintro e w' ⟨rfl, hm, ho⟩
  exact ⟨rfl, h.only hm ho⟩
theorem PG.forget (h : PG w0 X m a b p S M w) (hX : ∀ k, X k → w0.heap.size ≤ k) : PG w0 noX m a b p S M w := h.law (Turn.refl _ w) hX (fun _ q => q.elim)
theorem PG.box (h : PG w0 noX m a b p S M w) (c : List Value) (t : TypeId) : PG w0 (fun k => k = w.heap.size) m a b p S M (w.alloc (.cells c.toArray t)) ∧ Blk (w.alloc (.cells c.toArray t)) w.heap.size c t := by
  have hT := (Turn.refl noX w).alloc (.cells c.toArray t)
  have hB := Blk.new w c t
  exact ⟨h.law hT (fun _ q => q.elim) (fun k hk => by subst hk; exact ⟨hB.lt, .inr (Nat.le_refl _)⟩), hB⟩
theorem AI.room {x : Int} {pos size k : Nat} {mark : Int} (h : AI S M x pos size mark k) (hp : PG w0 X m a b p S M w) : pos + size ≤ 65536 := by
  have h1 := (h.li.room x h.here).2
  rw [h.atp, h.ats] at h1
  have h2 := hp.mem.room
  omega
end

set_option maxRecDepth 100000 in
set_option maxHeartbeats 2000000 in
theorem poolApart_short (z : Nat) (hz : z ≤ 4294967295) (mark : Int) (n : Nat) (c : Nat → Nat → Int) (v : Value) (w : World) (hv : ArgRows w v n 3 (fun i j => .int .i64 (c i j))) (h : n ≤ 60) : Calls Try.prog 6 #[.int .u32 z, v, .int .i64 mark] w fun e w' => e = .returned (.bool true) ∧ Below w.heap.size w w' := by
  obtain ⟨aa, cap, rfl, hv⟩ := hv
  have HV := Lib.hid hv; clear hv
  have CS := Lib.hid (small_any z hz w)
  have hn0 : ¬ 60 < n := by omega
  go_enter Try.func6, Try.ntmps6
  go_wp2_with fail
  refine CS.out.mono ?_
  rintro e w1 ⟨s, rfl, hu, ht⟩
  have HU := Lib.hid hu; have HT1 := Lib.hid ht
  clear hu ht CS
  unfold Shp.val shpV
  go_wp2_with fail
  obtain ⟨bx, hbx⟩ : ∃ bx, bx = w1.heap.size := ⟨_, rfl⟩
  obtain ⟨w2, hw2⟩ : ∃ w2, w2 = w1.alloc (.cells #[.int .i64 s.W, .int .i64 (s.z 0), .int .i64 (s.z 1), .int .i64 (s.z 2), .int .i64 (s.n 0), .int .i64 (s.n 1), .int .i64 (s.n 2)] 26) := ⟨_, rfl⟩
  have hX : Blk w2 bx s.cells 26 := by rw [hw2, hbx]; exact Blk.new w1 _ _
  have hT2 : Turn (fun _ => False) w w2 := by rw [hw2]; exact HT1.out.alloc _
  have hbxw : w.heap.size ≤ bx := by rw [hbx]; exact HT1.out.size
  rw [← hbx, ← hw2]
  have HX2 := Lib.hid hX; have HT2 := Lib.hid hT2
  clear hX hT2 hw2 hbx HT1
  have hR := HU.out.right
  have hN4 := Shp.off_eq s
  have hws := Shp.ws_le hR 3 (by omega)
  have CW := Lib.hid (fun v => rwords_any s hR v)
  have CO := Lib.hid (fun v => of_any s.W (s.z 0) (s.z 1) (s.z 2) (s.n 0) (s.n 1) (s.n 2) v)
  obtain ⟨ws, hwsq⟩ : ∃ ws, ws = s.ws 3 := ⟨_, rfl⟩
  have hws2 : ws ≤ 60000 := by
    rw [hwsq]
    have t : ∀ k, k < 3 → s.W * s.n k * s.z k ≤ 64 := fun k hk => by
      have h1 := HU.out.2.2 k hk
      have h2 : s.W * s.n k ≤ 4 * 4 := Nat.mul_le_mul HU.out.2.1 h1.2.2
      have h3 : s.W * s.n k * s.z k ≤ 4 * 4 * 4 := Nat.mul_le_mul h2 h1.2.1
      omega
    have := t 0 (by omega); have := t 1 (by omega); have := t 2 (by omega)
    simp only [Shp.ws]; omega
  have CN := Lib.hid (fun (v : World) (m a b : Nat) (hm : IsMem v m a b (MemS.fresh ws)) hB hb h3 => PG.new (w0 := w) (w := v) (X := fun k => k = bx) (m := m) (a := a) (b := b) 0 s hR (by omega) hm (by rw [MemS.fresh_words]; omega) hB hb h3)
  rw [← hwsq] at CW
  have HWS := Lib.hid hwsq
  unfold Shp.val shpV at CW CN
  unfold shpV at CO
  rw [show ((0 : Nat) : Int) = 0 from rfl] at CN
  obtain ⟨S0, hS0⟩ : ∃ S0, S0 = s.at_ 0 (s.off 3) := ⟨_, rfl⟩
  rw [← hS0] at CN
  have FT := Lib.hid (fun (mark : Int) => first_take (mark := mark) (s := s) (base := 0) (n := ws) hR (by omega) (by omega) (M := MemS.fresh ws) rfl (S := S0) hS0)
  clear hwsq hR hN4 hws hS0
  refine (CW.out _).mono ?_
  rintro e w3 ⟨rfl, ht⟩
  have HX3 := Lib.hid (HX2.out.turn ht (fun h => h)); have HT3 := Lib.hid (HT2.out.trans ht (fun _ h => .inl h)); clear ht
  go_wp2_with fail
  refine (new_mem ws (by omega) _).mono ?_
  rintro e w4 ⟨m, a, b, rfl, hm, hbd, ht⟩
  have HX4 := Lib.hid (HX3.out.turn ht (fun h => h)); have HT4 := Lib.hid (HT3.out.trans ht (fun _ h => .inl h))
  have HM4 := Lib.hid hm
  have HBD := Lib.hid (show (w.heap.size ≤ m ∧ w.heap.size ≤ a ∧ w.heap.size ≤ b) ∧ bx ≠ m ∧ bx ≠ a ∧ bx ≠ b from by
    have h1 := HT3.out.size
    have h2 := HX3.out.lt
    omega)
  clear ht hm hbd
  obtain ⟨c0, c1, c2, c3, c4, c5, c6⟩ := shp_cells HX4.out
  go_wp2_with fail
  refine (CO.out _).mono ?_
  rintro e w5 ⟨rfl, ht⟩
  have HX5 := Lib.hid (HX4.out.turn ht (fun h => h)); have HT5 := Lib.hid (HT4.out.trans ht (fun _ h => .inl h))
  have HM5 := Lib.hid (HM4.out.turn ht (fun h => h) (fun h => h) (fun h => h))
  clear ht c0 c1 c2 c3 c4 c5 c6
  go_wp2_with fail
  refine (CN.out w5 m a b HM5.out (turn_below HT5.out) HBD.out.1 ⟨fun h => HBD.out.2.1 h.symm, fun h => HBD.out.2.2.1 h.symm, fun h => HBD.out.2.2.2 h.symm⟩ (fun k hk => by subst hk; exact HX5.out.lt)).mono ?_
  rintro e w6 ⟨p, rfl, hp, ht⟩
  have HX6 := Lib.hid (HX5.out.turn ht (fun h => h)); have HP6 := Lib.hid hp
  clear ht hp
  clear HX2 HT2 HX3 HT3 HX4 HT4 HM4 HX5 HT5 HM5 CW CO CN HBD
  go_wp2_with fail
  refine (HP6.out.take 0 0).mono ?_
  rintro e w7 ⟨rfl, hp, ht⟩
  have HX7 := Lib.hid (HX6.out.turn ht (fun q => q.1 rfl))
  have ft := FT.out mark
  clear HX6 HP6 FT
  obtain ⟨T, hT⟩ : ∃ T, T = S0.take (MemS.fresh ws) 0 0 := ⟨_, rfl⟩
  rw [← hT] at hp ft ⊢
  clear hT
  obtain ⟨⟨x, q⟩, S1, M1⟩ := T
  simp only [] at hp ft ⊢
  have HP7 := Lib.hid hp
  clear hp ht
  rcases ft with ⟨hq, hn0'⟩ | ⟨x', he, hai, hsz⟩
  · have hq0 : (q == 0) = false := by simpa using hq
    obtain ⟨-, -, -, -, c4, -⟩ := shp_cells HX7.out
    rw [hn0'] at c4
    go_wp2_with fail
    refine (awake_any _).mono ?_
    rintro e w9 ⟨rfl, hb⟩
    have HB := Lib.hid (below_below HP7.out.below (Nat.le_refl _) hb); clear hb
    go_wp2_with fail
    go_ret
    exact ⟨rfl, HB.out⟩
  · injection he with e1 e2
    subst e1; subst e2
    obtain ⟨pos, hpos⟩ : ∃ pos, pos = (S1.blk x).pos := ⟨_, rfl⟩
    obtain ⟨size, hsize⟩ : ∃ size, size = (S1.blk x).size := ⟨_, rfl⟩
    have hw := PS.whereV_there hai.here
    rw [← hpos, ← hsize] at hai hw
    have HW7 := Lib.hid hw
    have hroom := hai.room HP7.out
    have HA7 := Lib.hid hai
    have HG7 := Lib.hid (HP7.out.forget (fun k hk => by subst hk; exact hbxw))
    clear hw hai hpos hsize HX7 HP7 hsz
    go_wp2_with fail
    refine (HG7.out.where_ x).mono ?_
    rintro e w8 ⟨rfl, hp, -⟩
    rw [HW7.out]
    have HG8 := Lib.hid hp
    clear hp HG7 HW7
    go_wp2_with fail
    go_loopw [19] (fun t wr => ∃ (k : Nat) (M : MemS), k ≤ size ∧ t = .int .i64 k ∧ AI S1 M x pos size mark k ∧ PG w noX m a b p S1 M wr) (fun t _ => size - (intOf t).toNat)
    case atStart => exact ⟨0, M1, by omega, rfl, HA7.out, HG8.out⟩
    case round =>
      obtain ⟨k, M2, hk, rfl, hai, hp⟩ := hrel
      have HA := Lib.hid hai; have HG := Lib.hid hp
      clear hai hp HA7 HG8
      by_cases hlt : k < size
      · have PU := Lib.hid (HA.out.put hlt)
        go_wp2_with fail
        refine (HG.out.store ((pos : Int) + k) mark).mono ?_
        rintro e w9 ⟨rfl, hp, -⟩
        rw [PU.out.1]
        have HG9 := Lib.hid hp
        clear hp
        go_wp2_with fail
        go_roundw
        case rel => exact ⟨k + 1, _, by omega, by go_num, PU.out.2, HG9.out⟩
        case measure => simp [intOf]; omega
      · obtain rfl : k = size := by omega
        go_wp2_with fail
        obtain ⟨wo, rfl⟩ : ∃ x, x = wr := ⟨_, rfl⟩
        go_loopw [20] (fun t wr => ∃ (i : Nat) (S : PS) (M : MemS), i ≤ n ∧ t = .int .i64 i ∧ AI S M x pos k mark k ∧ PG w noX m a b p S M wr) (fun t _ => n - (intOf t).toNat)
        case atStart => exact ⟨0, S1, M2, by omega, rfl, HA.out, HG.out⟩
        case round =>
          obtain ⟨i, S, M, hi, rfl, hai, hp⟩ := hrel
          have HA2 := Lib.hid hai; have HG2 := Lib.hid hp
          clear hai hp HA HG
          by_cases hlt2 : i < n
          · obtain ⟨bb, off, rfl, hbb, hcell⟩ := HV.out (by omega)
            have hB := HG2.out.below
            have c0 := (hB.cell (p := ⟨bb, off + i * 3 + 0, none⟩) hbb).trans (hcell i hlt2 0 (by omega))
            have c1 := (hB.cell (p := ⟨bb, off + i * 3 + 1, none⟩) hbb).trans (hcell i hlt2 1 (by omega))
            have c2 := (hB.cell (p := ⟨bb, off + i * 3 + 2, none⟩) hbb).trans (hcell i hlt2 2 (by omega))
            rw [Nat.add_zero] at c0
            clear hcell hB
            generalize c i 0 = y0 at c0
            generalize c i 1 = y1 at c1
            generalize c i 2 = y2 at c2
            obtain ⟨u, hu, hu3⟩ := wrapMod3 y0
            go_upto_region 21 with fail
            obtain ⟨bA, hbA⟩ : ∃ bA, bA = wr.heap.size := ⟨_, rfl⟩
            obtain ⟨w8, hw8⟩ : ∃ w8, w8 = wr.alloc (.cells #[.int .i64 y0, .int .i64 y1, .int .i64 y2] 41) := ⟨_, rfl⟩
            have hq := HG2.out.box [.int .i64 y0, .int .i64 y1, .int .i64 y2] 41
            have hbA2 : ∀ k, k = bA → w.heap.size ≤ k := fun k hk => by rw [hk, hbA]; exact HG2.out.below.size
            have HbA := Lib.hid hbA2
            clear hbA2
            rw [← hbA, ← hw8] at hq ⊢
            have HG3 := Lib.hid hq.1; have HB3 := Lib.hid hq.2
            clear hq hbA hw8 c0 c1 c2 HG2
            have a0 : w8.cell? ⟨bA, 0, none⟩ = some (.int .i64 y0) := by rw [HB3.out.cell]; rfl
            have a1 : w8.cell? ⟨bA, 1, none⟩ = some (.int .i64 y1) := by rw [HB3.out.cell]; rfl
            have a2 : w8.cell? ⟨bA, 2, none⟩ = some (.int .i64 y2) := by rw [HB3.out.cell]; rfl
            rcases (show u = 0 ∨ (u = 1 ∨ u = 2) by omega) with rfl | hu12
            · go_wp2_with fail
              refine (HG3.out.take y1 y2).mono ?_
              rintro e w9 ⟨rfl, hp, -⟩
              have hpg := hp.forget HbA.out
              clear hp a0 a1 a2 HB3
              have ht := HA2.out.take y1 y2
              obtain ⟨T, hT⟩ : ∃ T, T = S.take M y1 y2 := ⟨_, rfl⟩
              rw [← hT] at hpg ht ⊢
              clear hT
              obtain ⟨⟨g, q⟩, S', M'⟩ := T
              simp only [] at hpg ht ⊢
              have HG4 := Lib.hid hpg
              clear hpg
              rcases ht with ⟨hq, hai⟩ | ⟨y, he, hai, hyx, hy, hyt⟩
              · have hq0 : (q == 0) = false := by simpa using hq
                have HA4 := Lib.hid hai
                clear hai hq
                go_wp2_with fail
                go_roundw
                case rel => exact ⟨i + 1, _, _, by omega, by go_num, HA4.out, HG4.out⟩
                case measure => simp [intOf]; omega
              · injection he with e1 e2
                subst e1; subst e2
                have hw := PS.whereV_there hy
                have HA4 := Lib.hid hai
                have HO := Lib.hid (fun (M : MemS) (hh : AI S' M x pos k mark k) (j : Nat) (hj : j < (S'.blk g).size) (v : Int) => hh.other hy hyx hyt hj v)
                obtain ⟨pos2, hpos2⟩ : ∃ pos2, pos2 = (S'.blk g).pos := ⟨_, rfl⟩
                obtain ⟨size2, hsize2⟩ : ∃ size2, size2 = (S'.blk g).size := ⟨_, rfl⟩
                have hr2 := (hai.li.room g hy).2
                have hr3 := HG4.out.mem.room
                rw [← hpos2, ← hsize2] at hw HO hr2
                have hroom2 : pos2 + size2 ≤ 65536 := by omega
                have HW4 := Lib.hid hw
                clear hw hai hpos2 hsize2 hr2 hr3 hy hyx hyt
                go_wp2_with fail
                refine (HG4.out.where_ g).mono ?_
                rintro e w10 ⟨rfl, hp, -⟩
                rw [HW4.out]
                have HG5 := Lib.hid hp
                clear hp HG4 HW4
                go_wp2_with fail
                obtain ⟨wo2, rfl⟩ : ∃ x, x = w10 := ⟨_, rfl⟩
                go_loopw [29] (fun t wr => ∃ (j : Nat) (M : MemS), j ≤ size2 ∧ t = .int .i64 j ∧ AI S' M x pos k mark k ∧ PG w noX m a b p S' M wr) (fun t _ => size2 - (intOf t).toNat)
                case atStart => exact ⟨0, M', by omega, rfl, HA4.out, HG5.out⟩
                case round =>
                  obtain ⟨j, M3, hj, rfl, hai, hp⟩ := hrel
                  have HA6 := Lib.hid hai; have HG6 := Lib.hid hp
                  clear hai hp HA4 HG5
                  by_cases hlt3 : j < size2
                  · have PU := Lib.hid (fun v => HO.out M3 HA6.out j hlt3 v)
                    go_wp2_with fail
                    refine (HG6.out.store ((pos2 : Int) + j) _).mono ?_
                    rintro e w9 ⟨rfl, hp, -⟩
                    rw [(PU.out 0).1]
                    have HG9 := Lib.hid hp
                    clear hp
                    go_wp2_with fail
                    go_roundw
                    case rel => exact ⟨j + 1, _, by omega, by go_num, (PU.out _).2, HG9.out⟩
                    case measure => simp [intOf]; omega
                  · go_wp2_with fail
                    go_roundw
                    case rel => exact ⟨i + 1, _, _, by omega, by go_num, HA6.out, HG6.out⟩
                    case measure => simp [intOf]; omega
            · by_cases hyx : y2 = x
              · have hyx0 : (y2 == x) = true := by simpa using hyx
                have HGo := Lib.hid (HG3.out.forget HbA.out)
                subst hyx
                go_wp2_with fail
                go_roundw
                case rel => exact ⟨i + 1, _, _, by omega, by go_num, HA2.out, HGo.out⟩
                case measure => simp [intOf]; omega
              · have HGI := Lib.hid (HA2.out.give y1 y2 hyx)
                have hyx0 : (y2 == x) = false := by simpa using hyx
                go_wp2_with fail
                refine (HG3.out.give y1 y2).mono ?_
                rintro e w9 ⟨rfl, hp, ht⟩
                have HB4 := Lib.hid (HB3.out.turn ht (fun q => q.1 rfl))
                have hai := HGI.out
                clear HGI
                obtain ⟨T, hT⟩ : ∃ T, T = S.give M y1 y2 := ⟨_, rfl⟩
                rw [← hT] at hp hai ⊢
                clear hT
                obtain ⟨q, S', M'⟩ := T
                simp only [] at hp hai ⊢
                have HG4 := Lib.hid hp
                have HA4 := Lib.hid hai
                clear hp hai ht a0 a1 a2 HB3 HG3
                have a1 : w9.cell? ⟨bA, 1, none⟩ = some (.int .i64 y1) := by rw [HB4.out.cell]; rfl
                go_wp2_with fail
                refine (HG4.out.drain y1).mono ?_
                rintro e w10 ⟨rfl, hp, -⟩
                have HG5 := Lib.hid (hp.forget HbA.out)
                clear hp a1
                go_wp2_with fail
                go_roundw
                case rel => exact ⟨i + 1, _, _, by omega, by go_num, HA4.out.drain y1, HG5.out⟩
                case measure => simp [intOf]; omega
          · obtain rfl : i = n := by omega
            go_wp2_with fail
            obtain ⟨wo2, rfl⟩ : ∃ x, x = wr := ⟨_, rfl⟩
            go_loopw [30] (fun t wr => ∃ (j : Nat) (M : MemS), j ≤ k ∧ t = .int .i64 j ∧ AI S M x pos k mark k ∧ PG w noX m a b p S M wr) (fun t _ => k - (intOf t).toNat)
            case atStart => exact ⟨0, M, by omega, rfl, HA2.out, HG2.out⟩
            case round =>
              obtain ⟨j, M3, hj, rfl, hai, hp⟩ := hrel
              have HA6 := Lib.hid hai; have HG6 := Lib.hid hp
              clear hai hp HA2 HG2
              by_cases hlt3 : j < k
              · have PU := Lib.hid (HA6.out.load hlt3)
                go_wp2_with fail
                refine (HG6.out.load ((pos : Int) + j)).mono ?_
                rintro e w9 ⟨rfl, hp, -⟩
                rw [PU.out.1, PU.out.2.1]
                have HG9 := Lib.hid hp
                clear hp
                go_wp2_with fail
                go_roundw
                case rel => exact ⟨j + 1, _, by omega, by go_num, PU.out.2.2, HG9.out⟩
                case measure => simp [intOf]; omega
              · go_wp2_with fail
                refine (awake_any _).mono ?_
                rintro e w9 ⟨rfl, hb⟩
                have HB := Lib.hid (below_below HG6.out.below (Nat.le_refl _) hb); clear hb
                go_wp2_with fail
                go_ret
                exact ⟨rfl, HB.out⟩

theorem poolApart_walk (z mark : Int) (hz : (Lit.int .u32 z).wf = true) (n : Nat) (c : Nat → Nat → Int) (v : Value) (w : World) (hv : ArgRows w v n 3 (fun i j => .int .i64 (c i j))) : Calls Try.prog 6 #[.int .u32 z, v, .int .i64 mark] w fun e w' => e = .returned (.bool true) ∧ Below w.heap.size w w' := by
  have hz := wf_u32 hz
  by_cases h : n ≤ 60
  · obtain ⟨y, rfl⟩ : ∃ y : Nat, z = y := ⟨z.toNat, by omega⟩
    exact poolApart_short y (by omega) mark n c v w hv h
  · obtain ⟨a, cap, rfl, _⟩ := hv
    exact poolApart_long _ _ _ _ _ _ (by omega)

end Go.Proofs.Ytccadafajocbgaa
