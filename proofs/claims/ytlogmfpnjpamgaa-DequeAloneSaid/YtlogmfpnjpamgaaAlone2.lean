/- DequeAlone, of kind 2. -/
import Derived.Test.YtlogmfpnjpamgaaAloneA
open Go Go.RowKit
namespace Go.Proofs.Ytlogmfpnjpamgaa

set_option maxRecDepth 100000 in
set_option maxHeartbeats 2000000 in
theorem dequeAlone_2 (kind room : Nat) (zs : List Int) (v : Value) (w : World) (hkk : kind ≤ 255) (hrr : room ≤ 255) (hv : ArgInts w .u8 v zs) (h : zs.length ≤ 100) (hz : ∀ z ∈ zs, (Lit.int .u8 z).wf = true) (hk : (kind : Int) % 3 + 1 = 2) :
    Calls Try.prog 6 #[.int .u8 kind, .int .u8 room, v] w fun e w' => e = .returned (.bool true) ∧ Below w.heap.size w w' := by
  have hz : ∀ i, i < zs.length → ∃ y : Nat, y ≤ 255 ∧ zs.getD i 0 = (y : Int) := fun i hi => by
    have e : zs.getD i 0 = zs[i] := by simp [List.getD_eq_getElem?_getD, hi]
    have := hz zs[i] (List.getElem_mem hi)
    rw [e]
    simp [Lit.wf] at this
    have m1 : IntKind.u8.min = 0 := by decide
    have m2 : IntKind.u8.max = 255 := by decide
    rw [m1, m2] at this
    exact ⟨zs[i].toNat, by omega, by omega⟩
  obtain ⟨aa, cap, rfl, hv⟩ := hv
  obtain ⟨n, hn⟩ : ∃ n, n = zs.length := ⟨_, rfl⟩
  rw [← hn] at hv h hz ⊢
  have HV := Lib.hid hv; have HZ := Lib.hid hz; clear hv hn hz
  have hn0 : ¬ 100 < n := by omega
  obtain ⟨r, hr⟩ : ∃ r : Nat, (room : Int) % 6 + 1 = r := ⟨room % 6 + 1, by omega⟩
  have hr1 : 1 ≤ r := by omega
  have hr6 : r ≤ 6 := by omega
  go_enter Try.func6, Try.ntmps6
  go_wp2_with fail
  refine (new_ok 20 _ (by omega)).mono ?_
  rintro e w1 ⟨m, a, b, rfl, hm, h1, h2, h3, ho⟩
  have HB1 := Lib.hid ho.nil_below
  have C := dnew_live m a b (MemS.fresh 20) 2 (0 : Nat) r w1 hm (by omega) (by omega) (by omega)
  rw [fresh_tcode (by omega), if_pos rfl] at C
  have HC := Lib.hid C; clear C hm ho
  go_wp2_with fail
  refine HC.out.mono ?_
  rintro e w2 ⟨rfl, hm, ho⟩
  have HB2 := Lib.hid (below_only3 HB1.out (Nat.le_refl _) ho h1 h2 h3)
  have HM2 := Lib.hid hm
  clear hm ho HC
  unfold aggD
  go_wp2_with fail
  obtain ⟨d, hd⟩ : ∃ d, d = w2.heap.size := ⟨_, rfl⟩
  have hS := DS.begin (kind := 2) (room := r) (d := d) HM2.out (by omega) (by omega) HB2.out ⟨h1, h2, h3⟩ is2K hd rfl
  have HS := Lib.hid hS
  rw [← hd]
  clear hS hd HM2 hk hr hkk hrr HB1 HB2
  go_loopw [13, 14, 15, 16] (fun hv us xv t wr => ∃ (i x used : Nat) (l : List Int), i ≤ n ∧ us = .int .i64 used ∧ xv = .int .i64 x ∧ t = .int .i64 i ∧ AloneS w wr m a b d 2 r i x used l hv) (fun _ _ _ t _ => n - (intOf t).toNat)
  case atStart => exact ⟨0, 0, 0, [], by omega, rfl, rfl, rfl, HS.out, held_nil _ _ _, by omega, by omega, by simp⟩
  case round =>
    obtain ⟨i, x, used, l, hi, rfl, rfl, rfl, hs, hh, hx, hu, hl⟩ := hrel
    clear HS
    by_cases hlt : i < n
    · obtain ⟨bb, off, rfl, hbb, hcell⟩ := HV.out (by omega)
      obtain ⟨y, hy, hzy⟩ := HZ.out i hlt
      have c1 := (hs.hb.cell (p := ⟨bb, off + i, none⟩) hbb).trans (hcell i (by omega))
      rw [hzy] at c1
      clear hcell hzy
      obtain ⟨d0, d1, d2⟩ := hs.cells
      have HS := Lib.hid hs; have HH := Lib.hid hh
      obtain ⟨q, hq⟩ : ∃ q : Nat, (y : Int) % 3 = q := ⟨y % 3, by omega⟩
      have hq3 : q = 0 ∨ q = 1 ∨ q = 2 := by omega
      have hx9 : x ≤ 100 := by omega
      have hu9 : used ≤ 100 := by omega
      clear hs
      rcases hq3 with rfl | rfl | rfl
      · obtain ⟨ha, hc, rfl⟩ := held_form hh
        clear hh
        have C := Lib.hid (HS.out.pushH HH.out ((x : Int) + 1) is2K)
        go_wp2_with fail
        refine C.out.mono ?_
        rintro e w2 ⟨o, rfl, hs, -, hh, -⟩
        clear C
        clear HS HH d0 d1 d2
        have HO := Lib.hid hs; have HH := Lib.hid hh; clear hs hh
        by_cases hf1 : l.length = r
        · skip
          have hf : l.length = r ∨ 2 = 1 ∧ used = r := .inl hf1
          obtain rfl : r = l.length := hf1.symm
          clear hf1
          skip
          have C := Lib.hid (HO.out.runH HH.out is2K (by omega) (by omega) (fun D hr => alone_push_full is2K hr hf))
          go_wp2_with fail
          refine C.out.mono ?_
          rintro e w3 ⟨rfl, hs, hh⟩
          clear C
          clear HO HH hf
          have HS := Lib.hid hs; have HH := Lib.hid hh; clear hs hh
          go_wp2_with fail
          go_roundw
          case rel => exact ⟨i + 1, x + 1, _, _, by omega, rfl, by go_num, by go_num, ⟨HS.out.mono (by omega), HH.out, by omega, by omega, by exact hl⟩⟩
          case measure => simp [intOf]; omega
        · skip
          have hb1 : ((l.length : Int) == (r : Int)) = false := by simp; omega
          have hf : ¬ (l.length = r ∨ 2 = 1 ∧ used = r) := by omega
          clear hf1
          skip
          have C := Lib.hid (HO.out.runH HH.out is2K (by omega) (by omega) (fun D hr => alone_push is2K hr1 (by omega) hr hf))
          go_wp2_with fail
          refine C.out.mono ?_
          rintro e w3 ⟨rfl, hs, hh⟩
          clear C
          clear HO HH hf
          have HS := Lib.hid hs; have HH := Lib.hid hh; clear hs hh
          obtain ⟨i0, hi0, hz0, hz1, hz2⟩ := info_parts infoI64
          have HL := Lib.hid HS.out.lt
          have HB3 := Lib.hid HS.out.hb.size
          go_wp2_with ((refine wpList_append_held _ rfl (.tmp 105) (.tmp 107) 48 rfl [m, a, b, d] w.heap.size i0 Try.underlying48 hi0 hz0 hz1 hz2 _ l rfl ?held ⟨w3.heap.size, 0, none⟩ 1 (x + 1) rfl ?cx ?cl ?cb ?cS ?_; (case held => exact HH.out.only (Only.alloc (Only.refl [] _) _) (by simp) (fun k hk => .inl hk)); (case cx => simp [Addr.add]); (case cl => omega); (case cb => (have := HB3.out; simp; omega)); (case cS => (intro k hk; have := HL.out k hk; simp; omega)); intro v' w4 T hh4 ho4 hT4; have HH4 := Lib.hid hh4; have HO4 := Lib.hid ho4; have HT4 := Lib.hid hT4; clear hh4 ho4 hT4))
          go_roundw
          case rel => exact ⟨i + 1, x + 1, used + 1, l ++ [((x : Int) + 1)], by omega, by go_num, by go_num, by go_num, ⟨((HS.out.alloc _).only HO4.out HT4.out).mono (by omega), HH4.out, by omega, by omega, by simp; omega⟩⟩
          case measure => simp [intOf]; omega
      · have C := Lib.hid (HS.out.popH HH.out is2K)
        go_wp2_with fail
        refine C.out.mono ?_
        rintro e w2 ⟨o, rfl, hs, -, hh, -⟩
        clear C
        clear HS HH d0 d1 d2
        have HO := Lib.hid hs; have HH := Lib.hid hh; clear hs
        by_cases hl0 : l.length = 0
        · skip
          obtain rfl : l = [] := List.eq_nil_of_length_eq_zero hl0
          obtain ⟨ha, hc, rfl⟩ := held_form HH.out
          clear hl0 hh
          have C := Lib.hid (HO.out.runH HH.out is2K (by omega) (by omega) (fun D hr => alone_pop_none is2K hr))
          go_wp2_with fail
          refine C.out.mono ?_
          rintro e w3 ⟨rfl, hs, hh⟩
          clear C
          clear HO HH
          have HS := Lib.hid hs; have HH := Lib.hid hh; clear hs hh
          go_wp2_with fail
          go_roundw
          case rel => exact ⟨i + 1, x, 0, [], by omega, by go_num, by go_num, by go_num, ⟨HS.out.mono (by omega), HH.out, by omega, by omega, by simp⟩⟩
          case measure => simp [intOf]; omega
        · skip
          obtain ⟨p, hp⟩ : ∃ p, l.length = p + 1 := ⟨l.length - 1, by omega⟩
          obtain ⟨g, off2, c2, rfl, hpc, cf, cl⟩ := held_some hh p hp
          clear hh hl0
          have CR := Lib.hid (HO.out.runH HH.out is2K (by omega) (by omega) (fun D hr => alone_pop_last (.inr rfl) hr (by omega)))
          go_wp2_with fail
          refine CR.out.mono ?_
          rintro e w3 ⟨rfl, hs, hh⟩
          clear CR HO HH cf cl
          have HS := Lib.hid hs; have HH := Lib.hid hh
          obtain ⟨g', off', c', ev, _, cf, cl⟩ := held_some hh p hp
          injection ev with ev ev2 ev3; injection ev with ev; injection ev with ev ev4
          subst ev; subst ev4; obtain rfl : c' = c2 := by omega
          clear hs hh
          go_wp2_with fail
          go_roundw
          case rel => exact ⟨i + 1, x, used - 1, l.dropLast, by omega, by go_num, by go_num, by go_num, ⟨HS.out.mono (by omega), held_init HH.out hp, by omega, by omega, by rw [List.length_dropLast]; omega⟩⟩
          case measure => simp [intOf]; omega
      · have C := Lib.hid (HS.out.popH HH.out is2K)
        go_wp2_with fail
        refine C.out.mono ?_
        rintro e w2 ⟨o0, rfl, -, hs, -, hh⟩
        clear C
        clear HS HH d0 d1 d2
        obtain ⟨d0, d1, d2⟩ := hs.cells
        have HS := Lib.hid hs; have HH := Lib.hid hh; clear hs hh
        have C := Lib.hid (HS.out.stealH HH.out is2K)
        go_wp2_with fail
        refine C.out.mono ?_
        rintro e w2b ⟨o, rfl, hs, -, hh, -⟩
        clear C
        clear HS HH d0 d1 d2
        have HO := Lib.hid hs; have HH := Lib.hid hh; clear hs
        by_cases hl0 : l.length = 0
        · skip
          obtain rfl : l = [] := List.eq_nil_of_length_eq_zero hl0
          obtain ⟨ha, hc, rfl⟩ := held_form HH.out
          clear hl0 hh
          have C := Lib.hid (HO.out.runH HH.out is2K (by omega) (by omega) (fun D hr => alone_steal_none is2K hr))
          go_wp2_with fail
          refine C.out.mono ?_
          rintro e w3 ⟨rfl, hs, hh⟩
          clear C
          clear HO HH
          have HS := Lib.hid hs; have HH := Lib.hid hh; clear hs hh
          go_wp2_with fail
          go_roundw
          case rel => exact ⟨i + 1, x, used, [], by omega, by go_num, by go_num, by go_num, ⟨HS.out.mono (by omega), HH.out, by omega, by omega, by simp⟩⟩
          case measure => simp [intOf]; omega
        · skip
          obtain ⟨p, hp⟩ : ∃ p, l.length = p + 1 := ⟨l.length - 1, by omega⟩
          obtain ⟨g, off2, c2, rfl, hpc, cf, cl⟩ := held_some hh p hp
          clear hh hl0
          have CR := Lib.hid (HO.out.runH HH.out is2K (by omega) (by omega) (fun D hr => alone_steal_last' rfl hr (by omega)))
          go_wp2_with fail
          refine CR.out.mono ?_
          rintro e w3 ⟨rfl, hs, hh⟩
          clear CR HO HH cf cl
          have HS := Lib.hid hs; have HH := Lib.hid hh
          obtain ⟨g', off', c', ev, _, cf, cl⟩ := held_some hh p hp
          injection ev with ev ev2 ev3; injection ev with ev; injection ev with ev ev4
          subst ev; subst ev4; obtain rfl : c' = c2 := by omega
          clear hs hh
          go_wp2_with fail
          go_roundw
          case rel => exact ⟨i + 1, x, used - 1, l.dropLast, by omega, by go_num, by go_num, by go_num, ⟨HS.out.mono (by omega), held_init HH.out hp, by omega, by omega, by rw [List.length_dropLast]; omega⟩⟩
          case measure => simp [intOf]; omega
    · have HS := Lib.hid hs.hb
      clear hh hs hl
      go_wp2_with fail
      refine (awake_any _).mono ?_
      rintro e wz ⟨rfl, hb⟩
      have HBz := Lib.hid (below_below HS.out (Nat.le_refl _) hb); clear hb
      go_wp2_with fail
      go_ret
      exact ⟨rfl, HBz.out⟩

end Go.Proofs.Ytlogmfpnjpamgaa
