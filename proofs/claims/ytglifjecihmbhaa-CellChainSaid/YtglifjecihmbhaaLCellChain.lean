/- CellChain returns true, whatever the order is. -/
import Derived.Test.YtglifjecihmbhaaCellQ
import Derived.Test.YtglifjecihmbhaaArr
import Derived.OwnWalk
import Derived.Laws.AppendOwn
open Go Go.RowKit
namespace Go.Proofs.Ytglifjecihmbhaa

theorem infoI64 : (Try.prog.info? 2).map (fun i => (i.zero, i.size, i.bytes)) = some (some (.int .i64 0), 1, 8) := by kernel_rfl

def whoV (who : List Nat) : List Value := who.map fun (x : Nat) => .int .i64 (x : Int)

set_option maxRecDepth 100000 in
set_option maxHeartbeats 2000000 in
theorem cellChain_walk5 (z0 z1 z2 z3 z4 : Nat) (value : Int) (w : World) (hz : ∀ z ∈ [z0, z1, z2, z3, z4], z ≤ 255) :
    Calls Try.prog 7 #[.agg #[.int .u8 z0, .int .u8 z1, .int .u8 z2, .int .u8 z3, .int .u8 z4], .int .i64 value] w fun e w' => e = .returned (.bool true) ∧ Below w.heap.size w w' := by
  have HZ := Lib.hid hz; clear hz
  obtain ⟨i0, hi0, hz0, hz1, hz2⟩ := info_parts infoI64
  go_enter Try.func7, Try.ntmps7
  go_wp2_with fail
  obtain ⟨bx, hbx⟩ : ∃ b, b = w.heap.size := ⟨_, rfl⟩
  have hbox := newBlk w bx [.int .u8 z0, .int .u8 z1, .int .u8 z2, .int .u8 z3, .int .u8 z4] 59 hbx
  rw [← hbx]
  have hbel := (Below.refl w.heap.size w).alloc (Nat.le_refl _) (.cells #[.int .u8 z0, .int .u8 z1, .int .u8 z2, .int .u8 z3, .int .u8 z4] 59)
  have hbl : bx < (w.alloc (.cells #[.int .u8 z0, .int .u8 z1, .int .u8 z2, .int .u8 z3, .int .u8 z4] 59)).heap.size := hbox.lt
  have HBX := Lib.hid hbx; have HBOX := Lib.hid hbox; have HBEL := Lib.hid hbel; clear hbx hbox hbel
  generalize hWB : w.alloc (.cells #[.int .u8 z0, .int .u8 z1, .int .u8 z2, .int .u8 z3, .int .u8 z4] 59) = WB at *
  have HBOX : Hid (Blk WB bx [.int .u8 z0, .int .u8 z1, .int .u8 z2, .int .u8 z3, .int .u8 z4] 59) := hWB ▸ HBOX
  clear hWB
  refine (world_any value 0 _).mono ?_
  rintro e w1 ⟨L, rfl, hL, hI⟩
  obtain ⟨B, hB⟩ : ∃ B, B = w1.heap.size := ⟨_, rfl⟩
  have haw : ∀ b, B ≤ b → L.away b ∧ WB.heap.size ≤ b := fun b hb => ⟨hI.new (by omega), by have := (hI.bel hL).size; omega⟩
  have hBB : B ≤ w1.heap.size := by omega
  have HL := Lib.hid hL; have HI := Lib.hid hI; have HAW := Lib.hid haw; clear hL hI haw hB
  have hxs : ∀ i, i < 5 → ∃ y : Nat, y ≤ 255 ∧ ([Value.int .u8 z0, .int .u8 z1, .int .u8 z2, .int .u8 z3, .int .u8 z4] : List Value)[i]? = some (.int .u8 y) := by
    intro i hi
    rcases (show i = 0 ∨ i = 1 ∨ i = 2 ∨ i = 3 ∨ i = 4 by omega) with rfl | rfl | rfl | rfl | rfl
    · exact ⟨z0, HZ.out _ (by simp), rfl⟩
    · exact ⟨z1, HZ.out _ (by simp), rfl⟩
    · exact ⟨z2, HZ.out _ (by simp), rfl⟩
    · exact ⟨z3, HZ.out _ (by simp), rfl⟩
    · exact ⟨z4, HZ.out _ (by simp), rfl⟩
  have HXS := Lib.hid hxs; clear hxs
  go_wp2_with fail
  go_loopw [7, 8] (fun t7 t8 wr => ∃ (i : Nat) (who : List Nat) (C : ACell) (A : Nat → AOp), i ≤ 5 ∧ t8 = .int .i64 i ∧ Inv WB wr L C A ∧ Queue value who C A ∧ wr.ownsRow B 2 1 t7 who.length (whoV who) ∧ B ≤ wr.heap.size) (fun _ t _ => 5 - (intOf t).toNat)
  case atStart => exact ⟨0, [], _, _, by omega, rfl, HI.out, Queue.start value, World.ownsRow_nil _ _ _ _, hBB⟩
  case round =>
    obtain ⟨i, who, C, A, hi5, rfl, h, hq, ho, hBr⟩ := hrel
    clear HI
    have HI2 := Lib.hid h; have HQ2 := Lib.hid hq; have HO2 := Lib.hid ho; clear h hq ho
    by_cases hi : i < 5
    · obtain ⟨y, hy, hyz⟩ := HXS.out i hi
      have cb := (((HI2.out.bel HL.out).cell (p := ⟨bx, i, none⟩) hbl).trans (HBOX.out.cell i)).trans hyz
      clear hyz
      obtain ⟨k, hk⟩ : ∃ k : Nat, (y : Int) % 5 = k := ⟨y % 5, by omega⟩
      have hk4 : k ≤ 4 := by omega
      have c12 := (HI2.out.top.cell (12 + (k + 1))).trans (L.cell12 C (k + 1) (by omega))
      obtain ⟨o0, o3, o4, o5, o6, o7⟩ := HI2.out.hand (k + 1) (by omega)
      clear o0 o3 o4 o6 o7
      by_cases hin : (k + 1) ∈ who
      · have he := HQ2.out.inn _ hin
        rw [he] at o5
        clear he
        go_wp2_with fail
        go_roundw
        case rel => exact ⟨i + 1, who, C, A, by omega, by go_num, HI2.out, HQ2.out, HO2.out, hBr⟩
        case measure => simp [intOf]; omega
      · have he := HQ2.out.out _ (by omega) hin
        have he2 : (A (k + 1)).ended = false := by rw [he, A0_own _ _ _ (by omega)]
        rw [he2] at o5
        clear he he2
        go_wp2_with fail
        try rw [show decide ((i : Int) < 5) = true from decide_eq_true (by omega)]
        try rw [hk]
        have HK := Lib.hid hk
        clear hk cb c12 o5
        have hcu : IntKind.u8.wrap ((k : Int) + 1) = (k : Int) + 1 := by
          rcases (show k = 0 ∨ k = 1 ∨ k = 2 ∨ k = 3 ∨ k = 4 by omega) with rfl | rfl | rfl | rfl | rfl <;> decide
        obtain ⟨wo, rfl⟩ : ∃ x, x = wr := ⟨_, rfl⟩
        go_loopw [10] (fun t wr => ∃ j : Nat, j ≤ 3 ∧ t = .int .i64 j ∧ Inv wo wr L (its (k + 1) j (C, A)).1 (its (k + 1) j (C, A)).2) (fun t _ => 3 - (intOf t).toNat)
        case atStart => exact ⟨0, by omega, rfl, HI2.out.again⟩
        case round =>
          obtain ⟨j, hj, rfl, h⟩ := hrel
          have HI3 := Lib.hid h; clear h
          by_cases hj3 : j < 3
          · go_wp2_with fail
            refine (move_int HI3.out HL.out ((k : Int) + 1) (by omega) (by omega) (k + 1) (by omega) (by omega)).mono ?_
            rintro e w2 ⟨rfl, h⟩
            have HI4 := Lib.hid h; clear h
            go_wp2_with fail
            go_roundw
            case rel => exact ⟨j + 1, by omega, by go_num, HI4.out⟩
            case measure => simp [intOf]; omega
          · obtain rfl : j = 3 := by omega
            have hown := HI3.out.row HO2.out (fun b hb => (HAW.out b (HO2.out.lt b hb).1).1)
            have HOWN := Lib.hid hown; clear hown
            have hbs : B ≤ wr.heap.size := Nat.le_trans hBr HI3.out.frame.size
            go_wp2_with (at_builtin; refine wpList_append_own _ rfl _ _ 35 rfl B 2 i0 (.int .i64 0) 1 8 Try.underlying35 hi0 hz0 hz1 hz2 rfl (by decide) _ _ _ rfl (HOWN.out.alloc _) ⟨wr.heap.size, 0, none⟩ 1 1 [.int .i64 ((k : Int) + 1)] rfl rfl ?c1 ?c2 ?c3 ?c4 ?c5 ?_)
            case c1 =>
              intro j u hj
              match j, hj with
              | 0, hj => simp at hj; subst hj; simp [Addr.add]
            case c2 => intro u hu; simp at hu; subst hu; rfl
            case c3 => have := HQ2.out.low; unfold maxLen; omega
            case c4 => have := HQ2.out.low; omega
            case c5 => simp; omega
            intro v' w4 hown' hgrow _
            have hq' := HQ2.out.more (k + 1) (by omega) (by omega) hin
            have hI' := (HI2.out.since HI3.out).only0 ((Only.refl _ _).alloc (.cells #[.int .i64 ((k : Int) + 1)] 2))
            have hI4 := hI'.grown hgrow (fun b hb => HAW.out b (HO2.out.lt b hb).1)
            have hs4 := hgrow.size
            have hbs4 : B ≤ w4.heap.size := by simp at hs4; omega
            have hown4 : w4.ownsRow B 2 1 v' (who ++ [k + 1]).length (whoV (who ++ [k + 1])) := by
              have e : whoV (who ++ [k + 1]) = whoV who ++ [.int .i64 ((k : Int) + 1)] := by simp [whoV]
              rw [e, List.length_append]; exact hown'
            have HI4 := Lib.hid hI4; have HQ4 := Lib.hid hq'; have HO4 := Lib.hid hown4
            clear hI4 hq' hown4 hI' hown' hgrow hs4 HOWN HO2 HI3 HI2 HQ2
            go_wp2_with fail
            go_roundw
            case rel => exact ⟨i + 1, who ++ [k + 1], _, _, by omega, by go_num, HI4.out, HQ4.out, HO4.out, hbs4⟩
            case measure => simp [intOf]; omega
    · have hx : ¬ i < 5 := hi
      clear HXS HZ
      obtain rfl : i = 5 := by omega
      rw [show ((5 : Nat) : Int) = 5 from rfl]
      obtain ⟨ad, cap, rfl, hsh⟩ := rowShape HO2.out
      obtain ⟨n, hn⟩ : ∃ n, n = who.length := ⟨_, rfl⟩
      rw [← hn] at HO2 hsh ⊢
      have hn5 : n ≤ 5 := by rw [hn]; exact HQ2.out.low
      have HSH := Lib.hid hsh; have HN := Lib.hid hn; clear hsh hn
      obtain ⟨wo, rfl⟩ : ∃ x, x = wr := ⟨_, rfl⟩
      go_wp2_with fail
      go_loopw [11] (fun t wr => ∃ j : Nat, j ≤ 4 ∧ t = .int .i64 j ∧ Inv wo wr L (its 0 j (C, A)).1 (its 0 j (C, A)).2) (fun t _ => 4 - (intOf t).toNat)
      case atStart => exact ⟨0, by omega, rfl, HI2.out.again⟩
      case round =>
        obtain ⟨j, hj, rfl, h⟩ := hrel
        have HI3 := Lib.hid h; clear h
        by_cases hj4 : j < 4
        · go_wp2_with fail
          refine (move_any HI3.out HL.out 0 (by omega) 0 (by omega) (by omega)).mono ?_
          rintro e w2 ⟨rfl, h⟩
          have HI4 := Lib.hid h; clear h
          go_wp2_with fail
          go_roundw
          case rel => exact ⟨j + 1, by omega, by go_num, HI4.out⟩
          case measure => simp [intOf]; omega
        · obtain rfl : j = 4 := by omega
          rw [show ((4 : Nat) : Int) = 4 from rfl]
          obtain ⟨d1, d2, d3⟩ := HQ2.out.done
          have hown := HI3.out.row HO2.out (fun b hb => (HAW.out b (HO2.out.lt b hb).1).1)
          have hI4 := HI2.out.since HI3.out
          have hbs : B ≤ wr.heap.size := Nat.le_trans hBr HI3.out.frame.size
          obtain ⟨C4, hC4⟩ : ∃ c, c = (its 0 4 (C, A)).1 := ⟨_, rfl⟩
          obtain ⟨A4, hA4⟩ : ∃ c, c = (its 0 4 (C, A)).2 := ⟨_, rfl⟩
          rw [← hC4, ← hA4] at hI4
          rw [← hA4] at d1 d2 d3
          rw [← hC4] at d3
          have HI4 := Lib.hid hI4; have HO4 := Lib.hid hown; have HD1 := Lib.hid d1; have HD2 := Lib.hid d2; have HD3 := Lib.hid d3
          clear HI3 HI2 HO2 HQ2 hown hI4 d1 d2 d3 hC4 hA4
          have c6 := (HI4.out.top.cell (6 + 0)).trans (L.cell6 C4 0 (by omega))
          simp at c6
          go_wp2_with fail
          refine (HI4.out.again.endJ HL.out 0 (by omega)).mono ?_
          rintro e w2 ⟨rfl, h, ho⟩
          rw [AOp.endV0 _ HD1.out, HD2.out]
          have hown5 := h.row HO4.out (fun b hb => (HAW.out b (HO4.out.lt b hb).1).1)
          have hI5 := HI4.out.since h
          have HI5 := Lib.hid (hI5.only0 ((Only.refl _ _).alloc (.cells #[.bool false, .int .i64 0, .int .i64 0, .int .i64 (A4 0).first] 45)))
          have HO5 := Lib.hid (hown5.alloc (.cells #[.bool false, .int .i64 0, .int .i64 0, .int .i64 (A4 0).first] 45))
          clear h ho hown5 hI5 c6 HI4 HO4
          generalize (A4 0).first = at1 at *
          go_wp2_with fail
          go_loopw [14, 15] (fun t14 t15 wr => ∃ (m : Nat) (at0 : Int), m ≤ n ∧ t15 = .int .i64 ((m : Int) - 1) ∧ t14 = .int .i64 at0 ∧ Chain C4.L at0 (who.take m).reverse ∧ Inv WB wr L C4 A4 ∧ wr.ownsRow B 2 1 (.slice ad n cap) n (whoV who)) (fun _ t _ => (intOf t + 1).toNat)
          case atStart => exact ⟨n, at1, by omega, by go_num, rfl, by rw [HN.out, List.take_length]; exact HD3.out, HI5.out, HO5.out⟩
          case round =>
            obtain ⟨m, at0, hm, rfl, rfl, hc, h, ho⟩ := hrel
            clear HI5 HO5
            have HI5 := Lib.hid h; have HO5 := Lib.hid ho; clear h ho
            cases m with
            | succ m =>
              rw [show (((m + 1 : Nat) : Int) - 1) = (m : Int) from by omega]
              obtain ⟨hc1, hx1, hx5, hc2⟩ := chain_take (by rw [← HN.out]; omega) hc
              obtain ⟨g, rfl, hg⟩ := HSH.out (by omega)
              have cm := rowCell HO5.out m (.int .i64 (who.getD m 0 : Nat)) (by have := HN.out; simp [whoV, List.getD_eq_getElem?_getD, show m < who.length by omega])
              obtain ⟨x, hx⟩ : ∃ x, x = who.getD m 0 := ⟨_, rfl⟩
              rw [← hx] at hc1 hx1 hx5 hc2 cm
              subst hc1
              have c0 := HI5.out.top.cell 0
              simp [Lay.cells] at c0
              have hwr : IntKind.i64.wrap (10 + (x : Int)) = 10 + x := by rw [IntKind.wrap_i64]; omega
              have HC2 := Lib.hid hc2
              clear hx hc hc2
              go_wp2_with fail
              refine (HI5.out.again.loadJ HL.out _ (by omega) (by omega)).mono ?_
              rintro e w3 ⟨rfl, h, ho⟩
              rw [show (10 + (x : Int)).toNat = 10 + x from by omega, ACell.link C4 x hx1 hx5]
              have hown6 := h.row HO5.out (fun b hb => (HAW.out b (HO5.out.lt b hb).1).1)
              have HI6 := Lib.hid (HI5.out.since h); have HO6 := Lib.hid hown6
              generalize C4.L.getD x 0 = at2 at *
              clear h ho hown6 c0 cm
              go_wp2_with fail
              go_roundw
              case rel => exact ⟨m, at2, by omega, by go_num, rfl, HC2.out, HI6.out, HO6.out⟩
              case measure => simp [intOf]
            | zero =>
              have h0 : at0 = 0 := by simpa [Chain] using hc
              subst h0
              clear hc
              rw [show (((0 : Nat) : Int) - 1) = -1 from rfl]
              go_wp2_with fail
              refine (awake_any _).mono ?_
              rintro e wz ⟨rfl, hb⟩
              have HBz := Lib.hid ((HBEL.out.trans ((HI5.out.bel HL.out).mono HBEL.out.size)).trans (hb.mono (Nat.le_trans HBEL.out.size (HI5.out.bel HL.out).size))); clear hb
              go_wp2_with fail
              go_ret
              exact ⟨rfl, HBz.out⟩

theorem cellChain_walk (zs : List Int) (value : Int) (w : World) (hl : zs.length = 5) (hz : ∀ z ∈ zs, (Lit.int .u8 z).wf = true) :
    Calls Try.prog 7 #[.agg (zs.map (Value.int .u8)).toArray, .int .i64 value] w fun e w' => e = .returned (.bool true) ∧ Below w.heap.size w w' := by
  have hz : ∀ z ∈ zs, ∃ y : Nat, y ≤ 255 ∧ z = (y : Int) := fun z hm => by
    have := hz z hm
    simp [Lit.wf] at this
    have m1 : IntKind.u8.min = 0 := by decide
    have m2 : IntKind.u8.max = 255 := by decide
    rw [m1, m2] at this
    exact ⟨z.toNat, by omega, by omega⟩
  match zs, hl with
  | [a, b, c, d, e], _ =>
    obtain ⟨a', ha, rfl⟩ := hz a (by simp)
    obtain ⟨b', hb, rfl⟩ := hz b (by simp)
    obtain ⟨c', hc, rfl⟩ := hz c (by simp)
    obtain ⟨d', hd, rfl⟩ := hz d (by simp)
    obtain ⟨e', he, rfl⟩ := hz e (by simp)
    exact cellChain_walk5 a' b' c' d' e' value w (by simp; omega)

end Go.Proofs.Ytglifjecihmbhaa
