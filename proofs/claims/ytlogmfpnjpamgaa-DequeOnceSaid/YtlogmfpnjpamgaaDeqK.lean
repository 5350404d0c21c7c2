/- Layer 9: the law's world is made. -/
import Derived.Test.YtlogmfpnjpamgaaDeqZ2
import Derived.Test.YtlogmfpnjpamgaaOnceH
open Go Go.RowKit
namespace Go.Proofs.Ytlogmfpnjpamgaa

def RNew (kind room : Nat) (w : World) (e : Ending) (w' : World) : Prop :=
  ∃ r l, e = .returned (.pointer (some ⟨r, 0, none⟩)) ∧ Blk w' r [.int .i64 kind, .int .i64 room, .int .i64 0, .int .i64 0, .slice (some ⟨l, 0, none⟩) room room] 73 ∧ Blk w' l (slotsL room zeroD) 2 ∧ w.heap.size ≤ r ∧ w.heap.size ≤ l ∧ r ≠ l ∧ Only [] w w'

theorem slotsL_zero (room : Nat) : slotsL room zeroD = List.replicate room (Value.int .i64 0) := by
  unfold slotsL zeroD
  apply List.ext_getElem?
  intro j
  by_cases h : j < room <;> simp [h, List.getElem?_eq_none]

theorem rnew_any (kind room : Nat) (w : World) (hn : room ≤ 1000) : Calls Try.prog 25 #[.int .i64 kind, .int .i64 room] w (RNew kind room w) := by
  have h1 := fun w => make_i64 room (by omega) w
  go_enter Try.func25, Try.ntmps25
  go_wp2_with fail
  go_ret
  refine ⟨w.heap.size + 1, w.heap.size, by simp, ?_, ?_, by omega, by omega, by omega, ((Only.refl _ _).alloc _).alloc _⟩
  · simpa using Blk.new (w.alloc _) _ _
  · rw [slotsL_zero]
    simpa using (Blk.new w (List.replicate room (Value.int .i64 0)) 2).alloc _

/-- The world, as it begins. -/
def Made (w : World) (kind room : Nat) (e : Ending) (w' : World) : Prop :=
  ∃ v, e = .returned (.tuple #[.pointer (some ⟨v, 0, none⟩), .bool true]) ∧ Good w w' v kind room 0 AW.zero

theorem world_fin {w0 w3 w4 w5 : World} {m a b r l v kind room n : Nat} (hk : kind = 1 ∨ kind = 2 ∨ kind = 3) (hr : 1 ≤ room ∧ room ≤ 1000) (hn : 3 + room + 2 ≤ n) (hm : IsMem w3 m a b ((MemS.fresh n).turn ((3 : Nat) : Int) ((2 + room : Nat) : Int) true))
    (h1 : w0.heap.size ≤ m) (h2 : w0.heap.size ≤ a) (h3 : w0.heap.size ≤ b) (hb : Below w0.heap.size w0 w3)
    (b1 : Blk w4 r [.int .i64 kind, .int .i64 room, .int .i64 0, .int .i64 0, .slice (some ⟨l, 0, none⟩) room room] 73) (b2 : Blk w4 l (slotsL room zeroD) 2) (g1 : w3.heap.size ≤ r) (g2 : w3.heap.size ≤ l) (hrl : r ≠ l) (ho : Only [] w3 w4)
    (b3 : Blk w5 v (WC m r kind room (fun _ => none) (fun _ => none) 0 (.slice none 0 0) (.slice none 0 0)) 50) (g3 : w4.heap.size ≤ v) (ho2 : Only [] w4 w5) : Good w0 w5 v kind room 0 AW.zero := by
  have l0 := hm.top.lt; have l1 := hm.words.lt; have l2 := hm.live.lt
  have s1 := ho.size; have s2 := b1.lt; have s3 := b2.lt; have s0 := hb.size
  have n1 := hm.ma; have n2 := hm.mb; have n3 := hm.ab
  refine ⟨⟨⟨v, m, a, b, r, l, fun _ => none, fun _ => none, upd (upd (upd (upd (upd (upd (fun _ => 99) l 5) r 4) b 3) a 2) m 1) v 0⟩, .slice none 0 0, .slice none 0 0, ?_, rfl⟩, All.zero, Inv.zero hk, ⟨Nat.le_refl _, Nat.le_refl _, Nat.le_refl _⟩, fun _ _ => rfl⟩
  refine ⟨b3, ((HM.fresh hm hn (by omega) hr).only0 ho).only0 ho2, b1.only ho2 (by simp), b2.only ho2 (by simp), fun i hi => .inl ⟨rfl, rfl, rfl, rfl⟩, ⟨⟨rfl, .inl ⟨rfl, rfl⟩⟩, fun k hk => by cases hk⟩, ⟨⟨rfl, .inl ⟨rfl, rfl⟩⟩, fun k hk => by cases hk⟩, ?_, ?_, below_only (below_only hb (Nat.le_refl _) ho (by simp)) (Nat.le_refl _) ho2 (by simp), hk⟩
  · refine ⟨upd_self _ _ _, ?_, ?_, ?_, ?_, ?_⟩ <;> simp only
    · rw [upd_ne _ _ (by omega), upd_self]
    · rw [upd_ne _ _ (by omega), upd_ne _ _ (by omega), upd_self]
    · rw [upd_ne _ _ (by omega), upd_ne _ _ (by omega), upd_ne _ _ (by omega), upd_self]
    · rw [upd_ne _ _ (by omega), upd_ne _ _ (by omega), upd_ne _ _ (by omega), upd_ne _ _ (by omega), upd_self]
    · rw [upd_ne _ _ (by omega), upd_ne _ _ (by omega), upd_ne _ _ (by omega), upd_ne _ _ (by omega), upd_ne _ _ (by omega), upd_self]
  · refine ⟨?_, h1, h2, h3, ?_, ?_⟩ <;> simp only <;> omega

theorem dcells {w3 w4 : World} {k n : Nat} (ho : Only [] (w3.alloc (.cells #[.int .i64 k, .int .i64 3, .int .i64 n] 27)).drew w4) : Blk w4 w3.heap.size [.int .i64 k, .int .i64 3, .int .i64 n] 27 :=
  ((Blk.new w3 [.int .i64 k, .int .i64 3, .int .i64 n] 27).drew).only ho (by simp)

theorem rnew_hand {w3 w4 : World} {o : Obj} {k n r l : Nat} (b1 : Blk w4 r [.int .i64 k, .int .i64 n, .int .i64 0, .int .i64 0, .slice (some ⟨l, 0, none⟩) n n] 73) (b2 : Blk w4 l (slotsL n zeroD) 2)
    (g1 : (w3.alloc o).drew.heap.size ≤ r) (g2 : (w3.alloc o).drew.heap.size ≤ l) (hrl : r ≠ l) (ho : Only [] (w3.alloc o).drew w4) :
    Blk w4 r [.int .i64 k, .int .i64 n, .int .i64 0, .int .i64 0, .slice (some ⟨l, 0, none⟩) n n] 73 ∧ Blk w4 l (slotsL n zeroD) 2 ∧ w3.heap.size ≤ r ∧ w3.heap.size ≤ l ∧ r ≠ l ∧ Only [] w3 w4 := by
  have h : Only [] w3 (w3.alloc o).drew := ((Only.refl _ _).alloc _).drew
  exact ⟨b1, b2, Nat.le_trans h.size g1, Nat.le_trans h.size g2, hrl, h.trans ho⟩

set_option maxRecDepth 100000 in
set_option maxHeartbeats 1000000 in
theorem world_any (kind room k n : Nat) (w : World) (h1 : kind ≤ 255) (h2 : room ≤ 255) (hk : (kind : Int) % 3 + 1 = k) (hn : (room : Int) % 6 + 1 = n) :
    Calls Try.prog 14 #[.int .u8 kind, .int .u8 room] w (Made w k n) := by
  have hn1 : 1 ≤ n := by omega
  have hn6 : n ≤ 6 := by omega
  have hk1 : 1 ≤ k ∧ k ≤ 3 := by omega
  have HK : Hid (k = 1 ∨ k = 2 ∨ k = 3) := Lib.hid (by omega)
  have C1 := Lib.hid (fun w => words_in n w hn1 (by omega))
  have C2 := Lib.hid (fun w => new_ok (2 + n + 5) w (by omega))
  have e2 : (2 : Int) + (n : Int) + 5 = ((2 + n + 5 : Nat) : Int) := by omega
  have E2 := Lib.hid e2; clear e2
  have CR := Lib.hid (fun w => rnew_any k n w (by omega))
  go_enter Try.func14, Try.ntmps14
  go_wp2_with fail
  refine (C1.out _).mono ?_
  rintro e wy ⟨rfl, rfl⟩
  go_wp2_with fail
  rw [E2.out]
  refine (C2.out _).mono ?_
  rintro e w2 ⟨m, a, b, rfl, hm, h1, h2, h3, ho⟩
  have HB2 := Lib.hid ho.nil_below
  have C := dnew_live m a b (MemS.fresh (2 + n + 5)) k (3 : Nat) n w2 hm (by omega) (by omega) (by omega)
  rw [fresh_tcode (by omega), if_pos rfl] at C
  have HC := Lib.hid C; clear C hm ho
  go_wp2_with fail
  refine HC.out.mono ?_
  rintro e w3 ⟨rfl, hm, ho⟩
  have HB3 := Lib.hid (below_only3 HB2.out (Nat.le_refl _) ho h1 h2 h3)
  have HM3 := Lib.hid hm
  clear hm ho HC
  unfold aggD
  go_wp2_with fail
  go_region_with (go_at_call 25; refine (CR.out _).mono ?_; rintro e w4 ⟨r, l, rfl, b1, b2, g1, g2, hrl, ho4⟩; have d := dcells ho4; have d0 := d.cell 0; have d1 := d.cell 1; have d2 := d.cell 2; have HR := Lib.hid (rnew_hand b1 b2 g1 g2 hrl ho4); clear b1 b2 g1 g2 hrl ho4 d)
  all_goals go_wp2_with fail
  all_goals go_ret2
  all_goals obtain ⟨b1, b2, g1, g2, hrl, ho4⟩ := HR.out
  all_goals refine ⟨_, rfl, ?_⟩
  all_goals exact world_fin HK.out ⟨hn1, by omega⟩ (by omega) HM3.out h1 h2 h3 HB3.out b1 b2 g1 g2 hrl ho4 (newBlk _ _ (WC m r k n (fun _ => none) (fun _ => none) 0 (.slice none 0 0) (.slice none 0 0)) _ rfl) (Nat.le_refl _) ((Only.refl _ _).alloc _)

end Go.Proofs.Ytlogmfpnjpamgaa
