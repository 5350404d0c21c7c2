/- Layer 9: the owner begins a push. -/
import Derived.Test.YtlogmfpnjpamgaaDeqX
open Go Go.RowKit
namespace Go.Proofs.Ytlogmfpnjpamgaa

section
variable {w0 w w1 : World} {Y : Lay9} {kind room i p q : Nat} {Dm Dd : Dq} {po dh : Nat → Option DOp} {pushed : Nat} {full handed : List Int} {fv hv : Value}

set_option maxHeartbeats 4000000 in
theorem begin_push {D : Dq} {hs : Nat → Option DOp} (h : VX w0 w Y kind room D D hs hs pushed full handed fv hv) (hp : pushed ≤ 1000000) :
    Calls Try.prog 26 #[.pointer (some ⟨Y.v, 0, none⟩), .int .i64 0, .bool false] w (Begun w0 Y kind room 0 D hs (DOp.new 0 ((pushed + 1 : Nat) : Int)) (pushed + 1) full handed fv hv) := by
  obtain ⟨c0, c1, c2, c3, c4, c13, c14, c15⟩ := h.cells
  have f13 := h.top.free 13
  have HK := Lib.hid h.hk
  have HC : Hid (∀ v : World, Calls Try.prog 19 #[.agg #[.int .i64 kind, .int .i64 3, .int .i64 room], .int .i64 ((pushed : Int) + 1)] v (NewD ((DOp.new 0 ((pushed : Int) + 1)).prog kind 3 room) v)) := Lib.hid (fun v => dpush_any (kind := kind) (base := 3) (room := room) ((pushed : Int) + 1) v HK.out)
  have h1 : VX w0 (w.setCell ⟨Y.v, 13, none⟩ (.int .i64 ((pushed : Int) + 1))) Y kind room D D hs hs (pushed + 1) full handed fv hv := h.topset ((Only.refl _ _).setCell (by simp) _) (h.top.setAs 13 _ rfl)
  have hw : IntKind.i64.wrap ((pushed : Int) + 1) = (pushed : Int) + 1 := IntWalk.i64_in _ (by omega)
  have HW := Lib.hid hw
  have HH := Lib.hid h1
  have vl0 := h.top.lt
  clear h h1
  go_enter Try.func26, Try.ntmps26
  go_wp2_with fail
  go_region_with (go_at_call 19; refine (HC.out _).mono ?_; rintro e w2 ⟨p, rfl, hb, hs, ho⟩; have ho2 : Only [] (w.setCell ⟨Y.v, 13, none⟩ (.int .i64 ((pushed : Int) + 1))) w2 := (by first | exact (Only.refl [] _).drew.trans ho | exact ((Only.refl [] _).alloc _).drew.trans ho); have h2 := HH.out.only0 ho2; have cO := h2.cellO (i := 0) (by omega); have cW := h2.cellW (i := 0) (by omega); have c13 := h2.top.cell 13; have fO := h2.top.free 5; have fW := h2.top.free 6; have vl := h2.top.lt; simp only [Nat.zero_mul, Nat.add_zero, Nat.reduceAdd] at cO cW; simp [WC] at c13; have HB := Lib.hid hb; have HS := Lib.hid hs; have HO := Lib.hid ho; have HO2 := Lib.hid ho2; clear h2 hb ho ho2 hs c0 c1 c2 c3 c4 c14 c15 f13)
  all_goals go_wp2_with fail
  all_goals go_end0
  all_goals first | exact begin_fin (n := 0) (i := 0) HH.out (by omega) HB.out (Nat.le_trans (by simp) HS.out) HO2.out | exact begin_fin2 (n := 0) (i := 0) (q := w.heap.size) (by simp) HH.out (by omega) HB.out HO.out HS.out
end

end Go.Proofs.Ytlogmfpnjpamgaa
