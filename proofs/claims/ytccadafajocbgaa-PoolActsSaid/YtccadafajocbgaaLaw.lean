/- What every law's proof ends with: the call returned true, and of what was there nothing has turned: so each argument reads as it did. -/
import Derived.Test.YtccadafajocbgaaBase
import Derived.ProofKit
import Derived.OpenShut
open Go Go.ChangeShapes Go.WideShapes Go.ChangeAt Go.RowKit
namespace Go.Proofs.Ytccadafajocbgaa

theorem own : ownKnob Try.prog.godebug = none := by kernel_rfl
theorem laid : laidOutB Try.prog = true := by kernel_rfl

theorem trodAll_below {H : Type} {enc : TypeId × Value → H} {P : Program} (hl : laidOutB P = true) {W W' : World} (hb : Below W.heap.size W W') :
    ∀ (ts : List TypeId) (vs : List Value) (ds : List (DataW H)) (ps : List MemPlace), (ts.all fun t => P.readableRec t && decide (t < P.types.size)) = true →
      DataW.TrodAll enc P W 0 (fun _ => true) true ts vs ds ps → (∀ x ∈ ps, x.block < W.heap.size) →
      DataW.TrodAll enc P W' 0 (fun b => decide (b < W.heap.size)) true ts vs ds ps := by
  intro ts
  induction ts with
  | nil =>
    intro vs ds ps _ h _
    obtain ⟨rfl, rfl, rfl⟩ := trodAll_nil h
    exact trodAll_mk0
  | cons t ts ih =>
    intro vs ds ps hr h hlt
    obtain ⟨v, vs', d, ds', p, q, rfl, rfl, rfl, h0, h1⟩ := trodAll_cons h
    simp only [List.all_cons, Bool.and_eq_true, decide_eq_true_eq] at hr
    exact trodAll_cons_mk (Below.trod hl hr.1.1 hr.1.2 h0 hb (fun x hx => hlt x (List.mem_append_left _ hx))) (ih _ _ _ hr.2 h1 (fun x hx => hlt x (List.mem_append_right _ hx)))

theorem law_done {H : Type} {enc : TypeId × Value → H} {f : Func} {s : ChangeSpec} {W : World} {args : Array Value} {ds : List (DataW H)} {before : List MemPlace} {n : FuncId}
    (hW : DataW.Whole enc Try.prog f.params.toList s.vars false W args.toList ds [] before)
    (hr : (f.params.toList.all fun t => Try.prog.readableRec t && decide (t < Try.prog.types.size)) = true)
    (hf : f.resultTypes.toList = [4]) (hn : f.resultTypes.size = 1) (hv : s.vars = []) (e1 : (s.fn H (ds ++ [])).results = [.lit (.bool true)]) (e2 : (s.fn H (ds ++ [])).args = ds) (e3 : (s.fn H (ds ++ [])).vars = [])
    (hc : Calls Try.prog n args W fun e W' => e = .returned (.bool true) ∧ Below W.heap.size W W') :
    Calls Try.prog n args W fun e W' => ∃ v, e = .returned v ∧ s.post enc Try.prog f false true false false W args v W' := by
  refine hc.mono ?_
  rintro e W' ⟨rfl, hb⟩
  obtain ⟨p, q, hA, hV, hp, hfz, hnd⟩ := id hW
  rw [hv] at hV
  obtain ⟨-, rfl⟩ := trodVars_none hV
  have hlt : ∀ x ∈ before, x.block < W.heap.size := fun x hx => hW.lt x hx
  rw [List.append_nil] at hp
  subst hp
  refine ⟨_, rfl, ds, [], before, [], before, [], hW, ?_, ?_, ?_, hb.frame _, fun h => by cases h⟩
  · rw [e1, hf, hn]
    exact trodAll_mk1 (shut_bool Try.underlying4 _)
  · rw [e2]
    exact trodAll_below laid hb _ _ _ _ hr hA hlt
  · rw [e3, hv]
    rfl

end Go.Proofs.Ytccadafajocbgaa
