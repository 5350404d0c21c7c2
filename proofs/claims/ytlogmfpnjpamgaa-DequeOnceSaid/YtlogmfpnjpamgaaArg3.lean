/- A slice of structs of a u8 and a bool that came in. -/
import Derived.Test.YtlogmfpnjpamgaaArg2
open Go Go.ChangeShapes Go.WideShapes Go.ChangeAt Go.RowKit Go.Deep
namespace Go.Proofs.Ytlogmfpnjpamgaa

theorem arg_rows_ub {H : Type} {enc : TypeId × Value → H} {P : Program} {W : World} {t e : TypeId} {fs : Array Field} {f0 f1 : Field} {v : Value} {d : DataW H} {p : List MemPlace}
    (ht : P.underlying t = some (.slice e)) (he : P.underlying e = some (.struct fs)) (hone : oneCellFields P fs = true) (hC : P.cellsOf e = fs.size) (hs : fs.size = 2) (h0 : fs[0]? = some f0) (h1 : fs[1]? = some f1)
    (hu0 : P.underlying f0.type = some (.int .u8)) (hu1 : P.underlying f1.type = some .bool) {base : Nat} (hok : Value.okWide P W .any base t v)
    (h : DataW.Trod enc P W 0 (fun _ => true) true t v d p) (hlt : ∀ x ∈ p, x.block < W.heap.size) :
    ∃ (len : Nat) (x : Nat → Nat) (b : Nat → Bool), ArgRows W v len 2 (fun i j => if j = 0 then .int .u8 (x i) else .bool (b i)) ∧ ∀ i, i < len → x i ≤ 255 := by
  obtain ⟨len, c, ⟨a, cap, hv, hc⟩, hf⟩ := arg_rows ht he hone hC (by omega) hok h hlt
  have hz : ∀ i, i < len → ∃ (x : Nat) (b : Bool), c i 0 = .int .u8 x ∧ c i 1 = .bool b ∧ x ≤ 255 := by
    intro i hi
    obtain ⟨n, y, hy⟩ := hf i hi 0 f0 h0
    obtain ⟨m, hm, _, hw⟩ := DataW.trod_int hu0 hy
    obtain ⟨n', y', hy'⟩ := hf i hi 1 f1 h1
    obtain ⟨b, hb, _⟩ := DataW.trod_bool hu1 hy'
    simp only [List.cons.injEq, and_true] at hm hb
    simp [Lit.wf] at hw
    have m1 : IntKind.u8.min = 0 := by decide
    have m2 : IntKind.u8.max = 255 := by decide
    rw [m1, m2] at hw
    exact ⟨m.toNat, b, by rw [hm]; congr 1; omega, hb, by omega⟩
  refine ⟨len, fun i => match c i 0 with | .int _ n => n.toNat | _ => 0, fun i => match c i 1 with | .bool b => b | _ => false, ⟨a, cap, hv, fun hp => ?_⟩, fun i hi => ?_⟩
  · obtain ⟨b, off, ha, hb, hcell⟩ := hc hp
    refine ⟨b, off, ha, hb, fun i hi j hj => ?_⟩
    obtain ⟨x, q, e0, e1, _⟩ := hz i hi
    rw [hs] at hcell
    rw [hcell i hi j hj]
    by_cases e : j = 0
    · subst e; simp only [if_true, e0]; simp
    · have : j = 1 := by omega
      subst this; simp only [e1]; simp
  · obtain ⟨x, q, e0, e1, hx⟩ := hz i hi
    simp only [e0]; omega

end Go.Proofs.Ytlogmfpnjpamgaa
