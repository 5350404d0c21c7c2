/- An array of numbers that came in by value. -/
import Derived.Test.YtglifjecihmbhaaLaw
import Derived.WideKeyArr2
open Go Go.ChangeShapes Go.WideShapes Go.ChangeAt Go.RowKit
namespace Go.Proofs.Ytglifjecihmbhaa

theorem mapM_all {α β : Type} {f : α → Option β} : ∀ {L : List α} {ys : List β}, L.mapM f = some ys → ∀ i, i ∈ L → ∃ y, f i = some y
  | [], _, _, i, hi => by simp at hi
  | a :: L, ys, h, i, hi => by
    rw [List.mapM_cons] at h
    simp only [bind, Option.bind_eq_some_iff, pure, Option.some.injEq] at h
    obtain ⟨y, hy, zs, hz, -⟩ := h
    rcases List.mem_cons.1 hi with rfl | hi
    · exact ⟨y, hy⟩
    · exact mapM_all hz i hi

def numOf : Value → Int
  | .int _ z => z
  | _ => 0

theorem arg_arr {H : Type} {enc : TypeId × Value → H} {P : Program} {W : World} {t e : TypeId} {k : IntKind} {n : Nat} {v : Value} {d : DataW H} {p : List MemPlace}
    (hu : P.underlying t = some (.array n e)) (he : P.underlying e = some (.int k)) (hc : P.cellsOf e = 1) (hs : P.cellsOf t = n) {base : Nat} (hok : Value.okWide P W .any base t v)
    (h : DataW.Trod enc P W 0 (fun _ => true) true t v d p) : ∃ zs : List Int, zs.length = n ∧ v = .agg (zs.map (Value.int k)).toArray ∧ ∀ z ∈ zs, (Lit.int k z).wf = true := by
  simp only [Value.okWide, hu] at hok
  obtain ⟨xs, rfl, hn, -⟩ := hok
  rw [hs] at hn
  obtain ⟨fuel, hf⟩ := h
  cases fuel with
  | zero => simp [DataW.trod] at hf
  | succ m =>
    rw [DataW.trod_step] at hf
    unfold DataW.trodStep at hf
    simp only [hu, Value.cells] at hf
    rw [if_pos (by rw [hs]; simpa using hn)] at hf
    simp only [Option.map_eq_some_iff] at hf
    obtain ⟨ys, hy, -⟩ := hf
    have hall : ∀ i, i < n → ∃ a, xs.toList[i]? = some (.int k a) ∧ (Lit.int k a).wf = true := by
      intro i hi
      obtain ⟨y, hyi⟩ := mapM_all hy i (by simpa using hi)
      obtain ⟨a, ea, -, wa⟩ := DataW.trod_int he hyi
      refine ⟨a, ?_, wa⟩
      rw [hc] at ea
      have : (xs.toList.drop i).take 1 = [.int k a] := by simpa using ea
      have h0 := congrArg (fun l => l[0]?) this
      simpa [List.getElem?_take, List.getElem?_drop] using h0
    refine ⟨xs.toList.map numOf, by simpa using hn, ?_, ?_⟩
    · have : xs.toList = (xs.toList.map numOf).map (Value.int k) := by
        apply List.ext_getElem?
        intro i
        by_cases hi : i < n
        · obtain ⟨a, ha, -⟩ := hall i hi
          rw [List.getElem?_map, List.getElem?_map, ha]; rfl
        · rw [List.getElem?_eq_none (by simp; omega), List.getElem?_eq_none (by simp; omega)]
      rw [← this]
    · intro z hz
      obtain ⟨x, hx, rfl⟩ := List.mem_map.1 hz
      obtain ⟨i, hi, hxi⟩ := List.mem_iff_getElem.1 hx
      obtain ⟨a, ha, wa⟩ := hall i (by simpa [hn] using hi)
      have : xs.toList[i]? = some x := by rw [List.getElem?_eq_getElem hi, hxi]
      rw [this] at ha
      simp only [Option.some.injEq] at ha
      subst ha
      exact wa

end Go.Proofs.Ytglifjecihmbhaa
