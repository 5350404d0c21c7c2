/- A struct of a number and two arrays of three numbers that came in by value. -/
import Derived.Test.YtccadafajocbgaaLaw
import Derived.ChangeArms
open Go Go.ChangeShapes Go.WideShapes Go.ChangeAt Go.RowKit
namespace Go.Proofs.Ytccadafajocbgaa

theorem mapM_each {α β : Type} {f : α → Option β} : ∀ {L : List α} {ys : List β}, L.mapM f = some ys → ∀ i, i ∈ L → ∃ y, f i = some y
  | [], _, _, i, hi => by simp at hi
  | a :: L, ys, h, i, hi => by
    rw [List.mapM_cons] at h
    simp only [bind, Option.bind_eq_some_iff, pure, Option.some.injEq] at h
    obtain ⟨y, hy, zs, hz, -⟩ := h
    rcases List.mem_cons.1 hi with rfl | hi
    · exact ⟨y, hy⟩
    · exact mapM_each hz i hi

theorem trod_arr {H : Type} {enc : TypeId × Value → H} {P : Program} {W : World} {t e : TypeId} {k : IntKind} {n fuel : Nat} {cs : List Value} {y : DataW H × List MemPlace}
    (hu : P.underlying t = some (.array n e)) (he : P.underlying e = some (.int k)) (hc : P.cellsOf e = 1) (h : DataW.trod enc P W 0 (fun _ => true) true fuel t cs = some y) :
    ∀ i, i < n → ∃ a, cs[i]? = some (.int k a) := by
  cases fuel with
  | zero => simp [DataW.trod] at h
  | succ m =>
    rw [DataW.trod_step] at h
    unfold DataW.trodStep at h
    simp only [hu] at h
    split at h
    · simp only [Option.map_eq_some_iff] at h
      obtain ⟨ys, hy, -⟩ := h
      intro i hi
      obtain ⟨y, hyi⟩ := mapM_each hy i (by simpa using hi)
      obtain ⟨a, ea, -, -⟩ := DataW.trod_int he hyi
      refine ⟨a, ?_⟩
      rw [hc] at ea
      have : (cs.drop i).take 1 = [.int k a] := by simpa using ea
      have h0 := congrArg (fun l => l[0]?) this
      simpa [List.getElem?_take, List.getElem?_drop] using h0
    · cases h

theorem arg_shape {H : Type} {enc : TypeId × Value → H} {P : Program} {W : World} {t ti ta : TypeId} {f0 f1 f2 : Field} {v : Value} {d : DataW H} {p : List MemPlace}
    (ht : P.underlying t = some (.struct #[f0, f1, f2])) (e0 : f0.type = ti) (e1 : f1.type = ta) (e2 : f2.type = ta) (o0 : f0.offset = 0) (o1 : f1.offset = 1) (o2 : f2.offset = 4)
    (hi : P.underlying ti = some (.int .i64)) (ha : P.underlying ta = some (.array 3 ti)) (hci : P.cellsOf ti = 1) (hca : P.cellsOf ta = 3) (hct : P.cellsOf t = 7) {base : Nat} (hok : Value.okWide P W .any base t v)
    (h : DataW.Trod enc P W 0 (fun _ => true) true t v d p) : ∃ a b0 b1 b2 c0 c1 c2 : Int, v = .agg #[.int .i64 a, .int .i64 b0, .int .i64 b1, .int .i64 b2, .int .i64 c0, .int .i64 c1, .int .i64 c2] := by
  simp only [Value.okWide, ht] at hok
  obtain ⟨xs, rfl, hn, -⟩ := hok
  rw [hct] at hn
  obtain ⟨fuel, hf⟩ := h
  obtain ⟨ys, n, -, -, -, hl, hfs⟩ := DataW.trod_struct ht hf
  have g0 := hfs 0 f0 rfl
  have g1 := hfs 1 f1 rfl
  have g2 := hfs 2 f2 rfl
  rw [e0, o0, hci] at g0
  rw [e1, o1, hca] at g1
  rw [e2, o2, hca] at g2
  have hl : ys.length = 3 := by simpa using hl
  rw [List.getElem?_eq_getElem (by omega)] at g0 g1 g2
  simp only [Value.cells] at g0 g1 g2
  obtain ⟨a, ea, -, -⟩ := DataW.trod_int hi g0
  obtain ⟨b0, hb0⟩ := trod_arr ha hi hci g1 0 (by omega)
  obtain ⟨b1, hb1⟩ := trod_arr ha hi hci g1 1 (by omega)
  obtain ⟨b2, hb2⟩ := trod_arr ha hi hci g1 2 (by omega)
  obtain ⟨c0, hc0⟩ := trod_arr ha hi hci g2 0 (by omega)
  obtain ⟨c1, hc1⟩ := trod_arr ha hi hci g2 1 (by omega)
  obtain ⟨c2, hc2⟩ := trod_arr ha hi hci g2 2 (by omega)
  refine ⟨a, b0, b1, b2, c0, c1, c2, ?_⟩
  obtain ⟨l⟩ := xs
  match l, hn with
  | [x0, x1, x2, x3, x4, x5, x6], _ =>
    simp at ea hb0 hb1 hb2 hc0 hc1 hc2
    rw [ea, hb0, hb1, hb2, hc0, hc1, hc2]

end Go.Proofs.Ytccadafajocbgaa
