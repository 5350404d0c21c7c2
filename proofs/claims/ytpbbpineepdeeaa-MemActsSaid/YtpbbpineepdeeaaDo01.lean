/- Layer 1: what one act does to the program's memory and to the document's: both do the same. -/
import Derived.Test.YtpbbpineepdeeaaRefMem
import Derived.Deep.RegionHeld3
import Derived.Deep.DeepCutAuto
open Go Go.RowKit
namespace Go.Proofs.Ytpbbpineepdeeaa

/-- The program's memory (m, a, b) reads as s, the document's (p, q, r) as t, and block x holds an act; of what was there in w0 only these have turned. -/
structure Two (w0 : World) (m a b p q r x : Nat) (cs : List Value) (w : World) (s t : MemS) : Prop where
  mem : IsMem w m a b s
  ref : IsRef w p q r t
  act : Blk w x cs 39
  only : Only [m, a, b, p, q, r] w0 w
  ap : ∀ i, i ∈ [m, a, b] → i ∉ [p, q, r] ∧ i ≠ x
  bp : ∀ i, i ∈ [p, q, r] → i ≠ x

theorem Two.drew {w0 w : World} {m a b p q r x : Nat} {cs : List Value} {s t : MemS} (h : Two w0 m a b p q r x cs w s t) : Two w0 m a b p q r x cs w.drew s t :=
  ⟨h.mem.drew, h.ref.drew, h.act.drew, h.only.drew, h.ap, h.bp⟩

theorem Two.mem' {w0 w w' : World} {m a b p q r x : Nat} {cs : List Value} {s s' t : MemS} (h : Two w0 m a b p q r x cs w s t) (hm : IsMem w' m a b s') (ho : Only [m, a, b] w w') : Two w0 m a b p q r x cs w' s' t := by
  have h1 := h.ap m (by simp)
  have h2 := h.ap a (by simp)
  have h3 := h.ap b (by simp)
  simp at h1 h2 h3
  exact ⟨hm, h.ref.only ho (by simp; omega) (by simp; omega) (by simp; omega), h.act.only ho (by simp; omega), h.only.trans (ho.mono (fun k hk => by simp at hk ⊢; omega)), h.ap, h.bp⟩

theorem Two.ref' {w0 w w' : World} {m a b p q r x : Nat} {cs : List Value} {s t t' : MemS} (h : Two w0 m a b p q r x cs w s t) (hm : IsRef w' p q r t') (ho : Only [p, q, r] w w') : Two w0 m a b p q r x cs w' s t' := by
  have h1 := h.ap m (by simp)
  have h2 := h.ap a (by simp)
  have h3 := h.ap b (by simp)
  have h4 := h.bp p (by simp)
  have h5 := h.bp q (by simp)
  have h6 := h.bp r (by simp)
  simp at h1 h2 h3
  exact ⟨h.mem.only ho (by simp; omega) (by simp; omega) (by simp; omega), hm, h.act.only ho (by simp; omega), h.only.trans (ho.mono (fun k hk => by simp at hk ⊢; omega)), h.ap, h.bp⟩

theorem Two.live {w0 w : World} {m a b p q r x : Nat} {cs : List Value} {s t : MemS} (h : Two w0 m a b p q r x cs w s t) (at_ n : Int) :
    Calls Try.prog 11 #[.pointer (some ⟨m, 0, none⟩), .int .i64 at_, .int .i64 n] w fun e w' => e = .returned (.int .i64 (s.tcode at_ n true)) ∧ Two w0 m a b p q r x cs w' (s.turn at_ n true) t :=
  (live_any m a b s at_ n w h.mem).mono fun _ _ ⟨he, h1, h2⟩ => ⟨he, h.mem' h1 h2⟩
theorem Two.freeC {w0 w : World} {m a b p q r x : Nat} {cs : List Value} {s t : MemS} (h : Two w0 m a b p q r x cs w s t) (at_ n : Int) :
    Calls Try.prog 15 #[.pointer (some ⟨m, 0, none⟩), .int .i64 at_, .int .i64 n] w fun e w' => e = .returned (.int .i64 (s.tcode at_ n false)) ∧ Two w0 m a b p q r x cs w' (s.turn at_ n false) t :=
  (free_any m a b s at_ n w h.mem).mono fun _ _ ⟨he, h1, h2⟩ => ⟨he, h.mem' h1 h2⟩
theorem Two.turnC {w0 w : World} {m a b p q r x : Nat} {cs : List Value} {s t : MemS} (h : Two w0 m a b p q r x cs w s t) (at_ n : Int) (v : Bool) :
    Calls Try.prog 28 #[.pointer (some ⟨p, 0, none⟩), .int .i64 at_, .int .i64 n, .bool v] w fun e w' => e = .returned (.int .i64 (t.tcode at_ n v)) ∧ Two w0 m a b p q r x cs w' s (t.turn at_ n v) :=
  (rturn_any p q r t at_ n v w h.ref).mono fun _ _ ⟨he, h1, h2⟩ => ⟨he, h.ref' h1 h2⟩

/-- What one act (0 live, 1 free, 2 load, 3 store, 4 swap, 5 add) does to a memory. -/
def MemS.act (s : MemS) (k : Nat) (at_ n was nw : Int) : MemS :=
  match k with
  | 0 => s.turn at_ n true
  | 1 => s.turn at_ n false
  | 2 => s.load at_
  | 3 => s.store at_ nw
  | 4 => s.swap at_ was nw
  | _ => s.add at_ nw

def DoPost (w : World) (m a b p q r : Nat) (s : MemS) (e : Ending) (w' : World) : Prop :=
  e = .returned (.bool true) ∧ IsMem w' m a b s ∧ IsRef w' p q r s ∧ Only [m, a, b, p, q, r] w w'

theorem two_of {w wz : World} {m a b p q r : Nat} {cs : List Value} {s t : MemS} (hz : wz.heap.size = w.heap.size) (hm : IsMem wz m a b s) (hr : IsRef wz p q r t) (ho : Only [m, a, b, p, q, r] w wz) (hap : ∀ i, i ∈ [m, a, b] → i ∉ [p, q, r]) :
    Two w m a b p q r w.heap.size cs (wz.alloc (.cells cs.toArray 39)) s t := by
  have := hm.top.lt; have := hm.words.lt; have := hm.live.lt
  have := hr.top.lt; have := hr.words.lt; have := hr.live.lt
  exact ⟨hm.alloc _, hr.alloc _, hz ▸ Blk.new wz cs _, ho.alloc _, fun i hi => ⟨hap i hi, by simp at hi; omega⟩, fun i hi => by simp at hi; omega⟩

set_option maxRecDepth 100000 in
theorem do_live (m a b p q r : Nat) (s : MemS) (y at_ n was nw : Int) (w : World) (hm : IsMem w m a b s) (hr : IsRef w p q r s) (hap : ∀ i, i ∈ [m, a, b] → i ∉ [p, q, r]) (hk : (wrap64 (y.tmod 6 + 6)).tmod 6 = 0) :
    Calls Try.prog 21 #[.pointer (some ⟨m, 0, none⟩), .pointer (some ⟨p, 0, none⟩), .agg #[.int .i64 y, .int .i64 at_, .int .i64 n, .int .i64 was, .int .i64 nw]] w (DoPost w m a b p q r (s.turn at_ n true)) := by
  have hq0 : ((wrap64 (y.tmod 6 + 6)).tmod 6 == 0) = true := by rw [hk]; rfl
  have T0 : Two w m a b p q r w.heap.size [.int .i64 y, .int .i64 at_, .int .i64 n, .int .i64 was, .int .i64 nw] (w.alloc (.cells #[.int .i64 y, .int .i64 at_, .int .i64 n, .int .i64 was, .int .i64 nw] 39)).drew s s := Two.drew (two_of (cs := [_, _, _, _, _]) rfl hm hr (Only.refl _ _) hap)
  have L1 : Hid (∀ wx s t, Two w m a b p q r w.heap.size [.int .i64 y, .int .i64 at_, .int .i64 n, .int .i64 was, .int .i64 nw] wx s t →
    Calls Try.prog 11 #[.pointer (some ⟨m, 0, none⟩), .int .i64 at_, .int .i64 n] wx fun e w' => e = .returned (.int .i64 (s.tcode at_ n true)) ∧ w'.cell? ⟨w.heap.size, 1, none⟩ = some (.int .i64 at_) ∧ w'.cell? ⟨w.heap.size, 2, none⟩ = some (.int .i64 n) ∧ Two w m a b p q r w.heap.size [.int .i64 y, .int .i64 at_, .int .i64 n, .int .i64 was, .int .i64 nw] w' (s.turn at_ n true) t) :=
    fun wx s t h => (h.live at_ n).mono fun _ _ ⟨he, h1⟩ => ⟨he, by rw [h1.act.cell]; rfl, by rw [h1.act.cell]; rfl, h1⟩
  have L2 : Hid (∀ wx s t, Two w m a b p q r w.heap.size [.int .i64 y, .int .i64 at_, .int .i64 n, .int .i64 was, .int .i64 nw] wx s t →
    Calls Try.prog 28 #[.pointer (some ⟨p, 0, none⟩), .int .i64 at_, .int .i64 n, .bool true] wx fun e w' => e = .returned (.int .i64 (t.tcode at_ n true)) ∧ w'.cell? ⟨w.heap.size, 1, none⟩ = some (.int .i64 at_) ∧ w'.cell? ⟨w.heap.size, 2, none⟩ = some (.int .i64 n) ∧ Two w m a b p q r w.heap.size [.int .i64 y, .int .i64 at_, .int .i64 n, .int .i64 was, .int .i64 nw] w' s (t.turn at_ n true)) :=
    fun wx s t h => (h.turnC at_ n true).mono fun _ _ ⟨he, h1⟩ => ⟨he, by rw [h1.act.cell]; rfl, by rw [h1.act.cell]; rfl, h1⟩
  have HK := Lib.hid hk
  clear hm hr hap hk
  go_enter Try.func21, Try.ntmps21
  go_wp2_with fail
  go_region_held3 (fun w' => w'.cell? ⟨w.heap.size, 1, none⟩ = some (.int .i64 at_) ∧ w'.cell? ⟨w.heap.size, 2, none⟩ = some (.int .i64 n)) (go_keep)
    (first | (go_at_call 11; refine (L1.out _ _ _ (by assumption)).mono ?_; rintro e w1 ⟨rfl, c1, c2, hT⟩) | (go_at_call 28; refine (L2.out _ _ _ (by assumption)).mono ?_; rintro e w1 ⟨rfl, c1, c2, hT⟩))
  all_goals go_wp2_with fail
  all_goals go_ret
  all_goals exact ⟨rfl, Two.mem (by assumption), Two.ref (by assumption), Two.only (by assumption)⟩

set_option maxRecDepth 100000 in
theorem do_free (m a b p q r : Nat) (s : MemS) (y at_ n was nw : Int) (w : World) (hm : IsMem w m a b s) (hr : IsRef w p q r s) (hap : ∀ i, i ∈ [m, a, b] → i ∉ [p, q, r]) (hk : (wrap64 (y.tmod 6 + 6)).tmod 6 = 1) :
    Calls Try.prog 21 #[.pointer (some ⟨m, 0, none⟩), .pointer (some ⟨p, 0, none⟩), .agg #[.int .i64 y, .int .i64 at_, .int .i64 n, .int .i64 was, .int .i64 nw]] w (DoPost w m a b p q r (s.turn at_ n false)) := by
  have hq0 : ((wrap64 (y.tmod 6 + 6)).tmod 6 == 0) = false := by rw [hk]; rfl
  have hq1 : ((wrap64 (y.tmod 6 + 6)).tmod 6 == 1) = true := by rw [hk]; rfl
  have T0 : Two w m a b p q r w.heap.size [.int .i64 y, .int .i64 at_, .int .i64 n, .int .i64 was, .int .i64 nw] (w.alloc (.cells #[.int .i64 y, .int .i64 at_, .int .i64 n, .int .i64 was, .int .i64 nw] 39)).drew s s := Two.drew (two_of (cs := [_, _, _, _, _]) rfl hm hr (Only.refl _ _) hap)
  have L1 : Hid (∀ wx s t, Two w m a b p q r w.heap.size [.int .i64 y, .int .i64 at_, .int .i64 n, .int .i64 was, .int .i64 nw] wx s t →
    Calls Try.prog 15 #[.pointer (some ⟨m, 0, none⟩), .int .i64 at_, .int .i64 n] wx fun e w' => e = .returned (.int .i64 (s.tcode at_ n false)) ∧ w'.cell? ⟨w.heap.size, 1, none⟩ = some (.int .i64 at_) ∧ w'.cell? ⟨w.heap.size, 2, none⟩ = some (.int .i64 n) ∧ Two w m a b p q r w.heap.size [.int .i64 y, .int .i64 at_, .int .i64 n, .int .i64 was, .int .i64 nw] w' (s.turn at_ n false) t) :=
    fun wx s t h => (h.freeC at_ n).mono fun _ _ ⟨he, h1⟩ => ⟨he, by rw [h1.act.cell]; rfl, by rw [h1.act.cell]; rfl, h1⟩
  have L2 : Hid (∀ wx s t, Two w m a b p q r w.heap.size [.int .i64 y, .int .i64 at_, .int .i64 n, .int .i64 was, .int .i64 nw] wx s t →
    Calls Try.prog 28 #[.pointer (some ⟨p, 0, none⟩), .int .i64 at_, .int .i64 n, .bool false] wx fun e w' => e = .returned (.int .i64 (t.tcode at_ n false)) ∧ w'.cell? ⟨w.heap.size, 1, none⟩ = some (.int .i64 at_) ∧ w'.cell? ⟨w.heap.size, 2, none⟩ = some (.int .i64 n) ∧ Two w m a b p q r w.heap.size [.int .i64 y, .int .i64 at_, .int .i64 n, .int .i64 was, .int .i64 nw] w' s (t.turn at_ n false)) :=
    fun wx s t h => (h.turnC at_ n false).mono fun _ _ ⟨he, h1⟩ => ⟨he, by rw [h1.act.cell]; rfl, by rw [h1.act.cell]; rfl, h1⟩
  have HK := Lib.hid hk
  clear hm hr hap hk
  go_enter Try.func21, Try.ntmps21
  go_wp2_with fail
  go_region_held3 (fun w' => w'.cell? ⟨w.heap.size, 1, none⟩ = some (.int .i64 at_) ∧ w'.cell? ⟨w.heap.size, 2, none⟩ = some (.int .i64 n)) (go_keep)
    (first | (go_at_call 15; refine (L1.out _ _ _ (by assumption)).mono ?_; rintro e w1 ⟨rfl, c1, c2, hT⟩) | (go_at_call 28; refine (L2.out _ _ _ (by assumption)).mono ?_; rintro e w1 ⟨rfl, c1, c2, hT⟩))
  all_goals go_wp2_with fail
  all_goals go_ret
  all_goals exact ⟨rfl, Two.mem (by assumption), Two.ref (by assumption), Two.only (by assumption)⟩


end Go.Proofs.Ytpbbpineepdeeaa
