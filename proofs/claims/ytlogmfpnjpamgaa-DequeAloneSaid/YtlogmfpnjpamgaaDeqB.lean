/- Layer 9: what the small methods of an operation do, where no word is missing. -/
import Derived.Test.YtlogmfpnjpamgaaDeqA
open Go Go.RowKit
namespace Go.Proofs.Ytlogmfpnjpamgaa

def EPost (w : World) (o m a b : Nat) (r : Value) (s : OpD) (D : Dq) (e : Ending) (w' : World) : Prop := e = .returned r ∧ HasD w' o m a b s D ∧ Only [o, m, a, b] w w'
theorem only_opd {w w1 : World} {o m a b : Nat} (h : Only [m, a, b] w w1) : Only [o, m, a, b] w w1 := h.mono (fun k hk => by simp at hk ⊢; omega)

def OpD.endsW (s : OpD) (why : Int) : OpD := { s with ended := true, why }
def OpD.doneW (s : OpD) : OpD := { s with result := s.x, ended := true, why := 0 }
def OpD.takenW (s : OpD) (is : Bool) : OpD := if is then s.doneW else s.endsW 10

theorem dends_any (o m a b : Nat) (s : OpD) (D : Dq) (why : Int) (w : World) (h : HasD w o m a b s D) :
    Calls Try.prog 45 #[.pointer (some ⟨o, 0, none⟩), .int .i64 why] w (EPost w o m a b (.tuple #[]) (s.endsW why) D) := by
  obtain ⟨c0, c1, c2, c3, c4, c5, c6, c7, c8, c9, c10, hlt⟩ := h.all
  have f7 := h.op.free 7
  have f9 := h.op.free 9
  have H := Lib.hid h
  clear h c0 c1 c2 c3 c4 c5 c6 c8 c10
  go_enter Try.func45, Try.ntmps45
  go_wp2_with fail
  go_end0
  exact ⟨rfl, (H.out.set (s' := { s with ended := true }) 7 _ rfl rfl rfl).set 9 _ rfl rfl rfl, ((Only.refl _ _).setCell (by simp) _).setCell (by simp) _⟩

theorem ddone_any (o m a b : Nat) (s : OpD) (D : Dq) (w : World) (h : HasD w o m a b s D) :
    Calls Try.prog 80 #[.pointer (some ⟨o, 0, none⟩)] w (EPost w o m a b (.tuple #[]) s.doneW D) := by
  obtain ⟨c0, c1, c2, c3, c4, c5, c6, c7, c8, c9, c10, hlt⟩ := h.all
  have f8 := h.op.free 8
  have h1 := h.set (s' := { s with result := s.x }) 8 (.int .i64 s.x) rfl rfl rfl
  have H1 := Lib.hid h1
  clear h h1 c0 c1 c2 c4 c5 c6 c7 c9 c10
  go_enter Try.func80, Try.ntmps80
  go_wp2_with (go_at_call 45; refine (dends_any o m a b _ D _ _ H1.out).mono ?_; rintro e w1 ⟨rfl, h1, h2⟩; have H2 := Lib.hid h1; have HO := Lib.hid h2; clear h1 h2)
  go_end0
  exact ⟨rfl, H2.out, ((Only.refl _ _).setCell (by simp) _).trans HO.out⟩

theorem dover_any (o m a b : Nat) (s : OpD) (D : Dq) (w : World) (h : HasD w o m a b s D) (he : s.ended = false) :
    Calls Try.prog 68 #[.pointer (some ⟨o, 0, none⟩)] w (EPost w o m a b (.tuple #[]) (s.endsW 0) D) := by
  obtain ⟨c0, c1, c2, c3, c4, c5, c6, c7, c8, c9, c10, hlt⟩ := h.all
  rw [he] at c7
  have H := Lib.hid h
  clear h he c0 c1 c2 c3 c4 c5 c6 c8 c9 c10
  go_enter Try.func68, Try.ntmps68
  go_wp2_with (go_at_call 45; refine (dends_any o m a b _ D _ _ H.out).mono ?_; rintro e w1 ⟨rfl, h1, h2⟩; have H2 := Lib.hid h1; have HO := Lib.hid h2; clear h1 h2)
  go_end0
  exact ⟨rfl, H2.out, HO.out⟩

theorem dkept_any (o m a b : Nat) (s : OpD) (D : Dq) (w : World) (h : HasD w o m a b s D) (he : s.ended = false) :
    Calls Try.prog 74 #[.pointer (some ⟨o, 0, none⟩)] w (EPost w o m a b (.tuple #[]) s.doneW D) := by
  obtain ⟨c0, c1, c2, c3, c4, c5, c6, c7, c8, c9, c10, hlt⟩ := h.all
  rw [he] at c7
  have H := Lib.hid h
  clear h he c0 c1 c2 c3 c4 c5 c6 c8 c9 c10
  go_enter Try.func74, Try.ntmps74
  go_wp2_with (go_at_call 80; refine (ddone_any o m a b _ D _ H.out).mono ?_; rintro e w1 ⟨rfl, h1, h2⟩; have H2 := Lib.hid h1; have HO := Lib.hid h2; clear h1 h2)
  go_end0
  exact ⟨rfl, H2.out, HO.out⟩

theorem dtaken_any (o m a b : Nat) (s : OpD) (D : Dq) (is : Bool) (w : World) (h : HasD w o m a b s D) (he : s.ended = false) :
    Calls Try.prog 72 #[.pointer (some ⟨o, 0, none⟩), .bool is] w (EPost w o m a b (.tuple #[]) (s.takenW is) D) := by
  obtain ⟨c0, c1, c2, c3, c4, c5, c6, c7, c8, c9, c10, hlt⟩ := h.all
  rw [he] at c7
  have H := Lib.hid h
  clear h he c0 c1 c2 c3 c4 c5 c6 c8 c9 c10
  cases is
  · go_enter Try.func72, Try.ntmps72
    go_wp2_with (go_at_call 45; refine (dends_any o m a b _ D _ _ H.out).mono ?_; rintro e w1 ⟨rfl, h1, h2⟩; have H2 := Lib.hid h1; have HO := Lib.hid h2; clear h1 h2)
    go_end0
    exact ⟨rfl, H2.out, HO.out⟩
  · go_enter Try.func72, Try.ntmps72
    go_wp2_with (go_at_call 80; refine (ddone_any o m a b _ D _ H.out).mono ?_; rintro e w1 ⟨rfl, h1, h2⟩; have H2 := Lib.hid h1; have HO := Lib.hid h2; clear h1 h2)
    go_end0
    exact ⟨rfl, H2.out, HO.out⟩

theorem dload_any (o m a b : Nat) (s : OpD) (D : Dq) (at_ : Int) (k : Nat) (w : World) (h : HasD w o m a b s D) (hk : k < s.room + 2) (ha : at_ = ((s.base + k : Nat) : Int)) :
    Calls Try.prog 42 #[.pointer (some ⟨o, 0, none⟩), .pointer (some ⟨m, 0, none⟩), .int .i64 at_] w (EPost w o m a b (.int .i64 (D k)) s D) := by
  obtain ⟨t, hm, hr⟩ := h.mem
  have hc := hr.code k hk
  have hw := hr.word k hk
  rw [← ha] at hc hw
  have HM := Lib.hid hm; have HR := Lib.hid hr; have H := Lib.hid h; have HC := Lib.hid hc; have HW := Lib.hid hw
  clear hm hr h hc hw ha
  go_enter Try.func42, Try.ntmps42
  go_wp2_with fail
  refine (load_any m a b t at_ w HM.out).mono ?_
  rintro e w1 ⟨rfl, h1, h2⟩
  rw [HC.out, HW.out]
  have H1 := Lib.hid (H.out.mem' h1 (HR.out.load _) h2); have HO := Lib.hid (only_opd (o := o) h2); clear h1 h2
  go_wp2_with fail
  go_ret
  exact ⟨rfl, H1.out, HO.out⟩

theorem dstore_any (o m a b : Nat) (s : OpD) (D : Dq) (at_ n : Int) (k : Nat) (w : World) (h : HasD w o m a b s D) (hk : k < s.room + 2) (ha : at_ = ((s.base + k : Nat) : Int)) :
    Calls Try.prog 57 #[.pointer (some ⟨o, 0, none⟩), .pointer (some ⟨m, 0, none⟩), .int .i64 at_, .int .i64 n] w (EPost w o m a b (.tuple #[]) s (D.put k n)) := by
  obtain ⟨t, hm, hr⟩ := h.mem
  have hc := hr.code k hk
  have hs := hr.store k hk n
  rw [← ha] at hc hs
  have HM := Lib.hid hm; have HR := Lib.hid hs; have H := Lib.hid h; have HC := Lib.hid hc
  clear hm hr h hc hs ha
  go_enter Try.func57, Try.ntmps57
  go_wp2_with fail
  refine (store_any m a b t at_ n w HM.out).mono ?_
  rintro e w1 ⟨rfl, h1, h2⟩
  rw [HC.out]
  have H1 := Lib.hid (H.out.mem' h1 HR.out h2); have HO := Lib.hid (only_opd (o := o) h2); clear h1 h2
  go_wp2_with fail
  go_end0
  exact ⟨rfl, H1.out, HO.out⟩

theorem dend_any (kind base room : Int) (w : World) : Calls Try.prog 43 #[.agg #[.int .i64 kind, .int .i64 base, .int .i64 room]] w fun e w' => e = .returned (.int .i64 base) ∧ Only [] w w' := by
  go_enter Try.func43, Try.ntmps43
  go_wp2_with fail
  go_ret
  exact ⟨rfl, (Only.refl _ _).alloc _⟩
theorem dtop_any (kind base room : Int) (w : World) (h0 : 0 ≤ base) (h1 : base ≤ 100000) : Calls Try.prog 46 #[.agg #[.int .i64 kind, .int .i64 base, .int .i64 room]] w fun e w' => e = .returned (.int .i64 (base + 1)) ∧ Only [] w w' := by
  go_enter Try.func46, Try.ntmps46
  go_wp2_with fail
  go_ret
  exact ⟨rfl, (Only.refl _ _).alloc _⟩
theorem dslot_any (kind : Int) (base room n : Nat) (w : World) (h1 : base ≤ 100000) (h2 : 1 ≤ room) (h3 : room ≤ 1000) (h4 : n < 4611686018427387904) : Calls Try.prog 58 #[.agg #[.int .i64 kind, .int .i64 base, .int .i64 room], .int .i64 n] w fun e w' => e = .returned (.int .i64 ((base + (2 + n % room) : Nat) : Int)) ∧ Only [] w w' := by
  have hr : ((room : Int) == 0) = false := by simp; omega
  have hr2 : ¬ (room : Int) = 0 := by omega
  have ht : (n : Int).tmod (room : Int) = ((n % room : Nat) : Int) := by rw [Int.tmod_eq_emod_of_nonneg (by omega)]; rfl
  have hm : n % room < room := Nat.mod_lt _ (by omega)
  have hw1 : IntKind.i64.wrap ((base : Int) + 2) = (base : Int) + 2 := by rw [IntKind.wrap_i64]; omega
  have hw2 : IntKind.i64.wrap ((base : Int) + 2 + ((n % room : Nat) : Int)) = (base : Int) + 2 + ((n % room : Nat) : Int) := by rw [IntKind.wrap_i64]; omega
  have hw3 : IntKind.i64.wrap ((n % room : Nat) : Int) = ((n % room : Nat) : Int) := by rw [IntKind.wrap_i64]; omega
  obtain ⟨q, hq⟩ : ∃ q, q = n % room := ⟨_, rfl⟩
  rw [← hq] at ht hm hw2 hw3 ⊢
  have HQ := Lib.hid hq; clear hq
  go_enter Try.func58, Try.ntmps58
  go_wp2_with fail
  go_quiet (fail)
  go_wp2_with fail
  go_ret
  exact ⟨by rw [show ((base + (2 + q) : Nat) : Int) = (base : Int) + 2 + (q : Int) from by omega]; rfl, ((Only.refl _ _).alloc _).drewN _⟩

def Dq.hit (D : Dq) (k : Nat) (was : Int) : Bool := decide (D k = was)
def Dq.swap (D : Dq) (k : Nat) (was n : Int) : Dq := if D k = was then D.put k n else D

theorem dmswap_any (o m a b : Nat) (s : OpD) (D : Dq) (at_ was n : Int) (k : Nat) (w : World) (h : HasD w o m a b s D) (hk : k < s.room + 2) (ha : at_ = ((s.base + k : Nat) : Int)) :
    Calls Try.prog 81 #[.pointer (some ⟨m, 0, none⟩), .int .i64 at_, .int .i64 was, .int .i64 n] w (EPost w o m a b (.tuple #[.bool (D.hit k was), .int .i64 0]) s (D.swap k was n)) := by
  obtain ⟨t, hm, hr⟩ := h.mem
  have hc := hr.code k hk
  have hh := hr.hit k hk was
  have hs := hr.swap k hk was n
  rw [← ha] at hc hh hs
  refine (swap_any m a b t at_ was n w hm).mono ?_
  rintro e w1 ⟨rfl, h1, h2⟩
  rw [hc, hh]
  exact ⟨rfl, h.mem' h1 hs h2, only_opd h2⟩

theorem dswap_any (o m a b : Nat) (s : OpD) (D : Dq) (n : Int) (w : World) (h : HasD w o m a b s D) :
    Calls Try.prog 73 #[.pointer (some ⟨o, 0, none⟩), .pointer (some ⟨m, 0, none⟩), .int .i64 n] w (EPost w o m a b (.bool (D.hit 1 s.t)) s (D.swap 1 s.t n)) := by
  obtain ⟨c0, c1, c2, c3, c4, c5, c6, c7, c8, c9, c10, hlt⟩ := h.all
  have hb := h.hbase
  have H := Lib.hid h
  clear h c3 c4 c6 c7 c8 c9 c10
  go_enter Try.func73, Try.ntmps73
  go_wp2_with fail
  go_region_held3 (fun w' => w'.cell? ⟨o, 0, none⟩ = some (.int .i64 s.kind) ∧ w'.cell? ⟨o, 1, none⟩ = some (.int .i64 s.base) ∧ w'.cell? ⟨o, 2, none⟩ = some (.int .i64 s.room) ∧ w'.cell? ⟨o, 5, none⟩ = some (.int .i64 s.t)) (go_keep)
    (first
      | (go_at_call 46; refine (dtop_any _ _ _ _ (by omega) (by omega)).mono ?_; rintro e w1 ⟨rfl, ho⟩; have h1 := H.out.drew.only0 ho; obtain ⟨d0, d1, d2, d3, d4, d5, d6, d7, d8, d9, d10, dlt⟩ := h1.all; clear d3 d4 d6 d7 d8 d9 d10; have H1 := Lib.hid h1; have HO1 := Lib.hid ho; clear h1 ho)
      | (go_at_call 81; refine (dmswap_any o m a b s D _ _ _ 1 _ H1.out (by omega) (by omega)).mono ?_; rintro e w2 ⟨rfl, h2, ho⟩; obtain ⟨e0, e1, e2, e3, e4, e5, e6, e7, e8, e9, e10, elt⟩ := h2.all; clear e3 e4 e6 e7 e8 e9 e10; have H2 := Lib.hid h2; have HO2 := Lib.hid ho; clear h2 ho))
  all_goals go_wp2_with fail
  all_goals go_ret
  all_goals exact ⟨rfl, H2.out, (((Only.refl _ _).drew.trans (HO1.out.mono (by simp))).trans HO2.out)⟩

end Go.Proofs.Ytlogmfpnjpamgaa
