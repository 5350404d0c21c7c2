/- Layer 13, plain: what a world of the law's keeps, whatever the moves are: the chain of those who wait. -/
import Derived.Test.YtglifjecihmbhaaCellL
open Go Go.RowKit
namespace Go.Proofs.Ytglifjecihmbhaa

def Chain (L : List Int) : Int → List Nat → Prop
  | h, [] => h = 0
  | h, x :: l => h = (x : Int) ∧ 1 ≤ x ∧ x ≤ 5 ∧ Chain L (L.getD x 0) l

theorem Chain.set {L : List Int} {x : Nat} {n : Int} : ∀ {l : List Nat} {h : Int}, x ∉ l → Chain L h l → Chain (L.set x n) h l
  | [], _, _, c => c
  | y :: l, h, hx, c => by
    obtain ⟨c1, c2, c3, c4⟩ := c
    have hy : x ≠ y := fun e => hx (by simp [e])
    have e : (L.set x n).getD y 0 = L.getD y 0 := by simp [List.getD_eq_getElem?_getD, hy]
    exact ⟨c1, c2, c3, by rw [e]; exact Chain.set (fun hm => hx (by simp [hm])) c4⟩

theorem Chain.low {L : List Int} : ∀ {l : List Nat} {h : Int}, Chain L h l → ∀ x, x ∈ l → 1 ≤ x ∧ x ≤ 5
  | [], _, _, x, hx => by simp at hx
  | y :: l, h, c, x, hx => by
    obtain ⟨c1, c2, c3, c4⟩ := c
    rcases List.mem_cons.1 hx with rfl | hx
    · exact ⟨c2, c3⟩
    · exact Chain.low c4 x hx

/-- No more than five stand in a chain without a second time. -/
theorem nodup_le : ∀ {l m : List Nat}, l.Nodup → (∀ x, x ∈ l → x ∈ m) → l.length ≤ m.length
  | [], _, _, _ => Nat.zero_le _
  | x :: l, m, hn, h => by
    obtain ⟨h1, h2⟩ := List.nodup_cons.1 hn
    have hx := h x (by simp)
    have := nodup_le (l := l) (m := m.erase x) h2 (fun y hy => (List.mem_erase_of_ne (fun e : y = x => h1 (by rw [← e]; exact hy))).2 (h y (by simp [hy])))
    rw [List.length_erase_of_mem hx] at this
    have := List.length_pos_of_mem hx
    simp; omega
theorem nodup_len {l : List Nat} (hn : l.Nodup) (h : ∀ x, x ∈ l → 1 ≤ x ∧ x ≤ 5) : l.length ≤ 5 := by
  exact nodup_le (m := [1, 2, 3, 4, 5]) hn (fun x hx => by
    have := h x hx
    simp; omega)

def P0 (value why : Int) (C : ACell) (s : AOp) : Prop :=
  (C.H = -1 ↔ s.ended = true) ∧ s.value = value ∧ s.why = why ∧ (1 ≤ s.pc → C.V = value) ∧ (2 ≤ s.pc → C.Y = why) ∧ (s.ended = true → 3 ≤ s.pc)
def PW (value why : Int) (C : ACell) (x : Nat) (s : AOp) : Prop :=
  (s.ended = false → (1 ≤ s.pc → s.pc ≤ 2 → s.h ≠ -1) ∧ (s.pc = 2 → C.L.getD x 0 = s.h) ∧ (3 ≤ s.pc → C.H = -1) ∧ (s.pc = 4 → s.value = value)) ∧ (s.ended = true → s.waits = false → s.value = value ∧ s.why = why)
def PC (C : ACell) (first : Int) (waits : Nat → Bool) : Prop :=
  ∃ l : List Nat, l.Nodup ∧ Chain C.L (if C.H = -1 then first else C.H) l ∧ ∀ x, 1 ≤ x → x ≤ 5 → (x ∈ l ↔ waits x = true)

theorem AOp.step_ended (C : ACell) (s : AOp) (h : s.ended = true) : s.step C = (C, s) := by rw [AOp.step, if_pos h]

theorem step0 {value why : Int} {C : ACell} {s : AOp} (hg : s.good 0) (h : P0 value why C s) :
    P0 value why (s.step C).1 (s.step C).2 ∧ (s.step C).1.L = C.L ∧ (((s.step C).1.H = C.H ∧ (s.step C).2.first = s.first) ∨ (C.H ≠ -1 ∧ (s.step C).1.H = -1 ∧ (s.step C).2.first = C.H)) := by
  by_cases he : s.ended = true
  · rw [AOp.step_ended C s he]; exact ⟨h, rfl, Or.inl ⟨rfl, rfl⟩⟩
  obtain ⟨x, pc, h0, v, y, ended, waits, first⟩ := s
  have hf : ended = false := eq_false_of_ne_true he
  subst hf
  obtain ⟨hx, hk5, hu, -⟩ := hg
  obtain ⟨hw, hp, -⟩ := hu rfl
  have hp := hp rfl
  simp only at hx hw hp
  subst hw; subst hx
  obtain ⟨p1, p2, p3, p4, p5, p6⟩ := h
  have hH : C.H ≠ -1 := fun e => by simpa using p1.1 e
  simp only at p2 p3 p4 p5
  rcases (show pc = 0 ∨ pc = 1 ∨ pc = 2 ∨ pc = 3 by omega) with rfl | rfl | rfl | rfl
  · refine ⟨⟨⟨fun e => absurd e hH, fun e => by simp [AOp.step] at e⟩, p2, p3, fun _ => p2, fun e => by simp [AOp.step] at e, fun e => by simp [AOp.step] at e⟩, rfl, Or.inl ⟨rfl, rfl⟩⟩
  · refine ⟨⟨⟨fun e => absurd e hH, fun e => by simp [AOp.step] at e⟩, p2, p3, fun _ => p4 (by omega), fun _ => p3, fun e => by simp [AOp.step] at e⟩, rfl, Or.inl ⟨rfl, rfl⟩⟩
  · refine ⟨⟨⟨fun e => absurd e hH, fun e => by simp [AOp.step] at e⟩, p2, p3, fun _ => p4 (by omega), fun _ => p5 (by omega), fun e => by simp [AOp.step] at e⟩, rfl, Or.inl ⟨rfl, rfl⟩⟩
  · by_cases hE : C.H = h0
    · have e : AOp.step C { x := ((0 : Nat) : Int), pc := 3, h := h0, value := v, why := y, ended := false, waits := false, first } = ({ C with H := -1 }, { x := 0, pc := 4, h := h0, value := v, why := y, ended := true, waits := false, first := h0 }) := by
        simp [AOp.step, hE]
      rw [e]
      exact ⟨⟨⟨fun _ => rfl, fun _ => rfl⟩, p2, p3, fun _ => p4 (by omega), fun _ => p5 (by omega), fun _ => by show 3 ≤ 4; omega⟩, rfl, Or.inr ⟨hH, rfl, hE.symm⟩⟩
    · have e : AOp.step C { x := ((0 : Nat) : Int), pc := 3, h := h0, value := v, why := y, ended := false, waits := false, first } = (C, { x := 0, pc := 2, h := h0, value := v, why := y, ended := false, waits := false, first }) := by
        simp [AOp.step, hE]
      rw [e]
      exact ⟨⟨⟨fun e => absurd e hH, (fun e => by cases e)⟩, p2, p3, fun _ => p4 (by omega), fun _ => p5 (by omega), (fun e => by cases e)⟩, rfl, Or.inl ⟨rfl, rfl⟩⟩

theorem stepW {value why : Int} {C : ACell} {s s0 : AOp} {k : Nat} (hk : 1 ≤ k) (hlen : C.L.length = 6) (hg : s.good k) (h0 : P0 value why C s0) (h : PW value why C k s) :
    PW value why (s.step C).1 k (s.step C).2 ∧ (s.step C).1.V = C.V ∧ (s.step C).1.Y = C.Y ∧
      (((s.step C).1.H = C.H ∧ (s.step C).1.L = C.L ∧ (s.step C).2.waits = s.waits) ∨ ((s.step C).1.H = C.H ∧ (∃ n, (s.step C).1.L = C.L.set k n) ∧ s.waits = false ∧ (s.step C).2.waits = false) ∨
        (C.H ≠ -1 ∧ (s.step C).1.H = k ∧ (s.step C).1.L = C.L ∧ C.L.getD k 0 = C.H ∧ s.waits = false ∧ (s.step C).2.waits = true)) := by
  by_cases he : s.ended = true
  · rw [AOp.step_ended C s he]; exact ⟨h, rfl, rfl, Or.inl ⟨rfl, rfl, rfl⟩⟩
  obtain ⟨x, pc, hd, v, y, ended, waits, first⟩ := s
  have hf : ended = false := eq_false_of_ne_true he
  subst hf
  obtain ⟨hx, hk5, hu, -⟩ := hg
  obtain ⟨hw, -, hp⟩ := hu rfl
  have hp := hp hk
  simp only at hx hw hp
  subst hw; subst hx
  obtain ⟨q, -⟩ := h
  obtain ⟨q1, q2, q3, q4⟩ := q rfl
  simp only at q1 q2 q3 q4
  obtain ⟨p1, p2, p3, p4, p5, p6⟩ := h0
  have hkp : (0 : Int) < (k : Int) := by omega
  rcases (show pc = 0 ∨ pc = 1 ∨ pc = 2 ∨ pc = 3 ∨ pc = 4 by omega) with rfl | rfl | rfl | rfl | rfl
  · by_cases hE : C.H = -1
    · have e : AOp.step C { x := (k : Int), pc := 0, h := hd, value := v, why := y, ended := false, waits := false, first } = (C, { x := k, pc := 3, h := C.H, value := v, why := y, ended := false, waits := false, first }) := by
        simp [AOp.step, hE]; omega
      rw [e]
      exact ⟨⟨fun _ => ⟨fun _ h => by simp at h, fun h => by simp at h, fun _ => hE, fun h => by simp at h⟩, (fun e => by cases e)⟩, rfl, rfl, Or.inl ⟨rfl, rfl, rfl⟩⟩
    · have e : AOp.step C { x := (k : Int), pc := 0, h := hd, value := v, why := y, ended := false, waits := false, first } = (C, { x := k, pc := 1, h := C.H, value := v, why := y, ended := false, waits := false, first }) := by
        simp [AOp.step, hE]; omega
      rw [e]
      exact ⟨⟨fun _ => ⟨fun _ _ => hE, fun h => by simp at h, fun h => by simp at h, fun h => by simp at h⟩, (fun e => by cases e)⟩, rfl, rfl, Or.inl ⟨rfl, rfl, rfl⟩⟩
  · have e : AOp.step C { x := (k : Int), pc := 1, h := hd, value := v, why := y, ended := false, waits := false, first } = ({ C with L := C.L.set k hd }, { x := k, pc := 2, h := hd, value := v, why := y, ended := false, waits := false, first }) := by
      simp [AOp.step]; omega
    rw [e]
    refine ⟨⟨fun _ => ⟨fun _ _ => q1 (by omega) (by omega), fun _ => ?_, fun h => by simp at h, fun h => by simp at h⟩, (fun e => by cases e)⟩, rfl, rfl, Or.inr (Or.inl ⟨rfl, ⟨hd, rfl⟩, rfl, rfl⟩)⟩
    simp [List.getD_eq_getElem?_getD, hlen, show k < 6 by omega]
  · by_cases hE : C.H = hd
    · have e : AOp.step C { x := (k : Int), pc := 2, h := hd, value := v, why := y, ended := false, waits := false, first } = ({ C with H := k }, { x := k, pc := 3, h := hd, value := v, why := y, ended := true, waits := true, first }) := by
        simp [AOp.step, hE]; omega
      rw [e]
      exact ⟨⟨(fun e => by cases e), fun _ h => by simp at h⟩, rfl, rfl, Or.inr (Or.inr ⟨by rw [hE]; exact q1 (by omega) (by omega), rfl, rfl, by rw [hE]; exact q2 rfl, rfl, rfl⟩)⟩
    · have e : AOp.step C { x := (k : Int), pc := 2, h := hd, value := v, why := y, ended := false, waits := false, first } = (C, { x := k, pc := 0, h := hd, value := v, why := y, ended := false, waits := false, first }) := by
        simp [AOp.step, hE]; omega
      rw [e]
      exact ⟨⟨fun _ => ⟨fun h => by simp at h, fun h => by simp at h, fun h => by simp at h, fun h => by simp at h⟩, (fun e => by cases e)⟩, rfl, rfl, Or.inl ⟨rfl, rfl, rfl⟩⟩
  · have e : AOp.step C { x := (k : Int), pc := 3, h := hd, value := v, why := y, ended := false, waits := false, first } = (C, { x := k, pc := 4, h := hd, value := C.V, why := y, ended := false, waits := false, first }) := by
      simp [AOp.step]; omega
    rw [e]
    have hH := q3 (by omega)
    exact ⟨⟨fun _ => ⟨fun _ h => by simp at h, fun h => by simp at h, fun _ => hH, fun _ => p4 (by have := p6 (p1.1 hH); omega)⟩, (fun e => by cases e)⟩, rfl, rfl, Or.inl ⟨rfl, rfl, rfl⟩⟩
  · have e : AOp.step C { x := (k : Int), pc := 4, h := hd, value := v, why := y, ended := false, waits := false, first } = (C, { x := k, pc := 5, h := hd, value := v, why := C.Y, ended := true, waits := false, first }) := by
      simp [AOp.step]; omega
    rw [e]
    have hH := q3 (by omega)
    exact ⟨⟨(fun e => by cases e), fun _ _ => ⟨q4 rfl, p5 (by have := p6 (p1.1 hH); omega)⟩⟩, rfl, rfl, Or.inl ⟨rfl, rfl, rfl⟩⟩

/-- What a world keeps. -/
structure J (value why : Int) (C : ACell) (A : Nat → AOp) : Prop where
  fill : P0 value why C (A 0)
  wait : ∀ x, 1 ≤ x → x ≤ 5 → PW value why C x (A x)
  chain : PC C (A 0).first (fun x => (A x).waits)

theorem J.step {value why : Int} {C : ACell} {A : Nat → AOp} (h : J value why C A) (hg : ∀ k, k ≤ 5 → (A k).good k) (hlen : C.L.length = 6) (k : Nat) (hk : k ≤ 5) : J value why (C.go A k) (opsGo C A k) := by
  obtain ⟨h0, hw, l, hn, hc, hm⟩ := h
  by_cases e : k = 0
  · subst e
    obtain ⟨s1, s2, s3⟩ := step0 (hg 0 (by omega)) h0
    have e0 : opsGo C A 0 0 = ((A 0).step C).2 := if_pos rfl
    have e1 : ∀ x, 1 ≤ x → opsGo C A 0 x = A x := fun x hx => if_neg (by omega)
    refine ⟨by rw [e0]; exact s1, fun x h1 h5 => ?_, ?_⟩
    · rw [e1 x h1]
      obtain ⟨w1, w2⟩ := hw x h1 h5
      refine ⟨fun he => ?_, w2⟩
      obtain ⟨a1, a2, a3, a4⟩ := w1 he
      refine ⟨a1, fun hp => by show ((A 0).step C).1.L.getD x 0 = _; rw [s2]; exact a2 hp, fun hp => ?_, a4⟩
      have := a3 hp
      rcases s3 with ⟨s3, -⟩ | ⟨s3, -, -⟩
      · exact s3.trans this
      · exact absurd this s3
    · refine ⟨l, hn, ?_, fun x h1 h5 => ?_⟩
      · rw [e0]
        show Chain ((A 0).step C).1.L (if ((A 0).step C).1.H = -1 then _ else ((A 0).step C).1.H) l
        rw [s2]
        rcases s3 with ⟨t1, t2⟩ | ⟨t1, t2, t3⟩
        · rw [t1, t2]; exact hc
        · rw [if_pos t2, t3]; rw [if_neg t1] at hc; exact hc
      · simp only [e1 x h1]; exact hm x h1 h5
  · have hk1 : 1 ≤ k := by omega
    obtain ⟨s1, s2, s3, s4⟩ := stepW hk1 hlen (hg k hk) h0 (hw k hk1 hk)
    have e0 : opsGo C A k 0 = A 0 := if_neg (by omega)
    have ek : opsGo C A k k = ((A k).step C).2 := if_pos rfl
    have e1 : ∀ x, x ≠ k → opsGo C A k x = A x := fun x hx => if_neg hx
    have hP0 : P0 value why (C.go A k) (A 0) := by
      obtain ⟨p1, p2, p3, p4, p5, p6⟩ := h0
      refine ⟨?_, p2, p3, fun h => s2.trans (p4 h), fun h => s3.trans (p5 h), p6⟩
      rcases s4 with ⟨t, -, -⟩ | ⟨t, -, -⟩ | ⟨t1, t2, -⟩
      · show ((A k).step C).1.H = -1 ↔ _; rw [t]; exact p1
      · show ((A k).step C).1.H = -1 ↔ _; rw [t]; exact p1
      · show ((A k).step C).1.H = -1 ↔ _; rw [t2]
        exact ⟨fun h => by omega, fun h => absurd (p1.2 h) t1⟩
    refine ⟨by rw [e0]; exact hP0, fun x h1 h5 => ?_, ?_⟩
    · by_cases ex : x = k
      · subst ex; rw [ek]; exact s1
      · rw [e1 x ex]
        obtain ⟨w1, w2⟩ := hw x h1 h5
        refine ⟨fun he => ?_, w2⟩
        obtain ⟨a1, a2, a3, a4⟩ := w1 he
        refine ⟨a1, fun hp => ?_, fun hp => ?_, a4⟩
        · show ((A k).step C).1.L.getD x 0 = _
          rcases s4 with ⟨-, t, -⟩ | ⟨-, ⟨n, t⟩, -⟩ | ⟨-, -, t, -⟩
          · rw [t]; exact a2 hp
          · rw [t, ← a2 hp]; simp [List.getD_eq_getElem?_getD, Ne.symm ex]
          · rw [t]; exact a2 hp
        · have := a3 hp
          rcases s4 with ⟨t, -, -⟩ | ⟨t, -, -⟩ | ⟨t, -, -⟩
          · exact t.trans this
          · exact t.trans this
          · exact absurd this t
    · rw [e0]
      rcases s4 with ⟨t1, t2, t3⟩ | ⟨t1, ⟨n, t2⟩, t3, t4⟩ | ⟨t1, t2, t3, t4, t5, t6⟩
      · refine ⟨l, hn, ?_, fun x h1 h5 => ?_⟩
        · show Chain ((A k).step C).1.L (if ((A k).step C).1.H = -1 then _ else ((A k).step C).1.H) l
          rw [t1, t2]; exact hc
        · by_cases ex : x = k
          · subst ex; simp only [ek, t3]; exact hm x h1 h5
          · simp only [e1 x ex]; exact hm x h1 h5
      · have hkl : k ∉ l := fun h => by have : (A k).waits = true := (hm k hk1 hk).1 h; rw [t3] at this; cases this
        refine ⟨l, hn, ?_, fun x h1 h5 => ?_⟩
        · show Chain ((A k).step C).1.L (if ((A k).step C).1.H = -1 then _ else ((A k).step C).1.H) l
          rw [t1, t2]; exact Chain.set hkl hc
        · by_cases ex : x = k
          · subst ex; simp only [ek, t4]; rw [hm x h1 h5]; simp only [t3]
          · simp only [e1 x ex]; exact hm x h1 h5
      · have hkl : k ∉ l := fun h => by have : (A k).waits = true := (hm k hk1 hk).1 h; rw [t5] at this; cases this
        rw [if_neg t1] at hc
        refine ⟨k :: l, List.nodup_cons.2 ⟨hkl, hn⟩, ?_, fun x h1 h5 => ?_⟩
        · show Chain ((A k).step C).1.L (if ((A k).step C).1.H = -1 then _ else ((A k).step C).1.H) (k :: l)
          rw [t2, t3, if_neg (by omega)]
          exact ⟨rfl, hk1, hk, by rw [t4]; exact hc⟩
        · by_cases ex : x = k
          · subst ex; simp only [ek, t6]; simp
          · simp only [e1 x ex, List.mem_cons, ex, false_or]; exact hm x h1 h5

theorem J.start (value why : Int) : J value why C0 (A0 value why) := by
  refine ⟨⟨⟨fun h => by simp [C0] at h, fun h => by simp [A0] at h⟩, rfl, rfl, fun h => by simp [A0] at h, fun h => by simp [A0] at h, fun h => by simp [A0] at h⟩, fun x h1 h5 => ?_, [], List.nodup_nil, rfl, fun x h1 h5 => ?_⟩
  · rw [A0_own _ _ _ h1]; exact ⟨fun _ => ⟨fun h => by simp at h, fun h => by simp at h, fun h => by simp at h, fun h => by simp at h⟩, (fun h => by cases h)⟩
  · simp only [A0_own value why x h1]; simp

/-- How many moves one who is alone has ahead, at the most. -/
def AOp.mu (C : ACell) (s : AOp) (k : Nat) : Nat :=
  if k = 0 then (if s.pc = 3 then (if C.H = s.h then 1 else 3) else 4 - s.pc)
  else if s.pc = 0 then 3 else if s.pc = 1 then (if C.H = s.h then 2 else 5) else if s.pc = 2 then (if C.H = s.h then 1 else 4) else if s.pc = 3 then 2 else 1

theorem AOp.mu_le (C : ACell) (s : AOp) (k : Nat) : s.mu C k ≤ 5 := by
  unfold AOp.mu
  repeat' split
  all_goals omega
theorem AOp.mu_pos (C : ACell) (s : AOp) (k : Nat) (hg : s.good k) (he : s.ended = false) : 1 ≤ s.mu C k := by
  have hp := (hg.2.2.1 he).2.1
  unfold AOp.mu
  repeat' split
  all_goals first | omega | (have := hp (by assumption); omega)

theorem AOp.mu_step (C : ACell) (s : AOp) (k : Nat) (hg : s.good k) (he : s.ended = false) : (s.step C).2.ended = true ∨ (s.step C).2.mu (s.step C).1 k + 1 ≤ s.mu C k := by
  obtain ⟨x, pc, hd, v, y, ended, waits, first⟩ := s
  simp only at he
  subst he
  obtain ⟨hx, hk5, hu, -⟩ := hg
  obtain ⟨hw, hp0, hp⟩ := hu rfl
  simp only at hx hw hp hp0
  subst hw; subst hx
  by_cases hk : k = 0
  · subst hk
    have hp := hp0 rfl
    rcases (show pc = 0 ∨ pc = 1 ∨ pc = 2 ∨ pc = 3 by omega) with rfl | rfl | rfl | rfl
    · right; simp [AOp.step, AOp.mu]
    · right; simp [AOp.step, AOp.mu]
    · right; simp [AOp.step, AOp.mu]
    · by_cases hE : C.H = hd
      · left; simp [AOp.step, hE]
      · right; simp [AOp.step, AOp.mu, hE]
  · have hp := hp (by omega)
    have hkp : (0 : Int) < (k : Int) := by omega
    have hkp' : 0 < k := by omega
    rcases (show pc = 0 ∨ pc = 1 ∨ pc = 2 ∨ pc = 3 ∨ pc = 4 by omega) with rfl | rfl | rfl | rfl | rfl
    · by_cases hE : C.H = -1
      · right; simp [AOp.step, AOp.mu, hE, hk, hkp']
      · right; simp [AOp.step, AOp.mu, hE, hk, hkp']
    · by_cases hE : C.H = hd
      · right; simp [AOp.step, AOp.mu, hE, hk, hkp']
      · right; simp [AOp.step, AOp.mu, hE, hk, hkp']
    · by_cases hE : C.H = hd
      · left; simp [AOp.step, hE, hkp']
      · right; simp [AOp.step, AOp.mu, hE, hk, hkp']
    · right; simp [AOp.step, AOp.mu, hk, hkp']
    · left; simp [AOp.step, hkp']

end Go.Proofs.Ytglifjecihmbhaa
