/- Layer 1: what Swap and Add do to a memory that reads as a given one. -/
import Derived.Test.YtccadafajocbgaaMemB
open Go Go.RowKit
namespace Go.Proofs.Ytccadafajocbgaa




theorem step_mem (m a b : Nat) (s s' : MemS) (k : Nat) (f : FuncId) (cap : Array Value) (w : World) (R : World → Prop) (hcf : ∀ args w, Sem.run Try.prog (callFunc f args) w = .ok (.enter f args) w) (hm : IsMem w m a b s) (hk : k < s.words.length) (hl : s.live.getD k false = true)
    (hs : s'.steps = s.steps) (hw : s'.words.length = s.words.length) (hR : ∀ w' v, R w' → R (w'.setCell ⟨m, 2, none⟩ v))
    (hf : Calls Try.prog f (#[.pointer (some ⟨a, k, none⟩)] ++ cap) w fun e w' => e = .returned (.tuple #[]) ∧ IsMem w' m a b s' ∧ R w') :
    Calls Try.prog 48 #[.pointer (some ⟨m, 0, none⟩), .int .i64 k, .func (.func f) #[] cap] w fun e w' => e = .returned (.int .i64 0) ∧ IsMem w' m a b s'.tick ∧ R w' := by
  refine (step_any m a b s k f cap w (fun _ w' => IsMem w' m a b s' ∧ R w') hcf hm hk hl (hf.mono ?_)).mono ?_
  · rintro e w' ⟨rfl, h1, h2⟩
    exact ⟨rfl, by have := h1.top; rw [hs, hw] at this; exact this, h1, h2⟩
  · rintro e w' ⟨rfl, w1, ⟨h1, h2⟩, rfl⟩
    exact ⟨rfl, hs ▸ h1.tick, hR _ _ h2⟩




theorem words_any (m a b : Nat) (s : MemS) (w : World) (hm : IsMem w m a b s) :
    Calls Try.prog 35 #[.pointer (some ⟨m, 0, none⟩)] w fun e w' => e = .returned (.int .i64 s.words.length) ∧ w = w' := by
  have c0 := hm.top.cell 0
  have hr := hm.room
  simp at c0
  clear hm
  go_enter Try.func35, Try.ntmps35
  go_wp2
  go_ret
  exact ⟨rfl, rfl⟩

end Go.Proofs.Ytccadafajocbgaa
