/-
  A scope in which the run jumps to several labels.
-/
import Derived.Test.YtbkkdglmcoglfaaDoorMem
import Derived.WalkKit
import Derived.WalkMore
import Derived.Scope
namespace Go.Proofs.YtbkkdglmcoglfaaDoor
open Go.RowKit

/-- As Q; by a jump to label l: J l. -/
def jumps (J : Nat → Act → World → Prop) (Q : Exit → Act → World → Prop) : Exit → Act → World → Prop
  | .goto l, a, w => J l a w
  | e, a, w => Q e a w
/-- A scope in which the run jumps to several labels. -/
theorem wp_scope_many {P : Program} {a : Act} {w : World} {Q : Exit → Act → World → Prop} {c : Code} (J : Nat → Act → World → Prop) (μ : Nat → Act → World → Nat)
    (first : (∀ l a w, J l a w → ∃ r, findLabel c l = some (Code.skip.seq r) ∧ r.wp P (jumps J Q) a w) → c.wp P (jumps J Q) a w)
    (pass : ∀ l a w, J l a w → ∃ r, findLabel c l = some (Code.skip.seq r) ∧ r.wp P (jumps (fun l' a' w' => J l' a' w' ∧ μ l' a' w' < μ l a w) Q) a w) : (Code.scope c).wp P Q a w := by
  intro b k cs
  have key : ∀ n l a w, μ l a w = n → J l a w → ∃ r, findLabel c l = some r ∧ ∃ e a' w', Q e a' w' ∧ Arrives P (lone (b.at a (.code r :: .inScope c :: k)) cs w) b k cs e a' w' := by
    intro n
    induction n using Nat.strongRecOn with
    | _ n ih =>
      intro l a w hn hJ
      obtain ⟨r, hf, hp⟩ := pass l a w hJ
      have hp := wp_seq (wp_skip (P := P) (Q := Exit.then (r.wp P (jumps (fun l' a' w' => J l' a' w' ∧ μ l' a' w' < μ l a w) Q)) (jumps (fun l' a' w' => J l' a' w' ∧ μ l' a' w' < μ l a w) Q)) hp)
      refine ⟨_, hf, ?_⟩
      obtain ⟨e, a₁, w₁, hq, harr⟩ := hp b (.inScope c :: k) cs
      cases e with
      | normal => exact ⟨.normal, a₁, w₁, hq, Steps.trans harr (.one step_inScope)⟩
      | exit id => exact ⟨.exit id, a₁, w₁, hq, fun k' hk => harr k' (by simp [exitTo, hk])⟩
      | goto l' =>
        obtain ⟨hJ', hlt⟩ := hq
        obtain ⟨r', hf', e₂, a₂, w₂, hq₂, harr₂⟩ := ih _ (by omega) l' a₁ w₁ rfl hJ'
        have hg : gotoIn l' (.inScope c :: k) = some (.code r' :: .inScope c :: k) := by simp [gotoIn, hf']
        exact ⟨e₂, a₂, w₂, hq₂, .of_steps (harr _ hg) harr₂⟩
      | ret => exact ⟨_, a₁, w₁, hq, harr⟩
      | panic ch => exact ⟨_, a₁, w₁, hq, harr⟩
      | outgrown => exact ⟨_, a₁, w₁, hq, harr⟩
  have back : ∀ l a w, J l a w → ∃ r, findLabel c l = some (Code.skip.seq r) ∧ r.wp P (jumps J Q) a w := fun l a w hJ => by
    obtain ⟨r, hf, hp⟩ := pass l a w hJ
    refine ⟨r, hf, fun b k cs => ?_⟩
    obtain ⟨e, a₁, w₁, hq, harr⟩ := hp b k cs
    refine ⟨e, a₁, w₁, ?_, harr⟩
    cases e with
    | goto l' => exact hq.1
    | _ => exact hq
  obtain ⟨e, a₁, w₁, hq, harr⟩ := first back b (.inScope c :: k) cs
  cases e with
  | normal => exact ⟨.normal, a₁, w₁, hq, .head step_scope (Steps.trans harr (.one step_inScope))⟩
  | exit id => exact ⟨.exit id, a₁, w₁, hq, fun k' hk => .head step_scope (harr k' (by simp [exitTo, hk]))⟩
  | goto l' =>
    obtain ⟨r', hf', e₂, a₂, w₂, hq₂, harr₂⟩ := key _ l' a₁ w₁ rfl hq
    have hg : gotoIn l' (.inScope c :: k) = some (.code r' :: .inScope c :: k) := by simp [gotoIn, hf']
    exact ⟨e₂, a₂, w₂, hq₂, .of_steps (.head step_scope (harr _ hg)) harr₂⟩
  | ret => exact ⟨_, a₁, w₁, hq, .of_steps (.one step_scope) harr⟩
  | panic ch => exact ⟨_, a₁, w₁, hq, .of_steps (.one step_scope) harr⟩
  | outgrown => exact ⟨_, a₁, w₁, hq, .of_steps (.one step_scope) harr⟩

theorem back_to {P : Program} {Q : Exit → Act → World → Prop} {c r : Code} {J : Nat → Act → World → Prop} (B : ∀ l a w, J l a w → ∃ r, findLabel c l = some (Code.skip.seq r) ∧ r.wp P (jumps J Q) a w) (l : Nat) (hf : findLabel c l = some (Code.skip.seq r)) {a : Act} {w : World} (hJ : J l a w) : r.wp P (jumps J Q) a w := by
  obtain ⟨r', h1, h2⟩ := B l a w hJ
  rw [hf] at h1
  cases h1
  exact h2
end Go.Proofs.YtbkkdglmcoglfaaDoor
