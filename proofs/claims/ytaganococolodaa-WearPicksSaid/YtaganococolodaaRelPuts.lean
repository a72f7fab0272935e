/-
  The frame behind a drawn region: the frame ahead of it, with what was written laid into it.
-/
import Derived.Test.YtaganococolodaaRelTail
namespace Go.Proofs.Ytaganococolodaa
open Go.RowKit

def putAll (f : Nat → Value) (l : List Oper) (a : Act) : Act := l.foldl (fun a o => a.put o.dst (f (o.dst.getD 0))) a
theorem putAll_defers (f : Nat → Value) : ∀ (l : List Oper) (a : Act), (putAll f l a).defers = a.defers
  | [], _ => rfl
  | o :: r, a => by
    unfold putAll
    rw [List.foldl_cons]
    have := putAll_defers f r (a.put o.dst (f (o.dst.getD 0)))
    unfold putAll at this
    rw [this]
    cases o.dst <;> rfl
theorem putAll_size (f : Nat → Value) : ∀ (l : List Oper) (a : Act), (putAll f l a).tmps.size = a.tmps.size
  | [], _ => rfl
  | o :: r, a => by
    unfold putAll
    rw [List.foldl_cons]
    have := putAll_size f r (a.put o.dst (f (o.dst.getD 0)))
    unfold putAll at this
    rw [this]
    cases o.dst <;> simp [Act.put]
theorem putAll_get (f : Nat → Value) (t : Nat) : ∀ (l : List Oper) (a : Act), t < a.tmps.size → (putAll f l a).tmps.getD t undef = if relWrites l t then f t else a.tmps.getD t undef
  | [], a, _ => by simp [putAll, relWrites]
  | o :: r, a, h => by
    unfold putAll
    rw [List.foldl_cons]
    have hs : (a.put o.dst (f (o.dst.getD 0))).tmps.size = a.tmps.size := by cases o.dst <;> simp [Act.put]
    have := putAll_get f t r (a.put o.dst (f (o.dst.getD 0))) (by rw [hs]; exact h)
    unfold putAll at this
    rw [this]
    have hw : relWrites (o :: r) t = ((o.dst == some t) || relWrites r t) := rfl
    rw [hw]
    cases hr : relWrites r t
    · cases hd : o.dst with
      | none => simp [Act.put]
      | some d =>
        by_cases hdt : d = t
        · subst hdt
          simp only [Option.getD_some, beq_self_eq_true, Bool.or_false, if_true, Bool.false_eq_true, if_false]
          exact getD_put_self a d _ h
        · have h1 : (some d == some t) = false := by simp [hdt]
          rw [h1]
          simp only [Bool.or_false, Bool.false_eq_true, if_false]
          exact getD_put a d _ t (Ne.symm hdt)
    · simp
theorem rel_puts {l : List Oper} {a : Act} {f : Nat → Value} (hold : ∀ t, relWrites l t = false → f t = a.tmps.getD t undef) :
    ({ tmps := ((List.range a.tmps.size).map f).toArray, defers := a.defers } : Act) = putAll f l a := by
  have h1 := rel_frame (putAll f l a) a (putAll_defers f l a) (putAll_size f l a)
  rw [h1]
  congr 1
  apply Array.ext'
  simp only []
  apply List.ext_getElem
  · simp
  · intro n h2 h3
    simp only [List.length_map, List.length_range] at h2
    simp only [List.getElem_map, List.getElem_range]
    rw [putAll_get f n l a h2]
    cases hw : relWrites l n
    · simp only [Bool.false_eq_true, if_false]; exact hold n hw
    · simp
end Go.Proofs.Ytaganococolodaa
