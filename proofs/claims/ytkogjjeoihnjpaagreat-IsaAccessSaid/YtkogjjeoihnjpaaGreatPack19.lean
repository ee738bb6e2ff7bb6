/- A check of all ends of a run, way by way. No condition. -/
import Derived.Test.YtkogjjeoihnjpaaGreatPack8
section
set_option linter.unusedVariables false
namespace Go.Proofs.YtkogjjeoihnjpaaGreat.Sx
noncomputable section
/-- what is left behind a test, answered so -/
def T.go1 {α : Type} (b : Bool) : T α → T α
  | .ret a => .ret a
  | .ite _ t e => bif b then t else e
  | .both t e => .both t e
  | .lets _ _ _ _ t => T.go1 b t
  | .bad w => .bad w
  | .skip => .skip
def T.go {α : Type} (r : List Bool) (t : T α) : T α := r.foldl (fun t b => T.go1 b t) t
theorem T.go_one {α : Type} {p : α → Bool} : ∀ {t : T α}, (T.go1 true t).every p = true → (T.go1 false t).every p = true → t.every p = true
  | .ret a, h, _ => h
  | .ite c t e, h1, h2 => by
    have h1 : t.every p = true := h1
    have h2 : e.every p = true := h2
    unfold T.every
    rw [h1, h2]; rfl
  | .both t e, h, _ => h
  | .lets f as s n t, h1, h2 => T.go_one (t := t) h1 h2
  | .bad w, h, _ => h
  | .skip, h, _ => h
/-- both ways -/
theorem T.go_two {α : Type} {p : α → Bool} {t : T α} (r : List Bool) (h1 : (T.go (r ++ [true]) t).every p = true) (h2 : (T.go (r ++ [false]) t).every p = true) : (T.go r t).every p = true := by
  unfold T.go at *
  rw [List.foldl_append] at h1 h2
  exact T.go_one h1 h2
theorem T.go_twoE {α : Type} {p : α → Bool} {t : T α} (r : List Bool) {rt rf : List Bool} (e1 : rt = r ++ [true]) (e2 : rf = r ++ [false]) (h1 : (T.go rt t).every p = true) (h2 : (T.go rf t).every p = true) : (T.go r t).every p = true := by
  subst e1; subst e2; exact T.go_two r h1 h2
theorem T.go_nil {α : Type} {p : α → Bool} {t : T α} (h : (T.go [] t).every p = true) : t.every p = true := h
end
end Go.Proofs.YtkogjjeoihnjpaaGreat.Sx
end
