/- The logic Sw: small facts on the objects' lists, for any program. -/
import Derived.Test.YtbnapbegomemeaaDoorSwI
namespace Go.Sw

/-- The first n variables name nothing beyond n and m. -/
def ClB (n m : Nat) (bx : List (List PV)) : Prop := ∀ (i : Nat) (ps : List PV), i < n → bx[i]? = some ps → ∀ p ∈ ps, Cl n m p

theorem ClA.clB {σ : AS} (h : ClA σ) : ClB σ.bx.length σ.tk.length σ.bx := fun i ps _ hp => h i ps hp
theorem ClB.app {n m : Nat} {bx r : List (List PV)} (h : ClB n m bx) (hn : n ≤ bx.length) : ClB n m (bx ++ r) := fun i ps hi hp => h i ps hi (by rwa [List.getElem?_append_left (by omega)] at hp)
theorem ClB.set {n m b : Nat} {bx : List (List PV)} {x : List PV} (h : ClB n m bx) (hx : ∀ p ∈ x, Cl n m p) : ClB n m (bx.set b x) := by
  intro i ps hi hp
  by_cases e : b = i
  · subst e
    by_cases hl : b < bx.length
    · rw [List.getElem?_set_self hl] at hp; cases hp; exact hx
    · rw [List.getElem?_eq_none (by simp; omega)] at hp; cases hp
  · rw [List.getElem?_set_ne e] at hp; exact h i ps hi hp
theorem ClA.set {σ : AS} {b : Nat} {x : List PV} (h : ClA σ) (hx : ∀ p ∈ x, Cl σ.bx.length σ.tk.length p) : ClA ⟨σ.bx.set b x, σ.tk⟩ := by
  intro i ps hp p hpp
  have := h.clB.set (b := b) hx i ps (by have := (List.getElem?_eq_some_iff.1 hp).1; simpa using this) hp p hpp
  simpa using this
theorem ClA.push {σ : AS} {x : List PV} (h : ClA σ) (hx : ∀ p ∈ x, Cl (σ.bx.length + 1) σ.tk.length p) : ClA ⟨σ.bx ++ [x], σ.tk⟩ := by
  intro i ps hp p hpp
  rcases app_cases hp with ⟨_, h2⟩ | ⟨_, h2⟩
  · exact (h i ps h2 p hpp).le (by simp) (by simp)
  · have := List.mem_of_getElem? h2
    simp at this
    subst this
    simpa using hx p hpp
theorem ClA.tok {σ : AS} {e : TypeId × Nat} (h : ClA σ) : ClA ⟨σ.bx, σ.tk ++ [e]⟩ := fun i ps hp p hpp => (h i ps hp p hpp).le (Nat.le_refl _) (by simp)
theorem ClA.tkset {σ : AS} {k : Nat} {e : TypeId × Nat} (h : ClA σ) : ClA ⟨σ.bx, σ.tk.set k e⟩ := fun i ps hp p hpp => (h i ps hp p hpp).le (Nat.le_refl _) (by simp)
theorem ClB.clA {n m : Nat} {bx : List (List PV)} {tk : List (TypeId × Nat)} (h : ClB n m bx) (hn : bx.length = n) (hm : tk.length = m) : ClA ⟨bx, tk⟩ := by
  subst hn; subst hm
  exact fun i ps hp p hpp => h i ps (List.getElem?_eq_some_iff.1 hp).1 hp p hpp

theorem take_self {α : Type} (l : List α) : l.take l.length = l := by simp
theorem take_set {α : Type} (l : List α) (b : Nat) (x : α) : (l.set b x).take l.length = l.set b x := by rw [List.take_of_length_le (by simp)]
theorem take_app {α : Type} (l r : List α) : (l ++ r).take l.length = l := by simp
theorem take_set_app {α : Type} (l r : List α) (b : Nat) (x : α) : (l.set b x ++ r).take l.length = l.set b x := by
  have : l.length = (l.set b x).length := by simp
  rw [this]; simp

theorem mem_cl_map {α : Type} {n m : Nat} {f : α → List PV} {l : List α} (h : ∀ a, ∀ p ∈ f a, Cl n m p) : ∀ x ∈ l.map f, ∀ p ∈ x, Cl n m p := by
  intro x hx p hp
  obtain ⟨a, _, rfl⟩ := List.mem_map.1 hx
  exact h a p hp

theorem getD_map {α β : Type} (f : α → β) (l : List α) (i : Nat) (d : β) (d' : α) (h : i < l.length) : (l.map f).getD i d = f (l.getD i d') := by
  simp [List.getD, List.getElem?_eq_getElem h]

theorem okRow_nil (n : Nat) : okRow n [] = true := rfl
theorem okRow_cons (n : Nat) (x : List PV) (r : List (List PV)) : okRow n (x :: r) = (x.length == n && x.all oneB && okRow n r) := rfl
theorem okRow_map {α : Type} {n : Nat} {f : α → List PV} (h : ∀ a, (f a).length = n ∧ (f a).all oneB = true) (l : List α) : okRow n (l.map f) = true := by
  simp only [okRow, List.all_map, List.all_eq_true]
  intro a _
  simp only [Function.comp, (h a).1, (h a).2, beq_self_eq_true, Bool.and_self]
theorem okRow_append (n : Nat) (x y : List (List PV)) : okRow n (x ++ y) = (okRow n x && okRow n y) := by simp [okRow]

theorem get_set_of {α : Type} {l : List α} {b : Nat} {y : α} (h : l[b]? = some y) (x : α) : (l.set b x)[b]? = some x := by
  rw [List.getElem?_set_self (List.getElem?_eq_some_iff.1 h).1]
theorem get_set_app {α : Type} {l : List α} {b : Nat} {y : α} (h : l[b]? = some y) (x : α) (r : List α) : (l.set b x ++ r)[b]? = some x := by
  rw [List.getElem?_append_left (by simpa using (List.getElem?_eq_some_iff.1 h).1), get_set_of h]
theorem get_app_of {α : Type} {l : List α} {b : Nat} {y : α} (h : l[b]? = some y) (r : List α) : (l ++ r)[b]? = some y := app_get h

theorem ClA.clB1 {σ : AS} {x : List PV} (h : ClA σ) (hx : ∀ p ∈ x, Cl (σ.bx.length + 1) σ.tk.length p) : ClB (σ.bx.length + 1) σ.tk.length (σ.bx ++ [x]) := by
  intro i ps _ hp p hpp
  rcases app_cases hp with ⟨_, h2⟩ | ⟨_, h2⟩
  · exact (h i ps h2 p hpp).le (by omega) (Nat.le_refl _)
  · have := List.mem_of_getElem? h2
    simp at this
    subst this
    exact hx p hpp
theorem take_app1 {α : Type} (l : List α) (x : α) : (l ++ [x]).take (l.length + 1) = l ++ [x] := List.take_of_length_le (by simp)
theorem cl_take {n m k : Nat} {l : List (List PV)} (h : ∀ x ∈ l, ∀ p ∈ x, Cl n m p) : ∀ x ∈ l.take k, ∀ p ∈ x, Cl n m p := fun x hx => h x (List.mem_of_mem_take hx)

end Go.Sw
