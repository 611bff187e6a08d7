/- The abstract machine, part C: the simulation of trees, and of the operations' own trees. -/
import Derived.Test.YthaodoaaefhhcaaGreatDoorAwB
namespace Go.Aw
open Go Go.RowKit
set_option linter.unusedVariables false
set_option linter.unusedSimpArgs false

/-- Whatever the abstract run of x answers, the world's run of y answers alike. -/
def Sim (P : Program) (base : Nat) (φ : Phi) {α β : Type} (R : Phi → α → β → Prop) (x : Sem α) (y : Sem β) : Prop :=
  ∀ ψ, φ.le ψ → ∀ s w, Rel P base ψ s w → ∀ a s', runA P x s = some (a, s') →
    ∃ χ b w', y.run P w = .ok b w' ∧ Rel P base χ s' w' ∧ R χ a b ∧ Gr ψ s w χ s' w'

/-- Lists, place by place. -/
inductive LR {α β : Type} (R : α → β → Prop) : List α → List β → Prop
  | nil : LR R [] []
  | cons {a b as bs} : R a b → LR R as bs → LR R (a :: as) (b :: bs)

theorem LR.mono {α β : Type} {R S : α → β → Prop} {xs ys} (h : LR R xs ys) (hrs : ∀ a b, R a b → S a b) : LR S xs ys := by
  induction h with
  | nil => exact .nil
  | cons h _ ih => exact .cons (hrs _ _ h) ih

theorem LR.length {α β : Type} {R : α → β → Prop} {xs ys} (h : LR R xs ys) : xs.length = ys.length := by
  induction h with
  | nil => rfl
  | cons _ _ ih => simp [ih]

theorem LR.get {α β : Type} {R : α → β → Prop} {xs ys} (h : LR R xs ys) : ∀ (i : Nat) a b, xs[i]? = some a → ys[i]? = some b → R a b := by
  induction h with
  | nil => intro i a b h; simp at h
  | cons h _ ih =>
    intro i a b h1 h2
    cases i with
    | zero => simp at h1 h2; subst h1; subst h2; exact h
    | succ i => simp at h1 h2; exact ih i a b h1 h2

theorem LR.of_get {α β : Type} {R : α → β → Prop} : ∀ {xs : List α} {ys : List β}, xs.length = ys.length → (∀ (i : Nat) a b, xs[i]? = some a → ys[i]? = some b → R a b) → LR R xs ys
  | [], [], _, _ => .nil
  | [], _ :: _, h, _ => by simp at h
  | _ :: _, [], h, _ => by simp at h
  | x :: xs, y :: ys, h, hr => .cons (hr 0 x y rfl rfl) (LR.of_get (by simpa using h) fun i a b h1 h2 => hr (i + 1) a b (by simpa using h1) (by simpa using h2))

theorem AR.toLR {α β : Type} {R : α → β → Prop} {xs : Array α} {ys : Array β} (h : AR R xs ys) : LR R xs.toList ys.toList :=
  LR.of_get (by simpa using h.1) fun i a b h1 h2 => h.2 i a b (by simpa using h1) (by simpa using h2)

theorem LR.toAR {α β : Type} {R : α → β → Prop} {xs : List α} {ys : List β} (h : LR R xs ys) : AR R xs.toArray ys.toArray :=
  ⟨by simpa using h.length, fun i a b h1 h2 => h.get i a b (by simpa using h1) (by simpa using h2)⟩

theorem LR.append {α β : Type} {R : α → β → Prop} {xs ys xs' ys'} (h : LR R xs ys) (h' : LR R xs' ys') : LR R (xs ++ xs') (ys ++ ys') := by
  induction h with
  | nil => exact h'
  | cons h _ ih => exact .cons h ih

theorem AR.iff_LR {α β : Type} {R : α → β → Prop} {xs : Array α} {ys : Array β} : AR R xs ys ↔ LR R xs.toList ys.toList :=
  ⟨AR.toLR, fun h => by have := h.toAR; simpa using this⟩

theorem AR.push {α β : Type} {R : α → β → Prop} {xs : Array α} {ys : Array β} (h : AR R xs ys) {a b} (hab : R a b) : AR R (xs.push a) (ys.push b) := by
  rw [AR.iff_LR] at *
  simp only [Array.toList_push]
  exact h.append (.cons hab .nil)

theorem AR.append {α β : Type} {R : α → β → Prop} {xs xs' : Array α} {ys ys' : Array β} (h : AR R xs ys) (h' : AR R xs' ys') : AR R (xs ++ xs') (ys ++ ys') := by
  rw [AR.iff_LR] at *
  simp only [Array.toList_append]
  exact h.append h'

theorem LR.map {α β γ δ : Type} {R : α → β → Prop} {S : γ → δ → Prop} {xs ys} (h : LR R xs ys) (f : α → γ) (g : β → δ) (hf : ∀ a b, R a b → S (f a) (g b)) : LR S (xs.map f) (ys.map g) := by
  induction h with
  | nil => exact .nil
  | cons h _ ih => exact .cons (hf _ _ h) ih

theorem LR.take {α β : Type} {R : α → β → Prop} {xs ys} (h : LR R xs ys) (n : Nat) : LR R (xs.take n) (ys.take n) := by
  induction h generalizing n with
  | nil => simpa using LR.nil
  | cons h _ ih => cases n with
    | zero => simpa using LR.nil
    | succ n => simpa using LR.cons h (ih n)

theorem LR.drop {α β : Type} {R : α → β → Prop} {xs ys} (h : LR R xs ys) (n : Nat) : LR R (xs.drop n) (ys.drop n) := by
  induction h generalizing n with
  | nil => simpa using LR.nil
  | cons h t ih => cases n with
    | zero => exact LR.cons h t
    | succ n => simpa using ih n

theorem AR.extract {α β : Type} {R : α → β → Prop} {xs : Array α} {ys : Array β} (h : AR R xs ys) (i j : Nat) : AR R (xs.extract i j) (ys.extract i j) := by
  rw [AR.iff_LR] at *
  simp only [Array.toList_extract, List.extract_eq_take_drop]
  exact (h.drop _).take _

theorem AR.set {α β : Type} {R : α → β → Prop} {xs : Array α} {ys : Array β} (h : AR R xs ys) (i : Nat) {a b} (hab : R a b) : AR R (xs.setIfInBounds i a) (ys.setIfInBounds i b) := by
  refine ⟨by simpa using h.1, fun j v v' h1 h2 => ?_⟩
  rw [Array.getElem?_setIfInBounds] at h1 h2
  by_cases e : i = j
  · subst e
    simp only [if_true] at h1 h2
    split at h1 <;> split at h2 <;> simp_all
  · rw [if_neg e] at h1 h2
    exact h.2 j v v' h1 h2

theorem AR.some {α β : Type} {R : α → β → Prop} {xs : Array α} {ys : Array β} (h : AR R xs ys) {i : Nat} {a} (ha : xs[i]? = some a) : ∃ b, ys[i]? = some b ∧ R a b := by
  have : i < ys.size := by rw [← h.1]; exact (Array.getElem?_eq_some_iff.1 ha).1
  exact ⟨ys[i], Array.getElem?_eq_getElem this, h.2 i a _ ha (Array.getElem?_eq_getElem this)⟩

/-! ## Addresses, cells of a value -/
def AdR (φ : Phi) (a a' : Addr) : Prop := ∃ b o r, a = ⟨b, o, none⟩ ∧ a' = ⟨r, o, none⟩ ∧ φ.blk b = some r
theorem AdR.mono {φ ψ : Phi} (hle : φ.le ψ) {a a'} (h : AdR φ a a') : AdR ψ a a' := by
  obtain ⟨b, o, r, h1, h2, h3⟩ := h
  exact ⟨b, o, r, h1, h2, (hle _ _ h3).1⟩
theorem AdR.add {φ : Phi} {a a'} (h : AdR φ a a') (n : Nat) : AdR φ (a.add n) (a'.add n) := by
  obtain ⟨b, o, r, rfl, rfl, h3⟩ := h
  unfold Addr.add
  split
  · exact ⟨b, o, r, rfl, rfl, h3⟩
  · exact ⟨b, o + n, r, rfl, rfl, h3⟩
theorem AdR.val {φ : Phi} {a a'} (h : AdR φ a a') : VRel φ (.pointer (some a)) (.pointer (some a')) := by
  obtain ⟨b, o, r, rfl, rfl, h3⟩ := h
  exact .ptr b o r h3

theorem VRel.cells {φ : Phi} {v v' : Value} (h : VRel φ v v') : AR (VRel φ) v.cells v'.cells := by
  cases h
  case agg c c' h1 h2 => exact ⟨h1, h2⟩
  all_goals (refine AR.iff_LR.2 (.cons ?_ .nil); constructor <;> assumption)

theorem VRel.one {φ : Phi} {v v' : Value} (h : VRel φ v v') : v'.oneCell' = v.oneCell' := by cases h <;> rfl

section
variable {P : Program} {base : Nat} {φ ψ : Phi} {α β γ δ : Type} {R : Phi → α → β → Prop} {S : Phi → γ → δ → Prop}

theorem Sim.mono {x : Sem α} {y : Sem β} (hle : φ.le ψ) (h : Sim P base φ R x y) : Sim P base ψ R x y :=
  fun χ hχ => h χ (hle.trans hχ)

theorem Sim.weaken {R' : Phi → α → β → Prop} {x : Sem α} {y : Sem β} (h : Sim P base φ R x y) (hr : ∀ ψ, φ.le ψ → ∀ a b, R ψ a b → R' ψ a b) : Sim P base φ R' x y := by
  intro ψ hψ s w hrel a s' hrun
  obtain ⟨χ, b, w', h2, h3, h4, h5⟩ := h ψ hψ s w hrel a s' hrun
  exact ⟨χ, b, w', h2, h3, hr χ (hψ.trans h5.le) _ _ h4, h5⟩

theorem Sim.bind {x : Sem α} {y : Sem β} {f : α → Sem γ} {g : β → Sem δ} (hx : Sim P base φ R x y)
    (hf : ∀ ψ, φ.le ψ → ∀ a b, R ψ a b → Sim P base ψ S (f a) (g b)) : Sim P base φ S (x >>= f) (y >>= g) := by
  intro ψ hψ s w hrel c s' hrun
  rw [runA_bind] at hrun
  cases hx1 : runA P x s with
  | none => rw [hx1] at hrun; cases hrun
  | some p =>
    obtain ⟨a, s1⟩ := p
    rw [hx1] at hrun
    simp only [Option.bind_some] at hrun
    obtain ⟨χ, b, w1, h2, h3, h4, h5⟩ := hx ψ hψ s w hrel a s1 hx1
    obtain ⟨χ', d, w2, k2, k3, k4, k5⟩ := hf χ (hψ.trans h5.le) a b h4 χ (Phi.le_refl _) s1 w1 h3 c s' hrun
    refine ⟨χ', d, w2, ?_, k3, k4, h5.trans k5⟩
    rw [Sem.run_bind, h2]
    exact k2

theorem Sim.pure {a : α} {b : β} (h : ∀ ψ, φ.le ψ → R ψ a b) : Sim P base φ R (pure a) (pure b) := by
  intro ψ hψ s w hrel c s' hrun
  rw [runA_pure] at hrun
  cases hrun
  exact ⟨ψ, b, w, rfl, hrel, h ψ hψ, Gr.refl _ _ _⟩

theorem Sim.halt {h : Halt} {y : Sem β} : Sim P base φ R (.halt h) y := by
  intro ψ hψ s w hrel c s' hrun
  cases hrun
theorem Sim.stuck {t : String} {y : Sem β} : Sim P base φ R (stuck t) y := Sim.halt
theorem Sim.stuckBind {t : String} {f : γ → Sem α} {y : Sem β} : Sim P base φ R (Go.stuck t >>= f) y := by
  intro ψ hψ s w hrel c s' hrun
  cases hrun
theorem Sim.unsupported {t : Unsupported} {y : Sem β} : Sim P base φ R (unsupported t) y := Sim.halt

theorem Sim.program : Sim P base φ (fun _ p q => P = p ∧ P = q) program program := by
  intro ψ hψ s w hrel c s' hrun
  cases hrun
  exact ⟨ψ, P, w, rfl, hrel, ⟨rfl, rfl⟩, Gr.refl _ _ _⟩

theorem runtimePanic_none {e : RuntimeError} {s : AS} : runA P (runtimePanic e : Sem α) s = none := by
  unfold runtimePanic
  rw [runA_bind]
  show (runA P (match e with
    | .bounds x y s c => _ | .error m => _ | .plain m => _ | .nilDeref => _ | .typeAssertion i c a m => _ | .panicNil => _ | .unhashable t => _) s) = none
  cases e with
  | typeAssertion i c a m =>
    simp only [runA_bind]
    cases runA P (elemOf P.rt.typeAssertionError) s with
    | none => rfl
    | some p =>
      simp only [Option.bind_some]
      cases runA P (newVar p.1 _) p.2 with
      | none => rfl
      | some q => rfl
  | panicNil =>
    simp only [runA_bind]
    cases runA P (elemOf P.rt.panicNilError) s with
    | none => rfl
    | some p =>
      simp only [Option.bind_some]
      cases runA P (newVar p.1 _) p.2 with
      | none => rfl
      | some q => rfl
  | _ => rfl
theorem Sim.runtimePanic {e : RuntimeError} {y : Sem β} : Sim P base φ R (runtimePanic e) y := by
  intro ψ hψ s w hrel c s' hrun
  rw [runtimePanic_none] at hrun; cases hrun
theorem Sim.boundsPanic {k x y c} {z : Sem β} : Sim P base φ R (boundsPanic k x y c) z := by
  intro ψ hψ s w hrel c s' hrun
  unfold Go.boundsPanic at hrun
  dsimp only at hrun
  split at hrun
  · rw [runA_bind] at hrun
    cases h : runA P ((fun x => x == 1) <$> choose (.extern "runtime.boundsError.signed" 2)) s with
    | none => rw [h] at hrun; cases hrun
    | some p => rw [h] at hrun; simp only [Option.bind_some, runtimePanic_none] at hrun; cases hrun
  · rw [runA_bind] at hrun
    simp only [runA_pure, Option.bind_some, runtimePanic_none] at hrun; cases hrun

theorem Sim.typeInfo {t : TypeId} : Sim P base φ (fun _ i j => i = j ∧ P.info? t = some i) (typeInfo t) (typeInfo t) := by
  unfold Go.typeInfo
  refine Sim.bind Sim.program ?_
  rintro ψ hψ _ _ ⟨rfl, rfl⟩
  cases h : P.info? t with
  | none => exact Sim.stuck
  | some i => exact Sim.pure fun _ _ => ⟨rfl, rfl⟩
theorem Sim.underlying {t : TypeId} : Sim P base φ (fun _ i j => i = j ∧ P.underlying t = some i) (underlying t) (underlying t) := by
  unfold Go.underlying
  refine Sim.bind Sim.program ?_
  rintro ψ hψ _ _ ⟨rfl, rfl⟩
  cases h : P.underlying t with
  | none => exact Sim.stuck
  | some i => exact Sim.pure fun _ _ => ⟨rfl, rfl⟩
theorem Sim.sizeOf {t : TypeId} : Sim P base φ (fun _ i j => i = j ∧ i = P.cellsOf t) (sizeOf t) (sizeOf t) := by
  unfold Go.sizeOf
  refine Sim.bind Sim.typeInfo ?_
  rintro ψ hψ i _ ⟨rfl, h⟩
  exact Sim.pure fun _ _ => ⟨rfl, by simp [Program.cellsOf, h]⟩
theorem Sim.zeroValue {t : TypeId} : Sim P base φ (fun _ i j => i = j ∧ ∃ k, P.info? t = some k ∧ k.zero = some i) (zeroValue t) (zeroValue t) := by
  unfold Go.zeroValue
  refine Sim.bind Sim.typeInfo ?_
  rintro ψ hψ i _ ⟨rfl, h⟩
  cases hz : i.zero with
  | none => exact Sim.unsupported
  | some z => exact Sim.pure fun _ _ => ⟨rfl, i, h, hz⟩
theorem Sim.isAgg {t : TypeId} : Sim P base φ (fun _ i j => i = j) (isAgg t) (isAgg t) := by
  unfold Go.isAgg
  refine Sim.bind Sim.underlying ?_
  rintro ψ hψ i _ ⟨rfl, h⟩
  cases i <;> exact Sim.pure fun _ _ => rfl

end
end Go.Aw
