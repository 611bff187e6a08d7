/- The abstract machine, part K: iterators; the evaluator of one operation, and that it is right. -/
import Derived.Test.YthaodoaaefhhcaaGreatDoorAwJ
namespace Go.Aw
open Go Go.RowKit
set_option linter.unusedVariables false
set_option linter.unusedSimpArgs false

section
variable {P : Program} {base : Nat} {φ ψ : Phi}

theorem Sim.choose {q : Question} : Sim P base φ (fun _ a b => a = b) (Go.choose q) (Go.choose q) := by
  intro ψ hψ s w hrel n s' hrun
  unfold Go.choose at hrun
  simp only [runA] at hrun
  cases hf : q.forced with
  | false => rw [hf] at hrun; cases hrun
  | true =>
    rw [hf] at hrun
    cases hrun
    refine ⟨ψ, 0, w, ?_, hrel, rfl, Gr.refl _ _ _⟩
    rw [run_choose, hf]; rfl

theorem LR.filter {α β : Type} {R : α → β → Prop} {xs ys} (h : LR R xs ys) {p : α → Bool} {q : β → Bool} (hpq : ∀ a b, R a b → q b = p a) : LR R (xs.filter p) (ys.filter q) := by
  induction h with
  | nil => exact .nil
  | @cons a b as bs hab _ ih =>
    simp only [List.filter_cons, hpq a b hab]
    cases p a
    · exact ih
    · exact .cons hab ih

theorem AR.filter {α β : Type} {R : α → β → Prop} {xs : Array α} {ys : Array β} (h : AR R xs ys) {p : α → Bool} {q : β → Bool} (hpq : ∀ a b, R a b → q b = p a) : AR R (xs.filter p) (ys.filter q) := by
  rw [AR.iff_LR] at *
  simp only [Array.toList_filter]
  exact h.filter hpq

theorem AR.map {α β γ δ : Type} {R : α → β → Prop} {S : γ → δ → Prop} {xs : Array α} {ys : Array β} (h : AR R xs ys) {f : α → γ} {g : β → δ} (hf : ∀ a b, R a b → S (f a) (g b)) : AR S (xs.map f) (ys.map g) := by
  rw [AR.iff_LR] at *
  simp only [Array.toList_map]
  exact h.map f g hf

theorem LR.all {α β : Type} {R : α → β → Prop} {xs ys} (h : LR R xs ys) {p : α → Bool} {q : β → Bool} (hpq : ∀ a b, R a b → q b = p a) : ys.all q = xs.all p := by
  induction h with
  | nil => rfl
  | cons hab _ ih => simp only [List.all_cons, ih, hpq _ _ hab]
theorem AR.all {α β : Type} {R : α → β → Prop} {xs : Array α} {ys : Array β} (h : AR R xs ys) {p : α → Bool} {q : β → Bool} (hpq : ∀ a b, R a b → q b = p a) : ys.all q = xs.all p := by
  rw [← Array.all_toList, ← Array.all_toList]
  exact h.toLR.all hpq

theorem LR.find {α β : Type} {R : α → β → Prop} {xs ys} (h : LR R xs ys) {p : α → Bool} {q : β → Bool} (hpq : ∀ a b, R a b → q b = p a) :
    (xs.find? p = none ∧ ys.find? q = none) ∨ ∃ a b, xs.find? p = some a ∧ ys.find? q = some b ∧ R a b := by
  induction h with
  | nil => exact .inl ⟨rfl, rfl⟩
  | @cons a b as bs hab _ ih =>
    simp only [List.find?_cons, hpq a b hab]
    cases p a
    · exact ih
    · exact .inr ⟨a, b, rfl, rfl, hab⟩

theorem VRel.keyVal {e e' : MapEntry} (h : MRel φ e e') : VRel φ e.key e'.key := by
  rw [h.1]
  exact (plain_rel h.2.1).1

theorem trip_rel {a b : Value} {v v' : Value} (x : Bool) (h1 : VRel φ a b) (h2 : VRel φ v v') : VRel φ (.tuple #[.bool x, a, v]) (.tuple #[.bool x, b, v']) := by
  refine .tuple _ _ rfl ?_
  intro i y z k1 k2
  match i with
  | 0 => simp at k1 k2; subst k1; subst k2; exact .bool x
  | 1 => simp at k1 k2; subst k1; subst k2; exact h1
  | 2 => simp at k1 k2; subst k1; subst k2; exact h2
  | i + 3 => simp at k1
theorem duo_rel {a b : Value} {v v' : Value} (h1 : VRel φ a b) (h2 : VRel φ v v') : VRel φ (.tuple #[a, v]) (.tuple #[b, v']) := by
  refine .tuple _ _ rfl ?_
  intro i y z k1 k2
  match i with
  | 0 => simp at k1 k2; subst k1; subst k2; exact h1
  | 1 => simp at k1 k2; subst k1; subst k2; exact h2
  | i + 2 => simp at k1

theorem sim_makeMap {t : TypeId} : Sim P base φ VRel (Instr.makeMap t none) (Instr.makeMap t none) := by
  unfold Instr.makeMap
  refine Sim.bind (Sim.newObj (o := .map #[] 0) (o' := .map #[] 0) ⟨#[], rfl, AR.empty⟩) ?_
  intro ψ hψ b r hb
  exact Sim.pure fun χ hχ => .map b r (hχ _ _ hb).1

theorem sim_range {t : TypeId} {x x' : Value} (hx : VRel φ x x') : Sim P base φ VRel (Instr.range t x) (Instr.range t x') := by
  unfold Instr.range
  refine Sim.bind Sim.underlying ?_
  rintro ψ hψ d _ ⟨rfl, hd⟩
  have fin : ∀ (χ : Phi) (o o' : Obj), ObR χ o o' → Sim P base χ VRel (do pure (.pointer (some ⟨← newObj o, 0, none⟩))) (do pure (.pointer (some ⟨← newObj o', 0, none⟩))) := by
    intro χ o o' ho
    refine Sim.bind (Sim.newObj ho) ?_
    intro ξ hξ b r hb
    exact Sim.pure fun ζ hζ => .ptr b 0 r (hζ _ _ hb).1
  have bad : ∀ {msg : String} {y : Sem Obj} {g : Obj → Sem Value}, Sim P base ψ VRel (do let it ← (stuck msg : Sem Obj); pure (.pointer (some ⟨← newObj it, 0, none⟩))) (do let it ← y; g it) := by
    intro msg y g
    exact Sim.bind (R := fun _ _ _ => False) Sim.stuck (fun _ _ _ _ h => h.elim)
  cases d with
  | string =>
    cases hx with
    | string s => exact Sim.bind (R := fun χ => ObR χ) (Sim.pure fun χ hχ => rfl) (fun χ hχ o o' ho => fin χ o o' ho)
    | _ => exact bad
  | map kt et =>
    cases hx with
    | map0 => exact Sim.bind (R := fun χ => ObR χ) (Sim.pure fun χ hχ => ⟨none, rfl, .inl ⟨rfl, rfl⟩⟩) (fun χ hχ o o' ho => fin χ o o' ho)
    | map b r hb =>
      refine Sim.bind (Sim.getObj (hψ _ _ hb).1) ?_
      rintro χ hχ o o' ⟨ho, hl⟩
      cases o with
      | map es c =>
        obtain ⟨es', rfl, _⟩ := ho
        exact Sim.bind (R := fun ξ => ObR ξ) (Sim.pure fun ξ hξ => ⟨some r, rfl, .inr ⟨b, r, rfl, rfl, (hξ _ _ (hχ _ _ (hψ _ _ hb).1).1).1⟩⟩) (fun ξ hξ o o' ho => fin ξ o o' ho)
      | _ => exact Sim.stuckBind
    | _ => exact bad
  | _ => exact bad

def ORM (χ : Phi) (a b : Option MapEntry) : Prop := (a = none ∧ b = none) ∨ ∃ e e', a = some e ∧ b = some e' ∧ MRel χ e e'

def cands (es : Array MapEntry) (seen : Array Nat) (since : Nat) : Array (Option MapEntry) :=
  let left := es.filter fun e => !seen.contains e.born
  let old := left.filter (·.born < since)
  let new := left.filter (·.born ≥ since)
  (if old.isEmpty then #[none] else #[]) ++ (old ++ new).map some

theorem MRel.keyVal {e e' : MapEntry} (h : MRel φ e e') : VRel φ e.key e'.key := VRel.keyVal h

theorem sim_next {it it' : Value} (h : VRel φ it it') (isS : Bool) (t : TypeId) : Sim P base φ VRel (Instr.next it isS t) (Instr.next it' isS t) := by
  unfold Instr.next
  cases h with
  | ptr b o r hb =>
    cases o with
    | zero =>
      dsimp only
      refine Sim.bind (Sim.getObj hb) ?_
      rintro ψ hψ o o' ⟨ho, hl⟩
      have hover : ∀ χ : Phi, Sim P base χ VRel (pure (.tuple #[.bool false])) (pure (.tuple #[.bool false])) := fun χ => Sim.pure fun _ _ => (plain_rel rfl).1
      cases o with
      | stringIter s pos =>
        cases ho
        cases isS with
        | false => exact Sim.stuck
        | true =>
          dsimp only
          split
          · refine Sim.bind (Sim.setObj (hψ _ _ hb).1 rfl) ?_
            intro χ hχ _ _ _
            exact Sim.pure fun _ _ => trip_rel _ (.int _ _) (.int _ _)
          · exact hover ψ
      | mapIter m since seen last =>
        obtain ⟨m', rfl, hm⟩ := ho
        cases isS with
        | true =>
          rcases hm with ⟨rfl, rfl⟩ | ⟨b2, r2, rfl, rfl, hb2⟩ <;> exact Sim.stuck
        | false =>
          rcases hm with ⟨rfl, rfl⟩ | ⟨b2, r2, rfl, rfl, hb2⟩
          · exact hover ψ
          · dsimp only
            refine Sim.bind (Sim.getObj hb2) ?_
            rintro χ hχ o2 o2' ⟨ho2, _⟩
            cases o2 with
            | map es clock =>
              obtain ⟨es', rfl, hes⟩ := ho2
              dsimp only
              have hall : (es'.all fun x => decide (x.born ≥ last)) = es.all fun x => decide (x.born ≥ last) := hes.all fun a b hab => by rw [hab.2.2.1]
              have hemp := hes.isEmpty
              rw [hall, hemp]
              have hleft := hes.filter (p := fun e => !seen.contains e.born) (q := fun e => !seen.contains e.born) fun a b hab => by rw [hab.2.2.1]
              have hold := hleft.filter (p := fun e => decide (e.born < since)) (q := fun e => decide (e.born < since)) fun a b hab => by rw [hab.2.2.1]
              have hnew := hleft.filter (p := fun e => decide (e.born ≥ since)) (q := fun e => decide (e.born ≥ since)) fun a b hab => by rw [hab.2.2.1]
              have hcand : AR (ORM χ) (cands es seen since) (cands es' seen since) := by
                unfold cands
                dsimp only
                rw [hold.isEmpty]
                refine AR.append ?_ ((hold.append hnew).map fun a b hab => .inr ⟨a, b, rfl, rfl, hab⟩)
                split
                · exact AR.iff_LR.2 (.cons (.inl ⟨rfl, rfl⟩) .nil)
                · exact AR.empty
              have key : ∀ ξ : Phi, χ.le ξ → Sim P base ξ VRel
                  (do
                    match (cands es seen since)[← Go.choose (.mapNext (cands es seen since).size)]? with
                    | some (some e) =>
                      setObj b (.mapIter (some b2) since (seen.push e.born) clock)
                      pure (.tuple #[.bool true, e.key, e.val])
                    | some none => pure (.tuple #[.bool false])
                    | none => stuck "Next: no such candidate")
                  (do
                    match (cands es' seen since)[← Go.choose (.mapNext (cands es' seen since).size)]? with
                    | some (some e) =>
                      setObj r (.mapIter (some r2) since (seen.push e.born) clock)
                      pure (.tuple #[.bool true, e.key, e.val])
                    | some none => pure (.tuple #[.bool false])
                    | none => stuck "Next: no such candidate") := by
                intro ξ hξ
                rw [← hcand.1]
                refine Sim.bind Sim.choose ?_
                rintro ζ hζ n _ rfl
                cases hn : (cands es seen since)[n]? with
                | none => exact Sim.stuck
                | some x =>
                  obtain ⟨y, hy, hxy⟩ := hcand.some hn
                  simp only [hy]
                  rcases hxy with ⟨rfl, rfl⟩ | ⟨e, e', rfl, rfl, hee⟩
                  · exact hover ζ
                  · have hle : χ.le ζ := hξ.trans hζ
                    dsimp only
                    rw [hee.2.2.1]
                    refine Sim.bind (Sim.setObj (hle _ _ (hχ _ _ (hψ _ _ hb).1).1).1 (o := .mapIter (some b2) since (seen.push e.born) clock) ⟨some r2, rfl, .inr ⟨b2, r2, rfl, rfl, (hle _ _ (hχ _ _ hb2).1).1⟩⟩) ?_
                    intro η hη _ _ _
                    have h2 := (hee.mono hle).mono hη
                    exact Sim.pure fun θ hθ => trip_rel _ (h2.mono hθ).keyVal (h2.mono hθ).2.2.2
              split
              · refine Sim.bind (R := fun _ _ _ => True) Sim.unsupported ?_
                intro ξ hξ _ _ _
                exact key ξ hξ
              · exact key χ (Phi.le_refl _)
            | _ => exact Sim.stuck
      | map es c => obtain ⟨es', rfl, _⟩ := ho; exact Sim.stuck
      | _ => simp [looked] at hl
    | succ o => exact Sim.stuck
  | _ => exact Sim.stuck

theorem AR.back {α β : Type} {R : α → β → Prop} {xs : Array α} {ys : Array β} (h : AR R xs ys) : (xs.back? = none ∧ ys.back? = none) ∨ ∃ a b, xs.back? = Option.some a ∧ ys.back? = Option.some b ∧ R a b := by
  simp only [Array.back?, ← h.1]
  cases hx : xs[xs.size - 1]? with
  | none =>
    refine .inl ⟨rfl, ?_⟩
    rw [Array.getElem?_eq_none_iff] at hx ⊢
    rw [← h.1]; exact hx
  | some a =>
    obtain ⟨b, h1, h2⟩ := h.some hx
    exact .inr ⟨a, b, rfl, h1, h2⟩

theorem sim_entry {it it' : Value} (h : VRel φ it it') : Sim P base φ VRel (Instr.entry it) (Instr.entry it') := by
  unfold Instr.entry
  cases h with
  | ptr b o r hb =>
    cases o with
    | zero =>
      dsimp only
      refine Sim.bind (Sim.getObj hb) ?_
      rintro ψ hψ o o' ⟨ho, hl⟩
      cases o with
      | mapIter m since seen stepped =>
        obtain ⟨m', rfl, hm⟩ := ho
        rcases hm with ⟨rfl, rfl⟩ | ⟨b2, r2, rfl, rfl, hb2⟩
        · exact Sim.stuck
        · dsimp only
          cases seen.back? with
          | none => exact Sim.stuck
          | some stamp =>
            dsimp only
            refine Sim.bind (Sim.getObj hb2) ?_
            rintro χ hχ o2 o2' ⟨ho2, _⟩
            cases o2 with
            | map es clock =>
              obtain ⟨es', rfl, hes⟩ := ho2
              dsimp only
              have fin : ∀ ξ : Phi, χ.le ξ → Sim P base ξ VRel
                  (match es.find? (·.born == stamp) with
                    | some e => pure (.tuple #[e.key, e.val])
                    | none => unsupported (.noEntry "instr/Entry.removed"))
                  (match es'.find? (·.born == stamp) with
                    | some e => pure (.tuple #[e.key, e.val])
                    | none => unsupported (.noEntry "instr/Entry.removed")) := by
                intro ξ hξ
                have := hes.toLR.find (p := fun e => e.born == stamp) (q := fun e => e.born == stamp) fun a b hab => by rw [hab.2.2.1]
                rw [Array.find?_toList, Array.find?_toList] at this
                rcases this with ⟨h1, h2⟩ | ⟨a, b, h1, h2, h3⟩
                · rw [h1]; exact Sim.unsupported
                · rw [h1, h2]
                  exact Sim.pure fun ζ hζ => duo_rel ((h3.mono hξ).mono hζ).keyVal ((h3.mono hξ).mono hζ).2.2.2
              split
              · refine Sim.bind (R := fun _ _ _ => True) Sim.unsupported ?_
                intro ξ hξ _ _ _
                exact fin ξ hξ
              · exact fin χ (Phi.le_refl _)
            | _ => exact Sim.stuck
      | map es c => obtain ⟨es', rfl, _⟩ := ho; exact Sim.stuck
      | stringIter s pos => cases ho; exact Sim.stuck
      | _ => simp [looked] at hl
    | succ o => exact Sim.stuck
  | _ => exact Sim.stuck

end
end Go.Aw
