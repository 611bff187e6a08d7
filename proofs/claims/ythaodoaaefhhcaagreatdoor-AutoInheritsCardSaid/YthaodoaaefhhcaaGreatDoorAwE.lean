/- The abstract machine, part E: the operations that make and take values apart. -/
import Derived.Test.YthaodoaaefhhcaaGreatDoorAwD
import Derived.Laws.BytesString
namespace Go.Aw
open Go Go.RowKit
set_option linter.unusedVariables false
set_option linter.unusedSimpArgs false

/-- A type of the program's own table. -/
def known (P : Program) (t : TypeId) : Bool := Nat.blt t P.types.size

/-- What is asked of the program's tables. -/
structure POk (P : Program) : Prop where
  zero : ∀ t i z, known P t = true → P.info? t = some i → i.zero = some z → plain z = true
  elem : ∀ t e i z, known P t = true → P.underlying t = some (.slice e) → P.info? e = some i → i.zero = some z → z.cells.toList.all plain1 = true ∧ z.cells.size = i.size
  mixed : P.follows .mixedOrders = true

/-! ## Trees that touch no memory -/
def pureRun (P : Program) {α : Type} : Sem α → Option α
  | .pure a => some a
  | .program k => pureRun P (k P)
  | .mark _ k => pureRun P k
  | _ => none

theorem pureRun_run {P : Program} {α : Type} (x : Sem α) {a : α} (h : pureRun P x = some a) (w : World) : x.run P w = .ok a w := by
  induction x with
  | pure b => cases h; rfl
  | program k ih => exact ih P h
  | mark m k ih => exact ih h
  | _ => cases h

theorem pureRun_runA {P : Program} {α : Type} (x : Sem α) {a : α} (h : pureRun P x = some a) (s : AS) : runA P x s = some (a, s) := by
  induction x with
  | pure b => cases h; rfl
  | program k ih => exact ih P h
  | mark m k ih => exact ih h
  | _ => cases h

section
variable {P : Program} {base : Nat} {φ ψ : Phi}

theorem Sim.pureRun {α β : Type} {R : Phi → α → β → Prop} {x : Sem α} {a : α} {y : Sem β} (h : pureRun P x = some a) (hy : Sim P base φ R (Pure.pure a) y) : Sim P base φ R x y := by
  intro ψ hψ s w hrel c s' hrun
  rw [pureRun_runA x h] at hrun
  cases hrun
  exact hy ψ hψ s w hrel a s rfl

theorem sim_alloc (hP : POk P) (t : TypeId) (ht : known P t = true) : Sim P base φ VRel (Instr.alloc t true (.tuple #[])) (Instr.alloc t true (.tuple #[])) := by
  unfold Instr.alloc
  refine Sim.bind Sim.zeroValue ?_
  rintro ψ hψ z _ ⟨rfl, i, hi, hz⟩
  refine Sim.bind (Sim.newVar (plain_rel (hP.zero _ _ _ ht hi hz)).1) ?_
  intro χ hχ a a' ha
  exact Sim.pure fun ξ hξ => (ha.mono hξ).val

theorem sim_box {t : TypeId} {v v' : Value} (h : VRel φ v v') : Sim P base φ VRel (Instr.box t v) (Instr.box t v') := by
  unfold Instr.box
  refine Sim.bind (Sim.newVar h) ?_
  intro χ hχ a a' ha
  exact Sim.pure fun ξ hξ => (ha.mono hξ).val

theorem sim_sureAddr {v v' : Value} (h : VRel φ v v') : Sim P base φ AdR (Instr.sureAddr v) (Instr.sureAddr v') := by
  cases h with
  | ptr b o r hb => exact Sim.pure fun ψ hψ => ⟨b, o, r, rfl, rfl, (hψ _ _ hb).1⟩
  | _ => exact Sim.stuck

theorem sim_loadAt {t : TypeId} {v v' : Value} (h : VRel φ v v') : Sim P base φ VRel (Instr.loadAt t v) (Instr.loadAt t v') := by
  unfold Instr.loadAt
  refine Sim.bind (sim_sureAddr h) ?_
  intro ψ hψ a a' ha
  exact Sim.loadVar ha

theorem sim_storeAt {t : TypeId} {v v' u u' : Value} (h : VRel φ v v') (hu : VRel φ u u') : Sim P base φ (fun _ _ _ => True) (Instr.storeAt t v u) (Instr.storeAt t v' u') := by
  unfold Instr.storeAt
  refine Sim.bind (sim_sureAddr h) ?_
  intro ψ hψ a a' ha
  exact Sim.storeVar ha (hu.mono hψ)

theorem sim_mapM {α β : Type} (f : α → Sem β) (hf : ∀ (ψ : Phi) a, Sim P base ψ (fun _ x y => x = y) (f a) (f a)) (l : List α) (ψ : Phi) :
    Sim P base ψ (fun _ x y => x = y) (l.mapM f) (l.mapM f) := by
  induction l generalizing ψ with
  | nil => rw [List.mapM_nil]; exact Sim.pure fun _ _ => rfl
  | cons a l ih =>
    rw [List.mapM_cons]
    refine Sim.bind (hf ψ a) ?_
    rintro χ hχ x _ rfl
    refine Sim.bind (ih χ) ?_
    rintro ξ hξ y _ rfl
    exact Sim.pure fun _ _ => rfl

theorem sim_mapM_array {α β : Type} (f : α → Sem β) (hf : ∀ (ψ : Phi) a, Sim P base ψ (fun _ x y => x = y) (f a) (f a)) (l : Array α) (ψ : Phi) :
    Sim P base ψ (fun _ x y => x = y) (l.mapM f) (l.mapM f) := by
  rw [Array.mapM_eq_mapM_toList, ← bind_pure_comp]
  refine Sim.bind (sim_mapM f hf l.toList ψ) ?_
  rintro χ hχ x _ rfl
  exact Sim.pure fun _ _ => rfl

theorem fill_rel {R : Value → Value → Prop} (hR : ∀ v v', R v v' → AR R v.cells v'.cells) (place : Nat → Option (Nat × Nat)) : ∀ {ps ps' : List (Nat × Value)},
    LR (fun p q => q.1 = p.1 ∧ R p.2 q.2) ps ps' → ∀ {c c' : Array Value}, AR R c c' → ∀ {r}, Instr.fill place c ps = some r → ∃ r', Instr.fill place c' ps' = some r' ∧ AR R r r' := by
  intro ps ps' hp
  induction hp with
  | nil => intro c c' hc r h; cases h; exact ⟨c', rfl, hc⟩
  | @cons p q ps ps' hpq _ ih =>
    intro c c' hc r h
    obtain ⟨i, v⟩ := p
    obtain ⟨j, v'⟩ := q
    obtain ⟨h1, h2⟩ := hpq
    simp only at h1 h2
    subst h1
    simp only [Instr.fill] at h ⊢
    cases hpl : place j with
    | none => rw [hpl] at h; cases h
    | some x =>
      obtain ⟨off, size⟩ := x
      rw [hpl] at h
      have hcells := hR _ _ h2
      rw [← hcells.1, ← hc.1]
      simp only at h ⊢
      split at h
      · cases h
      · rename_i hn
        rw [if_neg hn]
        refine ih ?_ h
        -- the fold that lays the cells
        have fold : ∀ (n : Nat) {xs ys : List Value}, LR R xs ys → ∀ {a a' : Array Value}, AR R a a' →
            AR R ((xs.zipIdx n).foldl (fun cs (p : Value × Nat) => cs.setIfInBounds (off + p.2) p.1) a) ((ys.zipIdx n).foldl (fun cs (p : Value × Nat) => cs.setIfInBounds (off + p.2) p.1) a') := by
          intro n xs ys hxy
          induction hxy generalizing n with
          | nil => intro a a' ha; exact ha
          | cons hab _ ih2 => intro a a' ha; simp only [List.zipIdx_cons, List.foldl_cons]; exact ih2 (n + 1) (ha.set _ hab)
        rw [← Array.foldl_toList, ← Array.foldl_toList, Array.toList_zipIdx, Array.toList_zipIdx]
        exact fold 0 hcells.toLR hc

theorem sim_build (hP : POk P) {t : TypeId} (ht : known P t = true) {ps ps' : Array (Nat × Value)} (h : AR (fun p q => q.1 = p.1 ∧ VRel φ p.2 q.2) ps ps') :
    Sim P base φ VRel (Instr.build t ps) (Instr.build t ps') := by
  unfold Instr.build
  refine Sim.bind Sim.zeroValue ?_
  rintro ψ hψ z _ ⟨rfl, i, hi, hz⟩
  refine Sim.bind Sim.underlying ?_
  rintro χ hχ d _ ⟨rfl, hd⟩
  have hzz : ∀ ξ, AR (VRel ξ) z.cells z.cells := fun ξ => ((plain_rel (hP.zero _ _ _ ht hi hz)).1 : VRel ξ z z).cells
  cases d with
  | struct fields =>
    refine Sim.bind (sim_mapM_array _ (fun ψ f => ?_) fields χ) ?_
    · refine Sim.bind Sim.sizeOf ?_
      rintro ζ hζ n _ ⟨rfl, _⟩
      exact Sim.pure fun _ _ => rfl
    · rintro ξ hξ places _ rfl
      cases hf : Instr.fill (places[·]?) z.cells ps.toList with
      | none => exact Sim.stuck
      | some r =>
        have hle : φ.le ξ := (hψ.trans hχ).trans hξ
        obtain ⟨r', h1, h2⟩ := fill_rel (R := VRel ξ) (fun _ _ hv => hv.cells) (places[·]?) ((h.mono fun p q k => ⟨k.1, k.2.mono hle⟩).toLR) (hzz ξ) hf
        rw [h1]
        exact Sim.pure fun ζ hζ => .agg _ _ h2.1 (h2.vmono hζ).2
  | array len e =>
    refine Sim.bind Sim.sizeOf ?_
    rintro ξ hξ n _ ⟨rfl, rfl⟩
    cases hf : Instr.fill (fun i => some (i * P.cellsOf e, P.cellsOf e)) z.cells ps.toList with
    | none => exact Sim.stuck
    | some r =>
      have hle : φ.le ξ := (hψ.trans hχ).trans hξ
      obtain ⟨r', h1, h2⟩ := fill_rel (R := VRel ξ) (fun _ _ hv => hv.cells) (fun i => some (i * P.cellsOf e, P.cellsOf e)) ((h.mono fun p q k => ⟨k.1, k.2.mono hle⟩).toLR) (hzz ξ) hf
      rw [h1]
      exact Sim.pure fun ζ hζ => .agg _ _ h2.1 (h2.vmono hζ).2
  | _ => exact Sim.stuck

theorem sim_buildSlice (hP : POk P) {t : TypeId} (ht : known P t = true) {len : Nat} (hlen : len < capT) {ps ps' : Array (Nat × Value)} (h : AR (fun p q => q.1 = p.1 ∧ VRel φ p.2 q.2) ps ps') :
    Sim P base φ VRel (Instr.buildSlice t len ps) (Instr.buildSlice t len ps') := by
  unfold Instr.buildSlice
  refine Sim.bind Sim.underlying ?_
  rintro ψ hψ d _ ⟨rfl, hd⟩
  cases d with
  | slice e =>
    refine Sim.bind Sim.sizeOf ?_
    rintro χ hχ n _ ⟨rfl, rfl⟩
    dsimp only
    have key : ∀ (ξ : Phi), φ.le ξ → ∀ (zero : Array Value), zero.toList.all plain1 = true →
        Sim P base ξ VRel
          (match Instr.fill (fun i => some (i * P.cellsOf e, P.cellsOf e)) ((Array.range (len * P.cellsOf e)).map (zero[· % zero.size]!)) ps.toList with
            | some cells => do Pure.pure (.slice (some (← newRow e cells)) len len)
            | _ => stuck "buildSlice: a part of the wrong size")
          (match Instr.fill (fun i => some (i * P.cellsOf e, P.cellsOf e)) ((Array.range (len * P.cellsOf e)).map (zero[· % zero.size]!)) ps'.toList with
            | some cells => do Pure.pure (.slice (some (← newRow e cells)) len len)
            | _ => stuck "buildSlice: a part of the wrong size") := by
      intro ξ hle zero hzp
      cases hf : Instr.fill (fun i => some (i * P.cellsOf e, P.cellsOf e)) ((Array.range (len * P.cellsOf e)).map (zero[· % zero.size]!)) ps.toList with
      | none => exact Sim.stuck
      | some r =>
        have hbase : AR (VRel ξ) ((Array.range (len * P.cellsOf e)).map (zero[· % zero.size]!)) ((Array.range (len * P.cellsOf e)).map (zero[· % zero.size]!)) := by
          refine ⟨rfl, fun i v v' h1 h2 => ?_⟩
          rw [h1] at h2; cases h2
          simp only [Array.getElem?_map, Option.map_eq_some_iff] at h1
          obtain ⟨j, _, rfl⟩ := h1
          by_cases hlt : j % zero.size < zero.size
          · rw [getElem!_pos zero _ hlt]
            rw [List.all_eq_true] at hzp
            exact (plain1_rel (hzp _ (by rw [Array.mem_toList_iff]; exact Array.getElem_mem hlt))).1
          · rw [getElem!_neg zero _ hlt]
            exact .bool false
        obtain ⟨r', h1, h2⟩ := fill_rel (R := VRel ξ) (fun _ _ hv => hv.cells) (fun i => some (i * P.cellsOf e, P.cellsOf e)) ((h.mono fun p q k => ⟨k.1, k.2.mono hle⟩).toLR) hbase hf
        rw [h1]
        refine Sim.bind (Sim.newRow h2) ?_
        rintro ζ hζ _ _ ⟨b, o, r, rfl, rfl, hb⟩
        exact Sim.pure fun η hη => .slice b o r len len len (hη _ _ hb).1 (.inl ⟨hlen, rfl⟩) (Nat.le_refl _)
    have key2 : ∀ (ξ : Phi), φ.le ξ → Sim P base ξ VRel
        (do
          let zero ← if len * P.cellsOf e = 0 then Pure.pure #[] else do Pure.pure (← zeroValue e).cells
          match Instr.fill (fun i => some (i * P.cellsOf e, P.cellsOf e)) ((Array.range (len * P.cellsOf e)).map (zero[· % zero.size]!)) ps.toList with
            | some cells => do Pure.pure (.slice (some (← newRow e cells)) len len)
            | _ => stuck "buildSlice: a part of the wrong size")
        (do
          let zero ← if len * P.cellsOf e = 0 then Pure.pure #[] else do Pure.pure (← zeroValue e).cells
          match Instr.fill (fun i => some (i * P.cellsOf e, P.cellsOf e)) ((Array.range (len * P.cellsOf e)).map (zero[· % zero.size]!)) ps'.toList with
            | some cells => do Pure.pure (.slice (some (← newRow e cells)) len len)
            | _ => stuck "buildSlice: a part of the wrong size") := by
      intro ξ hle
      dsimp only
      split
      · refine Sim.bind (R := fun _ (a b : Array Value) => a = b ∧ a.toList.all plain1 = true) (Sim.pure fun _ _ => ⟨rfl, rfl⟩) ?_
        rintro ζ hζ zero _ ⟨rfl, hzp⟩
        exact key ζ (hle.trans hζ) zero hzp
      · refine Sim.bind Sim.zeroValue ?_
        rintro η hη z _ ⟨rfl, i, hi, hz⟩
        refine Sim.bind (R := fun _ (a b : Array Value) => a = b ∧ a.toList.all plain1 = true) (Sim.pure fun _ _ => ⟨rfl, (hP.elem _ _ _ _ ht hd hi hz).1⟩) ?_
        rintro ζ hζ zero _ ⟨rfl, hzp⟩
        exact key ζ ((hle.trans hη).trans hζ) zero hzp
    have hle : φ.le χ := hψ.trans hχ
    split
    · refine Sim.bind (R := fun _ _ _ => True) Sim.unsupported ?_
      intro ξ hξ _ _ _
      exact key2 ξ (hle.trans hξ)
    · exact key2 χ hle
  | _ => exact Sim.stuck

end
end Go.Aw
