/- The abstract machine, part D: the simulation of what reads and writes memory. -/
import Derived.Test.YthaodoaaefhhcaaGreatDoorAwC
namespace Go.Aw
open Go Go.RowKit
set_option linter.unusedVariables false
set_option linter.unusedSimpArgs false

section
variable {P : Program} {base : Nat} {φ ψ : Phi}

theorem AS.cell_some {s : AS} {b o : Nat} {v : Value} (h : s.cell ⟨b, o, none⟩ = some v) : ∃ c e fz gr, s.get b = some ⟨.cells c e fz, gr⟩ ∧ c[o]? = some v := by
  unfold AS.cell at h
  split at h
  · rename_i c e fz gr hg _
    exact ⟨c, e, fz, gr, hg, h⟩
  · cases h

/-- What a known cell says of the world. -/
theorem Rel.cell {s : AS} {w : World} (h : Rel P base φ s w) {b o r : Nat} {v : Value} (hb : φ.blk b = some r) (hc : s.cell ⟨b, o, none⟩ = some v) :
    ∃ v', w.cell? ⟨r, o, none⟩ = some v' ∧ VRel φ v v' := by
  obtain ⟨c, e, fz, gr, hg, hv⟩ := AS.cell_some hc
  obtain ⟨r', h1, h2, _⟩ := h.live b _ hg
  rw [hb] at h1; cases h1
  unfold ORel at h2
  simp only at h2
  have hlt : o < c.size := (Array.getElem?_eq_some_iff.1 hv).1
  split at h2
  · obtain ⟨c', k1, k2, k3, _⟩ := h2
    have hlt' : o < c'.size := by omega
    refine ⟨c'[o], ?_, k3 o v _ hv (Array.getElem?_eq_getElem hlt')⟩
    simp [World.cell?, k1, Array.getElem?_eq_getElem hlt']
  · obtain ⟨c', fz', k1, k2, _⟩ := h2
    obtain ⟨v', k3, k4⟩ := k2.some hv
    exact ⟨v', by simp [World.cell?, k1, k3], k4⟩

theorem Sim.load {a a' : Addr} (h : AdR φ a a') : Sim P base φ VRel (load a) (load a') := by
  obtain ⟨b, o, r, rfl, rfl, hb⟩ := h
  intro ψ hψ s w hrel v s' hrun
  unfold Go.load at hrun
  simp only [runA] at hrun
  cases hc : s.cell ⟨b, o, none⟩ with
  | none => rw [hc] at hrun; cases hrun
  | some u =>
    rw [hc] at hrun
    cases hrun
    obtain ⟨v', h1, h2⟩ := hrel.cell (hψ _ _ hb).1 hc
    refine ⟨ψ, v', w, ?_, hrel, h2, Gr.refl _ _ _⟩
    rw [run_load, h1]

theorem Sim.store {a a' : Addr} (h : AdR φ a a') {v v' : Value} (hv : VRel φ v v') : Sim P base φ (fun _ _ _ => True) (store a v) (store a' v') := by
  obtain ⟨b, o, r, rfl, rfl, hb⟩ := h
  intro ψ hψ s w hrel u s' hrun
  unfold Go.store at hrun
  simp only [runA] at hrun
  cases h1 : v.oneCell' with
  | false => rw [h1] at hrun; cases hrun
  | true =>
    rw [h1, cond_true] at hrun
    have hb' := (hψ _ _ hb).1
    cases hs : s.setCell ⟨b, o, none⟩ v with
    | none => rw [hs] at hrun; cases hrun
    | some s1 =>
      rw [hs] at hrun
      cases hrun
      unfold AS.setCell at hs
      split at hs
      · rename_i c e gr hg _
        simp only at hg hs
        cases hlt : Nat.blt o c.size && Nat.ble s.lock b with
        | false => rw [hlt] at hs; cases hs
        | true =>
          rw [hlt, cond_true] at hs
          cases hs
          rw [Bool.and_eq_true, Nat.blt_eq, Nat.ble_eq] at hlt
          obtain ⟨hlt', hlk⟩ := hlt
          obtain ⟨r', k1, k2, k3⟩ := hrel.live b _ hg
          rw [hb'] at k1; cases k1
          have hheap : ∃ c', w.heap[r]? = some (.cells c' e (0, 0)) ∧ o < c'.size ∧ ORel P ψ (w.setCell ⟨r, o, none⟩ v') b ⟨.cells (c.setIfInBounds o v) e (0, 0), gr⟩ r := by
            have hnew : ∀ c', w.heap[r]? = some (.cells c' e (0, 0)) → (w.setCell ⟨r, o, none⟩ v').heap[r]? = some (.cells (c'.setIfInBounds o v') e (0, 0)) := by
              intro c' hc'
              simp [World.setCell, Array.getElem?_modify, hc']
            unfold ORel at k2 ⊢
            simp only at k2 ⊢
            by_cases hgr : gr = true
            · simp only [hgr, if_true] at k2 ⊢
              obtain ⟨c', m1, m2, m3, m4, m5⟩ := k2
              refine ⟨c', m1, by omega, _, hnew c' m1, by simpa using m2, fun i u u' h1 h2 => ?_, by simpa using m4, m5⟩
              rw [Array.getElem?_setIfInBounds] at h1 h2
              by_cases ei : o = i
              · subst ei
                simp only [if_true] at h1 h2
                split at h1 <;> split at h2 <;> simp_all
                exact hv.mono hψ
              · rw [if_neg ei] at h1 h2
                exact m3 i u u' h1 h2
            · simp only [hgr] at k2 ⊢
              obtain ⟨c', fz', m1, m2, m3⟩ := k2
              have m3' := m3 trivial
              subst m3'
              exact ⟨c', m1, by rw [← m2.1]; exact hlt', _, (0, 0), hnew c' m1, m2.set o (hv.mono hψ), fun _ => rfl⟩
          obtain ⟨c', m1, m2, m3⟩ := hheap
          have hcell : w.cell? ⟨r, o, none⟩ = some c'[o] := by simp [World.cell?, m1, Array.getElem?_eq_getElem m2]
          have hfz : w.frozen? ⟨r, o, none⟩ = false := by simp [World.frozen?, m1]
          obtain ⟨q1, q2⟩ := hrel.update (w' := w.setCell ⟨r, o, none⟩ v') hg hb' hlk (by simp [World.setCell]) rfl rfl rfl (fun i hi => by
            simp only [World.setCell, Array.getElem?_modify]
            rw [if_neg (fun e => hi e.symm)]) m3
          refine ⟨ψ, (), w.setCell ⟨r, o, none⟩ v', ?_, q1, trivial, q2⟩
          rw [run_store _ _ _ _ _ (by rw [hv.one]; exact h1), hcell]
          simp [hfz]
      · cases hs

theorem Sim.newObj {o o' : Obj} (ho : ObR φ o o') : Sim P base φ (fun χ b r => χ.blk b = some r) (newObj o) (newObj o') := by
  intro ψ hψ s w hrel b s' hrun
  unfold Go.newObj at hrun
  simp only [runA] at hrun
  cases hn : newOk o with
  | false => rw [hn] at hrun; cases hrun
  | true =>
    rw [hn, cond_true] at hrun
    cases hrun
    exact ⟨_, w.heap.size, w.alloc o', rfl, (hrel.alloc (ho.mono hψ)).1, Phi.ext_blk, (hrel.alloc (ho.mono hψ)).2⟩

theorem Rel.obj {s : AS} {w : World} (h : Rel P base φ s w) {b r : Nat} {o : Obj} {gr} (hb : φ.blk b = some r) (hg : s.get b = some ⟨o, gr⟩) (hl : looked o = true) :
    ∃ o', w.heap[r]? = some o' ∧ ObR φ o o' ∧ looked o' = true := by
  obtain ⟨r', h1, h2, _⟩ := h.live b _ hg
  rw [hb] at h1; cases h1
  unfold ORel at h2
  cases o with
  | map es clock => obtain ⟨es', k1, k2⟩ := h2; exact ⟨_, k1, ⟨es', rfl, k2⟩, rfl⟩
  | stringIter s p => exact ⟨_, h2, rfl, rfl⟩
  | mapIter m a c d => obtain ⟨m', k1, k2⟩ := h2; exact ⟨_, k1, ⟨m', rfl, k2⟩, rfl⟩
  | _ => simp [looked] at hl

theorem Sim.getObj {b r : Nat} (hb : φ.blk b = some r) : Sim P base φ (fun χ o o' => ObR χ o o' ∧ looked o = true) (getObj b) (getObj r) := by
  intro ψ hψ s w hrel o s' hrun
  unfold Go.getObj at hrun
  simp only [runA] at hrun
  split at hrun
  · rename_i o1 gr hg
    cases hl : looked o1 with
    | false => rw [hl] at hrun; cases hrun
    | true =>
      rw [hl, cond_true] at hrun
      cases hrun
      obtain ⟨o', k1, k2, k3⟩ := hrel.obj (hψ _ _ hb).1 hg hl
      refine ⟨ψ, o', w, ?_, hrel, ⟨k2, hl⟩, Gr.refl _ _ _⟩
      simp only [Go.getObj, Sem.run, k1]
      cases o' <;> first | rfl | simp [looked] at k3
  · cases hrun

theorem Sim.setObj {b r : Nat} (hb : φ.blk b = some r) {o o' : Obj} (ho : ObR φ o o') : Sim P base φ (fun _ _ _ => True) (setObj b o) (setObj r o') := by
  intro ψ hψ s w hrel u s' hrun
  unfold Go.setObj at hrun
  simp only [runA] at hrun
  split at hrun
  · rename_i o0 gr hg
    cases hl : looked o0 && looked o && Nat.ble s.lock b with
    | false => rw [hl] at hrun; cases hrun
    | true =>
      rw [hl, cond_true] at hrun
      cases hrun
      simp only [Bool.and_eq_true, Nat.ble_eq] at hl
      have hb' := (hψ _ _ hb).1
      obtain ⟨o1, k1, k2, k3⟩ := hrel.obj hb' hg hl.1.1
      have hlt := hrel.inb _ _ hb'
      obtain ⟨q1, q2⟩ := hrel.update (w' := { w with heap := w.heap.setIfInBounds r o' }) (o1 := ⟨o, false⟩) hg hb' hl.2 (by simp) rfl rfl rfl (fun i hi => by
        simp only [Array.getElem?_setIfInBounds]
        rw [if_neg (fun e => hi e.symm)]) (ORel.of_ObR (ho.mono hψ) (by simp [hlt]))
      refine ⟨ψ, (), { w with heap := w.heap.setIfInBounds r o' }, ?_, q1, trivial, q2⟩
      simp only [Go.setObj, Sem.run, k1]
      cases o1 <;> first | rfl | simp [looked] at k3
  · cases hrun

theorem Sim.loadCellsFrom {a a' : Addr} (h : AdR φ a a') : ∀ (n i : Nat) {ψ : Phi}, φ.le ψ → ∀ {acc acc' : Array Value}, AR (VRel ψ) acc acc' →
    Sim P base ψ (fun χ => AR (VRel χ)) (loadCellsFrom a i n acc) (loadCellsFrom a' i n acc') := by
  intro n
  induction n with
  | zero => intro i ψ hψ acc acc' hacc; exact Sim.pure fun χ hχ => hacc.vmono hχ
  | succ n ih =>
    intro i ψ hψ acc acc' hacc
    unfold Go.loadCellsFrom
    refine Sim.bind (Sim.load ((h.mono hψ).add i)) ?_
    intro χ hχ v v' hv
    exact ih (i + 1) (hψ.trans hχ) ((hacc.vmono hχ).push hv)

theorem Sim.loadCells {a a' : Addr} (h : AdR φ a a') (n : Nat) : Sim P base φ (fun χ => AR (VRel χ)) (loadCells a n) (loadCells a' n) :=
  Sim.loadCellsFrom h n 0 (Phi.le_refl _) AR.empty

theorem Sim.storeCells {vs vs' : List Value} (hv : LR (VRel φ) vs vs') : ∀ {a a' : Addr} {ψ : Phi} (i : Nat), φ.le ψ → AdR ψ a a' →
    Sim P base ψ (fun _ _ _ => True) (storeCells a vs i) (storeCells a' vs' i) := by
  induction hv with
  | nil => intro a a' ψ i _ _; exact Sim.pure fun _ _ => trivial
  | cons h _ ih =>
    intro a a' ψ i hψ ha
    unfold Go.storeCells
    refine Sim.bind (Sim.store (ha.add i) (h.mono hψ)) ?_
    intro χ hχ _ _ _
    exact ih (i + 1) (hψ.trans hχ) (ha.mono hχ)

theorem Sim.loadVar {t : TypeId} {a a' : Addr} (h : AdR φ a a') : Sim P base φ VRel (loadVar t a) (loadVar t a') := by
  unfold Go.loadVar
  refine Sim.bind Sim.isAgg ?_
  rintro ψ hψ b _ rfl
  cases b with
  | true =>
    refine Sim.bind Sim.sizeOf ?_
    rintro χ hχ n _ ⟨rfl, _⟩
    refine Sim.bind (Sim.loadCells (h.mono (hψ.trans hχ)) n) ?_
    intro ξ hξ c c' hc
    exact Sim.pure fun ζ hζ => .agg c c' hc.1 (hc.vmono hζ).2
  | false => exact Sim.load (h.mono hψ)

theorem Sim.storeVar {t : TypeId} {a a' : Addr} (h : AdR φ a a') {v v' : Value} (hv : VRel φ v v') : Sim P base φ (fun _ _ _ => True) (storeVar t a v) (storeVar t a' v') := by
  unfold Go.storeVar
  refine Sim.bind Sim.sizeOf ?_
  rintro ψ hψ n _ ⟨rfl, _⟩
  have hc := (hv.mono hψ).cells
  rw [hc.1]
  dsimp only
  split
  · refine Sim.bind (R := fun _ _ _ => True) Sim.stuck ?_
    intro χ hχ _ _ _
    exact Sim.storeCells (hc.vmono hχ).toLR 0 (Phi.le_refl _) (h.mono (hψ.trans hχ))
  · exact Sim.storeCells hc.toLR 0 (Phi.le_refl _) (h.mono hψ)

theorem Sim.newRow {e : TypeId} {c c' : Array Value} (h : AR (VRel φ) c c') : Sim P base φ AdR (newRow e c) (newRow e c') := by
  unfold Go.newRow
  refine Sim.bind (Sim.newObj (o := .cells c e) (o' := .cells c' e) ⟨c', rfl, rfl, h⟩) ?_
  intro ψ hψ b r hb
  exact Sim.pure fun χ hχ => ⟨b, 0, r, rfl, rfl, (hχ _ _ hb).1⟩
theorem Sim.newVar {t : TypeId} {v v' : Value} (h : VRel φ v v') : Sim P base φ AdR (newVar t v) (newVar t v') := Sim.newRow h.cells

theorem Sim.part {t : TypeId} {c c' : Array Value} (h : AR (VRel φ) c c') (off : Nat) : Sim P base φ VRel (part t c off) (part t c' off) := by
  unfold Go.part
  refine Sim.bind Sim.isAgg ?_
  rintro ψ hψ b _ rfl
  cases b with
  | true =>
    refine Sim.bind Sim.sizeOf ?_
    rintro χ hχ n _ ⟨rfl, _⟩
    have := (h.vmono (hψ.trans hχ)).extract off (off + n)
    exact Sim.pure fun ζ hζ => .agg _ _ this.1 (this.vmono hζ).2
  | false =>
    cases hc : c[off]? with
    | none => simp only; exact Sim.stuck
    | some v =>
      obtain ⟨v', h1, h2⟩ := h.some hc
      simp only [h1]
      exact Sim.pure fun ζ hζ => h2.mono (hψ.trans hζ)

end
end Go.Aw
