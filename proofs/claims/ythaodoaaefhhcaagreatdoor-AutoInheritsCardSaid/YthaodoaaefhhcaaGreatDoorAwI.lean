/- The abstract machine, part I: what append answers; bytes to a string; equality with nil. -/
import Derived.Test.YthaodoaaefhhcaaGreatDoorAwH
namespace Go.Aw
open Go Go.RowKit
set_option linter.unusedVariables false
set_option linter.unusedSimpArgs false

section
variable {P : Program} {base : Nat} {φ ψ : Phi}

theorem size_map_getD {α : Type} (z : Array Value) (n : Nat) : (Builtin.zeroCells z n).size = n * z.size := size_zeroCells z n

theorem ar_prefix {xs : Array Value} {ys zs : Array Value} (h : AR (VRel φ) xs ys) : xs.size ≤ (ys ++ zs).size ∧ ∀ (i : Nat) v v', xs[i]? = some v → (ys ++ zs)[i]? = some v' → VRel φ v v' := by
  refine ⟨by rw [h.1, Array.size_append]; omega, fun i v v' h1 h2 => ?_⟩
  have hi : i < ys.size := by rw [← h.1]; exact (Array.getElem?_eq_some_iff.1 h1).1
  rw [Array.getElem?_append_left hi] at h2
  exact h.2 i v v' h1 h2

/-- The room of a new row of append's. -/
theorem grown_rel {w' : World} {b r C : Nat} {e : TypeId} {i : TypeInfo} {c cs' rest : Array Value} (hi : P.info? e = some i) (hheap : w'.heap[r]? = some (.cells (cs' ++ rest) e (0, 0)))
    (h : AR (VRel φ) c cs') (hsz : (cs' ++ rest).size = C * i.size) (hcap : φ.cap b = C) (hC : C ≤ maxLen) : ORel P φ w' b ⟨.cells c e (0, 0), true⟩ r := by
  unfold ORel
  simp only [if_true]
  have := ar_prefix (zs := rest) h
  exact ⟨_, hheap, this.1, this.2, by rw [hsz, hcap]; simp [Program.cellsOf, hi], by rw [hcap]; exact hC⟩

theorem capRel_new {χ : Phi} {b C : Nat} (h : χ.cap b = C) : CapRel χ b capU C := .inr ⟨by decide, 0, rfl, by rw [h]; rfl⟩

theorem evAppend_ok (hP : POk P) {s s' : AS} {w : World} (hrel : Rel P base φ s w) {ts : Array TypeId} {ty : TypeId} {sv sv' xv xv' u : Value} (hs : VRel φ sv sv') (hx : VRel φ xv xv')
    (h : evAppend P s ts sv xv = some (u, s')) : ∃ χ u' w', (Builtin.append_ ts ty #[sv', xv']).run P w = .ok u' w' ∧ Rel P base χ s' w' ∧ VRel χ u u' ∧ Gr φ s w χ s' w' := by
  unfold evAppend at h
  split at h
  · rename_i st xt bs sLen sCap n h0 h1 hlen
    split at h
    · rename_i e xd hst hxt
      split at h
      · rename_i i hi
        split at h
        · rename_i z new s1 hz hnew
          obtain ⟨hc, h⟩ := cond_none h
          simp only [Bool.or_eq_false_iff, Bool.not_eq_false'] at hc
          obtain ⟨⟨⟨⟨⟨hkn, hsos⟩, hnsz⟩, hbig⟩, hisz⟩, hone⟩ := hc
          have hnsz' : new.size = n * i.size := Nat.eq_of_beq_eq_true hnsz
          obtain ⟨rfl, new', hn1, hn2⟩ := firstCells_read hrel hx hnew
          have hrel2 : Rel P base φ s1 w.drew := hrel.same rfl
          obtain ⟨_, new2, hn3, hn4⟩ := firstCells_read hrel2 hx hnew
          have hl := run_lenOf (P := P) hx hlen w
          have hb := hbig
          unfold bigOk at hb
          simp only [Bool.and_eq_true, Nat.ble_eq] at hb
          obtain ⟨hz1, hz2⟩ := hP.elem _ _ _ _ hkn hst hi hz
          have hmaxl : sLen + n ≤ maxLen := by unfold maxLen; omega
          cases hcap : Nat.blt sCap capT with
          | true =>
            rw [hcap, cond_true] at h
            have hcap' := blt_iff.1 hcap
            -- the capacity is known
            have hsv : ∃ bs', sv' = .slice bs' sLen sCap ∧ (∀ a, bs = some a → ∃ a', bs' = some a' ∧ AdR φ a a') ∧ (bs = none → bs' = none) := by
              cases hs with
              | slice0 => exact ⟨none, rfl, (fun a h => by cases h), fun _ => rfl⟩
              | slice b o r _ _ c' hb hcr hl =>
                rcases hcr with ⟨_, rfl⟩ | ⟨k1, _⟩
                · exact ⟨_, rfl, (fun a h => by cases h; exact ⟨_, rfl, b, o, r, rfl, rfl, hb⟩), (fun h => by cases h)⟩
                · omega
            obtain ⟨bs', rfl, hbs, hbn⟩ := hsv
            cases hroom : Nat.ble (sLen + n) sCap with
            | true =>
              rw [hroom, cond_true] at h
              have hroom' := Nat.le_of_ble_eq_true hroom
              split at h
              · cases h
                rw [hbn rfl]
                exact ⟨φ, _, w, run_append_in h0 h1 hst hxt hsos hi hl hn1 hroom' (w2 := w) rfl, hrel, .slice0 _ _, Gr.refl _ _ _⟩
              · rename_i a _
                obtain ⟨a', rfl, ha⟩ := hbs a rfl
                split at h
                · rename_i u1 s2 hsto
                  cases h
                  obtain ⟨χ, _, w2, k2, k3, _, k5⟩ := Sim.storeCells (P := P) (base := base) (φ := φ) hn2.toLR 0 (Phi.le_refl _) (ha.add (sLen * i.size)) φ (Phi.le_refl _) s1 w hrel u1 s' hsto
                  refine ⟨χ, _, w2, run_append_in h0 h1 hst hxt hsos hi hl hn1 hroom' (w2 := w2) k2, k3, ?_, k5⟩
                  obtain ⟨b, o, r, rfl, rfl, hb⟩ := ha
                  exact .slice b o r _ _ _ (k5.le _ _ hb).1 (.inl ⟨hcap', rfl⟩) hroom'
                · cases h
            | false =>
              rw [hroom, cond_false] at h
              have hroom' : sCap < sLen + n := by
                rcases Nat.lt_or_ge sCap (sLen + n) with hl | hl
                · exact hl
                · rw [Nat.ble_eq_true_of_le hl] at hroom; cases hroom
              split at h
              · rename_i old s3 hold
                cases hosz : Nat.beq old.size (sLen * i.size) with
                | false => rw [hosz] at h; cases h
                | true =>
                rw [hosz, cond_true] at h
                cases h
                have hosz' := Nat.eq_of_beq_eq_true hosz
                obtain ⟨_, old', ho1, ho2⟩ := firstCells_read hrel2 hs hold
                have hrun := run_append_out (ty := ty) h0 h1 hst hxt hsos hi hz hl hn3 hroom' ho1 hbig
                have hge := grownCap_ge w (sLen + n) sCap e
                have hle := grownCap_le_maxLen w (sLen + n) sCap e hmaxl
                have hcells : AR (VRel φ) (old ++ new) (old' ++ new2) := ho2.append hn4
                have hle' : φ.le (φ.ext s1.next w.heap.size (grownCap w (sLen + n) sCap e)) := Phi.le_ext (hrel.fresh _ (Nat.le_refl _))
                obtain ⟨g1, g2⟩ := hrel2.allocG (w' := w.drew.alloc (.cells (old' ++ new2 ++ Builtin.zeroCells z.cells (grownCap w (sLen + n) sCap e - (sLen + n))) e)) (o := ⟨.cells (old ++ new) e (0, 0), true⟩) (C := grownCap w (sLen + n) sCap e) (ob := .cells (old' ++ new2 ++ Builtin.zeroCells z.cells (grownCap w (sLen + n) sCap e - (sLen + n))) e) rfl rfl rfl rfl (by
                  refine grown_rel hi (heap_alloc_new w.drew _) (hcells.vmono hle') ?_ Phi.ext_cap hle
                  rw [Array.size_append, size_zeroCells, ← hcells.1, Array.size_append, hosz', hnsz', hz2, ← Nat.add_mul, ← Nat.add_mul]
                  rw [show sLen + n + (grownCap w (sLen + n) sCap e - (sLen + n)) = grownCap w (sLen + n) sCap e from by omega])
                refine ⟨_, _, _, hrun, g1, ?_, (Gr.same_heap (w := w) (w' := w.drew) rfl rfl rfl rfl).trans g2⟩
                exact .slice s1.next 0 w.heap.size (sLen + n) capU _ Phi.ext_blk (capRel_new Phi.ext_cap) hge
              · cases h
          | false =>
            rw [hcap, cond_false] at h
            split at h
            · rename_i b _
              split at h
              · rename_i c e' hg
                cases hcc : (Nat.ble s1.lock b && Nat.beq sCap capU && Nat.beq e' e && Nat.ble (sLen * i.size) c.size) with
                | false => rw [hcc] at h; cases h
                | true =>
                rw [hcc, cond_true] at h
                cases h
                simp only [Bool.and_eq_true, Nat.ble_eq] at hcc
                have hlk : s1.lock ≤ b := hcc.1.1.1
                have hcu := Nat.eq_of_beq_eq_true hcc.1.1.2
                have hee := Nat.eq_of_beq_eq_true hcc.1.2
                subst hee
                subst hcu
                cases hs with
                | slice _ _ r _ _ cap' hb hcr hlc =>
                have hcapeq : cap' = φ.cap b := by
                  rcases hcr with ⟨k1, _⟩ | ⟨_, k, k2, k3⟩
                  · exact absurd k1 (by decide)
                  · omega
                obtain ⟨r', m1, m2, m3⟩ := hrel.live _ _ hg
                rw [hb] at m1; cases m1
                unfold ORel at m2
                simp only [if_true] at m2
                obtain ⟨c', q1, q2, q3, q4, q5⟩ := m2
                have hcells : P.cellsOf e' = i.size := by simp [Program.cellsOf, hi]
                rw [hcells, ← hcapeq] at q4
                rw [← hcapeq] at q5
                have hpos : 0 < i.size := by
                  rcases Nat.eq_zero_or_pos i.size with h | h
                  · rw [h] at hisz; cases hisz
                  · exact h
                have hkeep : AR (VRel φ) (c.extract 0 (sLen * i.size)) (c'.extract 0 (sLen * i.size)) := by
                  refine ⟨by simp only [Array.size_extract]; omega, fun j v v' h1 h2 => ?_⟩
                  rw [Array.getElem?_extract] at h1 h2
                  split at h1
                  · split at h2
                    · exact q3 _ v v' h1 h2
                    · cases h2
                  · cases h1
                by_cases hroom : sLen + n ≤ cap'
                · -- in place
                  have hsz : sLen * i.size + n * i.size ≤ c'.size := by rw [q4, ← Nat.add_mul]; exact Nat.mul_le_mul_right _ hroom
                  have hone' : ∀ v ∈ new'.toList, v.oneCell' = true := by
                    intro v hv
                    rw [Array.mem_toList_iff] at hv
                    obtain ⟨j, hj, rfl⟩ := Array.mem_iff_getElem.1 hv
                    have hj' : j < new.size := by rw [hn2.1]; exact hj
                    have hr := hn2.2 j new[j] new'[j] (Array.getElem?_eq_getElem hj') (Array.getElem?_eq_getElem hj)
                    rw [hr.one]
                    rw [List.all_eq_true] at hone
                    exact hone _ (by rw [Array.mem_toList_iff]; exact Array.getElem_mem hj')
                  have hnl : new'.toList.length = n * i.size := by rw [Array.length_toList, ← hn2.1, hnsz']
                  have hst2 := run_storeCells_at P r (sLen * i.size) e' new'.toList 0 c' w q1 (by rw [hnl]; omega) hone'
                  simp only [Nat.add_zero] at hst2
                  have hadd : (⟨r, 0, none⟩ : Addr).add (sLen * i.size) = ⟨r, sLen * i.size, none⟩ := by rw [Addr.add_lit, Nat.zero_add]
                  have hrun := run_append_in (ty := ty) h0 h1 hst hxt hsos hi hl hn1 hroom (bs := some ⟨r, 0, none⟩) (w2 := w.setRow r (c'.toList.take (sLen * i.size) ++ new'.toList ++ c'.toList.drop (sLen * i.size + new'.toList.length)).toArray) (by show (storeCells ((⟨r, 0, none⟩ : Addr).add (sLen * i.size)) new'.toList).run P w = _; rw [hadd]; exact hst2)
                  have hle' : φ.le (φ.ext s1.next r cap') := Phi.le_ext (hrel.fresh _ (Nat.le_refl _))
                  obtain ⟨g1, g2⟩ := hrel.reuse (w' := w.setRow r (c'.toList.take (sLen * i.size) ++ new'.toList ++ c'.toList.drop (sLen * i.size + new'.toList.length)).toArray) (C := cap') (o1 := ⟨.cells (c.extract 0 (sLen * i.size) ++ new) e' (0, 0), true⟩) hg hb hlk (by simp) rfl rfl rfl (fun k hk => setRow_other w r k _ hk) (by
                    have hnewrow : (c'.toList.take (sLen * i.size) ++ new'.toList ++ c'.toList.drop (sLen * i.size + new'.toList.length)).toArray = (c'.extract 0 (sLen * i.size) ++ new') ++ (c'.toList.drop (sLen * i.size + new'.toList.length)).toArray := by
                      apply Array.ext'
                      simp [List.extract_eq_take_drop]
                    rw [hnewrow]
                    refine grown_rel hi (setRow_heap w r c' _ e' (0, 0) q1) ((hkeep.append hn2).vmono hle') ?_ Phi.ext_cap q5
                    have hx1 : (c'.extract 0 (sLen * i.size)).size = sLen * i.size := by simp only [Array.size_extract]; omega
                    rw [Array.size_append, Array.size_append, hx1, ← hn2.1, hnsz', List.size_toArray, List.length_drop, Array.length_toList, hnl, ← q4]
                    omega)
                  refine ⟨_, _, _, hrun, g1, ?_, g2⟩
                  exact .slice s1.next 0 r (sLen + n) capU cap' Phi.ext_blk (capRel_new Phi.ext_cap) hroom
                · -- a new row
                  have hroom' : cap' < sLen + n := by omega
                  have hso : (Builtin.firstCells i.size sLen (.slice (some ⟨r, 0, none⟩) sLen cap')).run P w.drew = .ok (c'.extract 0 (sLen * i.size)) w.drew := by
                    have hl2 : (c'.extract 0 (sLen * i.size)).toList.length = sLen * i.size := by simp only [Array.length_toList, Array.size_extract]; omega
                    have := run_firstCells_some (P := P) w.drew i.size sLen ⟨r, 0, none⟩ sLen cap' (c'.extract 0 (sLen * i.size)).toList hl2 (fun j v hj => by
                      rw [Addr.add_lit, Nat.zero_add]
                      have hq : w.drew.heap[r]? = some (.cells c' e' (0, 0)) := q1
                      have hq2 : w.drew.cell? ⟨r, j, none⟩ = c'[j]? := by simp [World.cell?, hq]
                      rw [hq2]
                      rw [Array.getElem?_toList, Array.getElem?_extract] at hj
                      split at hj
                      · simpa using hj
                      · cases hj)
                    rw [Array.toArray_toList] at this
                    exact this
                  have hrun := run_append_out (ty := ty) h0 h1 hst hxt hsos hi hz hl hn3 hroom' hso hbig
                  have hge := grownCap_ge w (sLen + n) cap' e'
                  have hle := grownCap_le_maxLen w (sLen + n) cap' e' hmaxl
                  have hle' : φ.le (φ.ext s1.next w.heap.size (grownCap w (sLen + n) cap' e')) := Phi.le_ext (hrel.fresh _ (Nat.le_refl _))
                  have hcells2 : AR (VRel φ) (c.extract 0 (sLen * i.size) ++ new) (c'.extract 0 (sLen * i.size) ++ new2) := hkeep.append hn4
                  have hv : VRel (φ.ext s1.next w.heap.size (grownCap w (sLen + n) cap' e')) (.slice (some ⟨s1.next, 0, none⟩) (sLen + n) capU) (.slice (some ⟨w.heap.size, 0, none⟩) (sLen + n) (grownCap w (sLen + n) cap' e')) :=
                    .slice s1.next 0 w.heap.size (sLen + n) capU _ Phi.ext_blk (capRel_new Phi.ext_cap) hge
                  obtain ⟨g1, g2⟩ := (hrel2.dropB b).allocG (w' := w.drew.alloc (.cells (c'.extract 0 (sLen * i.size) ++ new2 ++ Builtin.zeroCells z.cells (grownCap w (sLen + n) cap' e' - (sLen + n))) e')) (o := ⟨.cells (c.extract 0 (sLen * i.size) ++ new) e' (0, 0), true⟩) (C := grownCap w (sLen + n) cap' e') (ob := .cells (c'.extract 0 (sLen * i.size) ++ new2 ++ Builtin.zeroCells z.cells (grownCap w (sLen + n) cap' e' - (sLen + n))) e') rfl rfl rfl rfl (by
                    refine grown_rel hi (heap_alloc_new w.drew _) (hcells2.vmono hle') ?_ Phi.ext_cap hle
                    have hx1 : (c'.extract 0 (sLen * i.size)).size = sLen * i.size := by simp only [Array.size_extract]; omega
                    rw [Array.size_append, size_zeroCells, Array.size_append, hx1, ← hn4.1, hnsz', hz2, ← Nat.add_mul, ← Nat.add_mul]
                    rw [show sLen + n + (grownCap w (sLen + n) cap' e' - (sLen + n)) = grownCap w (sLen + n) cap' e' from by omega])
                  refine ⟨φ.ext s1.next w.heap.size (grownCap w (sLen + n) cap' e'), _, _, hrun, g1, hv, ((Gr.same_heap (w := w) (w' := w.drew) rfl rfl rfl rfl).trans (Gr.dropB s1 w.drew hlk)).trans g2⟩
              · cases h
            · cases h
        · cases h
      · cases h
    · cases h
  · cases h

end
end Go.Aw
