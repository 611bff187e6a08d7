/- The abstract machine, part F: addresses, slices, maps. -/
import Derived.Test.YthaodoaaefhhcaaGreatDoorAwE
namespace Go.Aw
open Go Go.RowKit
set_option linter.unusedVariables false
set_option linter.unusedSimpArgs false

section
variable {P : Program} {base : Nat} {φ ψ : Phi}

theorem run_sizeOf_of {P : Program} {t : TypeId} (h : P.cellsOf t ≠ 0) (w : World) : (sizeOf t).run P w = .ok (P.cellsOf t) w := by
  unfold Program.cellsOf at *
  cases hi : P.info? t with
  | none => simp [hi] at h
  | some i => simp [sizeOf, typeInfo, hi]

theorem run_typeInfo_of {P : Program} {t : TypeId} {i : TypeInfo} (h : P.info? t = some i) (w : World) : (typeInfo t).run P w = .ok i w := by
  simp [typeInfo, h]
theorem run_zero_of {P : Program} {t : TypeId} {i : TypeInfo} {z : Value} (h : P.info? t = some i) (hz : i.zero = some z) (w : World) : (zeroValue t).run P w = .ok z w := by
  simp [zeroValue, typeInfo, h, hz]

/-! ## The address of a field -/
def evField (P : Program) (st : TypeId) (v : Value) (f : Nat) : Option Value :=
  match P.underlying st, v with
  | some (.struct fs), .pointer (some ⟨b, o, none⟩) =>
    match fs[f]? with
    | some fd => bif Nat.beq (P.cellsOf fd.type) 0 then none else some (.pointer (some ((⟨b, o, none⟩ : Addr).add fd.offset)))
    | none => none
  | _, _ => none

theorem evField_ok {st : TypeId} {v v' u : Value} {f : Nat} (hv : VRel φ v v') (h : evField P st v f = some u) (w : World) :
    ∃ u', (Instr.fieldAt st v' f).run P w = .ok u' w ∧ VRel φ u u' := by
  unfold evField at h
  split at h
  · rename_i fs b o hu
    split at h
    · rename_i fd hfd
      cases hc : Nat.beq (P.cellsOf fd.type) 0 with
      | true => rw [hc] at h; cases h
      | false =>
        rw [hc, cond_false] at h
        cases h
        have hne : P.cellsOf fd.type ≠ 0 := fun e => by rw [e] at hc; cases hc
        cases hv with
        | ptr _ _ r hb =>
          refine ⟨.pointer (some ((⟨r, o, none⟩ : Addr).add fd.offset)), ?_, (AdR.add (n := fd.offset) ⟨b, o, r, rfl, rfl, hb⟩).val⟩
          simp [Instr.fieldAt, run_underlying hu, hfd, Instr.sureAddr, fieldPlace, run_sizeOf_of hne, hne]
    · cases h
  · cases h

/-! ## The address of an element -/
def evIndexAddr (P : Program) (t : TypeId) (x i : Value) : Option Value :=
  match i, P.underlying t, x with
  | .int _ n, some (.array len e), .pointer (some ⟨b, o, none⟩) =>
    bif Nat.beq (P.cellsOf e) 0 || !(decide (0 ≤ n) && decide (n < len)) then none else some (.pointer (some ((⟨b, o, none⟩ : Addr).add (n.toNat * P.cellsOf e))))
  | .int _ n, some (.slice e), .slice (some ⟨b, o, none⟩) len _ =>
    bif Nat.beq (P.cellsOf e) 0 || !(decide (0 ≤ n) && decide (n < len)) then none else some (.pointer (some ((⟨b, o, none⟩ : Addr).add (n.toNat * P.cellsOf e))))
  | _, _, _ => none

theorem cond_some {α : Type} {c : Bool} {x : Option α} {a : α} (h : (bif c then x else none) = some a) : c = true ∧ x = some a := by
  cases c with
  | false => cases h
  | true => exact ⟨rfl, h⟩
theorem cond_none {α : Type} {c : Bool} {x : Option α} {a : α} (h : (bif c then none else x) = some a) : c = false ∧ x = some a := by
  cases c with
  | true => cases h
  | false => exact ⟨rfl, h⟩

theorem evIndexAddr_ok {t : TypeId} {x x' i i' u : Value} (hx : VRel φ x x') (hi : VRel φ i i') (h : evIndexAddr P t x i = some u) (w : World) :
    ∃ u', (Instr.indexAt t x' i').run P w = .ok u' w ∧ VRel φ u u' := by
  unfold evIndexAddr at h
  split at h
  · rename_i k n len e b o hu
    obtain ⟨hc, h⟩ := cond_none h
    cases h
    simp only [Bool.or_eq_false_iff, Bool.not_eq_false', Bool.and_eq_true, decide_eq_true_eq] at hc
    have hne : P.cellsOf e ≠ 0 := fun e1 => by rw [e1] at hc; cases hc.1
    cases hi
    cases hx with
    | ptr _ _ r hb =>
      refine ⟨.pointer (some ((⟨r, o, none⟩ : Addr).add (n.toNat * P.cellsOf e))), ?_, (AdR.add ⟨b, o, r, rfl, rfl, hb⟩ _).val⟩
      simp [Instr.indexAt, run_underlying hu, asIntOf, Instr.sureAddr, run_sizeOf_of hne, hc.2]
  · rename_i k n e b o len c hu
    obtain ⟨hc, h⟩ := cond_none h
    cases h
    simp only [Bool.or_eq_false_iff, Bool.not_eq_false', Bool.and_eq_true, decide_eq_true_eq] at hc
    have hne : P.cellsOf e ≠ 0 := fun e1 => by rw [e1] at hc; cases hc.1
    cases hi
    cases hx with
    | slice _ _ r _ _ c' hb _ _ =>
      refine ⟨.pointer (some ((⟨r, o, none⟩ : Addr).add (n.toNat * P.cellsOf e))), ?_, (AdR.add ⟨b, o, r, rfl, rfl, hb⟩ _).val⟩
      simp [Instr.indexAt, run_underlying hu, asIntOf, run_sizeOf_of hne, hc.2]
  · cases h

/-! ## A slice of a slice -/
def intIn (v : Value) (y : Nat) : Option Nat :=
  match v with
  | .int _ n => bif decide (0 ≤ n) && decide (n ≤ y) then some n.toNat else none
  | _ => none

theorem intIn_ok {v v' : Value} (hv : VRel φ v v') {y y' n : Nat} (hy : y ≤ y') (h : intIn v y = some n) (c : BoundsCode) (w : World) :
    (Instr.sliceBound v' y' c).run P w = .ok n w ∧ n ≤ y := by
  unfold intIn at h
  split at h
  · rename_i k m
    cases hc : decide (0 ≤ m) && decide (m ≤ (y : Int)) with
    | false => rw [hc] at h; cases h
    | true =>
      rw [hc] at h; cases h
      simp only [Bool.and_eq_true, decide_eq_true_eq] at hc
      cases hv
      refine ⟨?_, by omega⟩
      have : 0 ≤ m ∧ m ≤ (y' : Int) := ⟨hc.1, by omega⟩
      simp [Instr.sliceBound, asIntOf, this]
  · cases h

def optIn (v : Option Value) (y d : Nat) : Option Nat :=
  match v with
  | some v => intIn v y
  | none => some d

/-- lo, hi, max; of a slice whose capacity is not known the bounds lie within its length. -/
def evSlice (P : Program) (t : TypeId) (x : Value) (lo hi mx : Option Value) : Option Value :=
  match P.underlying t, x with
  | some (.slice e), .slice (some ⟨b, o, none⟩) len cap =>
    bif Nat.beq (P.cellsOf e) 0 || Nat.blt cap len then none else
    match mx with
    | some mv =>
      match intIn mv (bif Nat.blt cap capT then cap else len) with
      | some m =>
        match hi with
        | some hv =>
          match intIn hv m with
          | some h =>
            match optIn lo h 0 with
            | some l => bif Nat.blt m capT then some (.slice (some (if m = l then ⟨b, o, none⟩ else (⟨b, o, none⟩ : Addr).add (l * P.cellsOf e))) (h - l) (m - l)) else none
            | none => none
          | none => none
        | none => none
      | none => none
    | none =>
      match optIn hi (bif Nat.blt cap capT then cap else len) len with
      | some h =>
        match optIn lo h 0 with
        | some l =>
          bif Nat.blt cap capT || ((Nat.beq l 0 || Nat.blt l len) && Nat.ble capT (cap - l)) then
            some (.slice (some (if cap = l then ⟨b, o, none⟩ else (⟨b, o, none⟩ : Addr).add (l * P.cellsOf e))) (h - l) (cap - l))
          else none
        | none => none
      | none => none
  | _, _ => none

theorem optIn_run {v v' : Option Value} (hv : match v, v' with | some a, some a' => VRel φ a a' | none, none => True | _, _ => False) {y y' d n : Nat} (hd : d ≤ y) (hy : y ≤ y') (h : optIn v y d = some n) (c : BoundsCode) (w : World) :
    (match v' with | some a => Instr.sliceBound a y' c | none => pure d).run P w = .ok n w ∧ n ≤ y := by
  cases v with
  | none => cases v' with
    | none => cases h; exact ⟨rfl, hd⟩
    | some a => exact hv.elim
  | some a => cases v' with
    | none => exact hv.elim
    | some a' => exact intIn_ok hv hy h c w

theorem CapRel.le {b cap cap' : Nat} (h : CapRel φ b cap cap') {len : Nat} (hl : len ≤ cap') (hlc : len ≤ cap) : (bif Nat.blt cap capT then cap else len) ≤ cap' := by
  rcases h with ⟨h1, rfl⟩ | ⟨h1, k, h2, h3⟩
  · cases Nat.blt cap' capT <;> simp [hl]
  · have : Nat.blt cap capT = false := by
      cases hb : Nat.blt cap capT with
      | false => rfl
      | true => rw [Nat.blt_eq] at hb; omega
    rw [this]; exact hl

theorem capT_pos : 0 < capT := by decide

theorem CapRel.sub {b cap cap' l : Nat} (h : CapRel φ b cap cap') (hl : l ≤ cap') (hl2 : cap < capT ∨ capT ≤ cap - l) : CapRel φ b (cap - l) (cap' - l) := by
  have := capT_pos
  rcases h with ⟨h1, rfl⟩ | ⟨h1, k, h2, h3⟩
  · exact .inl ⟨by omega, rfl⟩
  · exact .inr ⟨by omega, k + l, by omega, by omega⟩

def OptR (φ : Phi) (v v' : Option Value) : Prop :=
  match v, v' with
  | some a, some a' => VRel φ a a'
  | none, none => True
  | _, _ => False

theorem blt_iff {a b : Nat} : Nat.blt a b = true ↔ a < b := by rw [Nat.blt_eq]
theorem blt_false {a b : Nat} : Nat.blt a b = false ↔ b ≤ a := by
  cases h : Nat.blt a b with
  | true => rw [Nat.blt_eq] at h; simp; omega
  | false =>
    have : ¬ a < b := fun hl => by rw [← Nat.blt_eq, h] at hl; cases hl
    simp; omega

theorem evSlice_ok {t : TypeId} {x x' u : Value} {lo hi mx lo' hi' mx' : Option Value} (hx : VRel φ x x') (hlo : OptR φ lo lo') (hhi : OptR φ hi hi') (hmx : OptR φ mx mx')
    (h : evSlice P t x lo hi mx = some u) (w : World) : ∃ u', (Instr.sliceAt t x' lo' hi' mx').run P w = .ok u' w ∧ VRel φ u u' := by
  unfold evSlice at h
  split at h
  · rename_i e b o len cap hu
    obtain ⟨hc, h⟩ := cond_none h
    simp only [Bool.or_eq_false_iff, blt_false] at hc
    have hne : P.cellsOf e ≠ 0 := fun e1 => by rw [e1] at hc; cases hc.1
    cases hx with
    | slice _ _ r _ _ cap' hb hcap hl =>
    have hbnd := hcap.le hl hc.2
    have haddr : ∀ l, AdR φ ((⟨b, o, none⟩ : Addr).add (l * P.cellsOf e)) ((⟨r, o, none⟩ : Addr).add (l * P.cellsOf e)) := fun l => AdR.add ⟨b, o, r, rfl, rfl, hb⟩ _
    have hres : ∀ (m m' h l : Nat), l ≤ h → h ≤ m' → CapRel φ b (m - l) (m' - l) → (m = l → m' = l) → (m' = l → m = l ∨ l = 0) →
        VRel φ (.slice (some (if m = l then ⟨b, o, none⟩ else (⟨b, o, none⟩ : Addr).add (l * P.cellsOf e))) (h - l) (m - l))
          (.slice (some (if m' = l then ⟨r, o, none⟩ else (⟨r, o, none⟩ : Addr).add (l * P.cellsOf e))) (h - l) (m' - l)) := by
      intro m m' h l hlh hhm hcr h1 h2
      have hz : l = 0 → ∀ z : Nat, (⟨z, o, none⟩ : Addr).add (l * P.cellsOf e) = ⟨z, o, none⟩ := fun e1 z => by subst e1; simp [Addr.add]
      by_cases e1 : m = l
      · rw [if_pos e1, if_pos (h1 e1)]
        exact .slice b o r _ _ _ hb hcr (by omega)
      · rw [if_neg e1]
        by_cases e2 : m' = l
        · rw [if_pos e2]
          have e3 := (h2 e2).resolve_left e1
          rw [hz e3 b]
          exact .slice b o r _ _ _ hb hcr (by omega)
        · rw [if_neg e2]
          obtain ⟨b2, o2, r2, q1, q2, q3⟩ := haddr l
          rw [q1, q2]
          have hb2 : b2 = b := by
            have := congrArg Addr.block q1
            simp only [Addr.add] at this
            split at this <;> exact this.symm
          subst hb2
          exact .slice b2 o2 r2 _ _ _ q3 hcr (by omega)
    split at h
    · -- with a third index
      rename_i mv
      split at h
      · rename_i m hm
        split at h
        · rename_i hv
          split at h
          · rename_i hh hhm
            split at h
            · rename_i l hl0
              cases hb1 : Nat.blt m capT with
              | false => rw [hb1] at h; cases h
              | true =>
              rw [hb1, cond_true] at h
              cases h
              cases mx' with
              | none => exact hmx.elim
              | some mv' =>
              cases hi' with
              | none => exact hhi.elim
              | some hv' =>
              obtain ⟨r1, k1⟩ := intIn_ok (P := P) hmx hbnd hm (.slice3Acap) w
              obtain ⟨r2, k2⟩ := intIn_ok (P := P) hhi (Nat.le_refl _) hhm (.slice3B) w
              obtain ⟨r3, k3⟩ := optIn_run (P := P) hlo (Nat.zero_le _) (Nat.le_refl _) hl0 (.slice3C) w
              refine ⟨_, ?_, hres m m hh l k3 k2 (.inl ⟨by have := blt_iff.1 hb1; omega, rfl⟩) id (fun e => .inl e)⟩
              unfold Instr.sliceAt
              simp only [Sem.run_bind, run_underlying hu, Result.andThen_ok, Instr.slice, Instr.sliceBounds, r1, r2, Option.isSome_some, if_true]
              cases lo' with
              | none =>
                simp only [Sem.run_pure, Result.ok.injEq, and_true] at r3
                subst r3
                simp only [Sem.run_pure, Result.andThen_ok, run_sizeOf_of hne]
                by_cases e : m = 0 <;> simp [e]
              | some lv =>
                have r3' : (Instr.sliceBound lv hh .slice3C).run P w = .ok l w := r3
                simp only [Sem.run_bind, r3', Result.andThen_ok, Sem.run_pure, run_sizeOf_of hne]
                by_cases e : m = l <;> simp [e]
            · cases h
          · cases h
        · cases h
      · cases h
    · -- without
      split at h
      · rename_i hh hhm
        split at h
        · rename_i l hl0
          cases hcd : (Nat.blt cap capT || ((Nat.beq l 0 || Nat.blt l len) && Nat.ble capT (cap - l))) with
          | false => rw [hcd] at h; cases h
          | true =>
            rw [hcd, cond_true] at h
            cases h
            cases mx' with
            | some mv' => exact hmx.elim
            | none =>
            have hd : len ≤ (bif Nat.blt cap capT then cap else len) := by cases Nat.blt cap capT <;> simp [hc.2]
            obtain ⟨r2, k2⟩ := optIn_run (P := P) hhi hd hbnd hhm (.sliceAcap) w
            obtain ⟨r3, k3⟩ := optIn_run (P := P) hlo (Nat.zero_le _) (Nat.le_refl _) hl0 (.sliceB) w
            have hle : hh ≤ cap' := by omega
            simp only [Bool.or_eq_true, Bool.and_eq_true, blt_iff, Nat.ble_eq] at hcd
            have hcr : CapRel φ b (cap - l) (cap' - l) := hcap.sub (by omega) (by rcases hcd with h | ⟨_, h⟩; exact .inl h; exact .inr h)
            have e1 : cap = l → cap' = l := by
              intro e
              rcases hcap with ⟨_, rfl⟩ | ⟨q1, k, q2, q3⟩
              · exact e
              · rcases hcd with h | ⟨_, h⟩
                · omega
                · have := capT_pos; omega
            have e2 : cap' = l → cap = l ∨ l = 0 := by
              intro e
              rcases hcap with ⟨_, rfl⟩ | ⟨q1, k, q2, q3⟩
              · exact .inl e
              · rcases hcd with h | ⟨h, _⟩
                · omega
                · rcases h with h | h
                  · exact .inr (Nat.eq_of_beq_eq_true h)
                  · omega
            refine ⟨_, ?_, hres cap cap' hh l k3 hle hcr e1 e2⟩
            unfold Instr.sliceAt
            simp only [Sem.run_bind, run_underlying hu, Result.andThen_ok, Instr.slice, Instr.sliceBounds, Sem.run_pure, Option.isSome_none, Bool.false_eq_true, if_false]
            cases hi' with
            | none =>
              simp only [Sem.run_pure, Result.ok.injEq, and_true] at r2
              subst r2
              simp only [Sem.run_pure, Result.andThen_ok]
              cases lo' with
              | none =>
                simp only [Sem.run_pure, Result.ok.injEq, and_true] at r3
                subst r3
                simp only [Sem.run_pure, Result.andThen_ok, run_sizeOf_of hne]
                by_cases e : cap' = 0 <;> simp [e]
              | some lv =>
                have r3' : (Instr.sliceBound lv _ .sliceB).run P w = .ok l w := r3
                simp only [Sem.run_bind, r3', Result.andThen_ok, Sem.run_pure, run_sizeOf_of hne]
                by_cases e : cap' = l <;> simp [e]
            | some hv' =>
              have r2' : (Instr.sliceBound hv' cap' .sliceAcap).run P w = .ok hh w := r2
              cases lo' with
              | none =>
                simp only [Sem.run_pure, Result.ok.injEq, and_true] at r3
                subst r3
                simp only [if_true, Sem.run_bind, r2', Sem.run_pure, Result.andThen_ok, run_sizeOf_of hne]
                by_cases e : cap' = 0 <;> simp [e]
              | some lv =>
                have r3' : (Instr.sliceBound lv hh .sliceB).run P w = .ok l w := r3
                simp only [if_true, Sem.run_bind, r2', r3', Result.andThen_ok, Sem.run_pure, run_sizeOf_of hne]
                by_cases e : cap' = l <;> simp [e]
        · cases h
      · cases h
  · cases h

end
end Go.Aw
