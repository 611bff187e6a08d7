/- The abstract machine, part M: slots, and a region in the text's order. -/
import Derived.Test.YthaodoaaefhhcaaGreatDoorAwL
namespace Go.Aw
open Go Go.RowKit
set_option linter.unusedVariables false
set_option linter.unusedSimpArgs false

/-! ## Slots -/
structure AAct where
  n : Nat
  tmps : Tr Value
  defers : List Deferred

def AAct.at (a : AAct) (t : Nat) : Value :=
  match a.tmps.get t with
  | some v => v
  | none => undef

def AAct.eval (a : AAct) : Operand → Value
  | .tmp t => a.at t
  | .const v => v
  | .global g => .pointer (some ⟨g, 0, none⟩)
  | .func f => .func (.func f) #[] #[]

def AAct.put (a : AAct) (dst : Option Tmp) (v : Value) : Option AAct :=
  match dst with
  | none => some a
  | some d => bif Nat.blt d a.n then some { a with tmps := a.tmps.set d (some v) } else none

structure ActR (φ : Phi) (a : AAct) (ra : Act) : Prop where
  size : ra.tmps.size = a.n
  at_ : ∀ t, VRel φ (a.at t) (ra.tmps.getD t undef)
  defers : LR (DR φ) a.defers ra.defers

theorem ActR.mono {φ ψ : Phi} (hle : φ.le ψ) {a : AAct} {ra : Act} (h : ActR φ a ra) : ActR ψ a ra :=
  ⟨h.size, fun t => (h.at_ t).mono hle, h.defers.mono fun _ _ k => k.mono hle⟩

theorem ActR.put {φ : Phi} {a a' : AAct} {ra : Act} (h : ActR φ a ra) {dst : Option Tmp} {v v' : Value} (hv : VRel φ v v') (hp : a.put dst v = some a') : ActR φ a' (ra.put dst v') := by
  unfold AAct.put at hp
  cases dst with
  | none => cases hp; exact h
  | some d =>
    simp only at hp
    cases hlt : Nat.blt d a.n with
    | false => rw [hlt] at hp; cases hp
    | true =>
      rw [hlt, cond_true] at hp
      cases hp
      have hd := blt_iff.1 hlt
      refine ⟨by simp [Act.put, h.size], fun t => ?_, h.defers⟩
      simp only [AAct.at, Tr.get_set, Act.put, Array.getD_eq_getD_getElem?, Array.getElem?_setIfInBounds]
      by_cases e : t = d
      · subst e
        simp [h.size, hd, hv]
      · rw [if_neg e, if_neg (fun e' => e e'.symm)]
        have := h.at_ t
        simpa [AAct.at, Array.getD_eq_getD_getElem?] using this

def constOk (P : Program) : Operand → Bool
  | .const v => plain v
  | .global g => Nat.blt g P.globals.size
  | _ => true

section
variable {P : Program} {base : Nat} {φ ψ : Phi}

theorem ActR.eval {a : AAct} {ra : Act} {s : AS} {w : World} (h : ActR φ a ra) (hrel : Rel P base φ s w) {x : Operand} (hx : constOk P x = true) : VRel φ (a.eval x) (ra.eval x) := by
  cases x with
  | tmp t => exact h.at_ t
  | const v => exact (plain_rel hx).1
  | global g => exact .ptr g 0 g (hrel.glob g (blt_iff.1 hx))
  | func f => exact .func (.func f) #[] #[] #[] #[] rfl rfl (fun i v v' h _ => by simp at h) rfl (fun i v v' h _ => by simp at h)

def yieldedA (ops : Array Oper) (a : AAct) (j : Nat) : Option Bool :=
  match (ops[j]?).bind (·.dst) with
  | some d =>
    match a.tmps.get d with
    | some (.bool b) => some b
    | _ => none
  | none => none

theorem yielded_eq' {ops : Array Oper} {a : AAct} {ra : Act} {j : Nat} (h : ∀ d, (ops[j]?).bind (·.dst) = some d → VRel φ (a.at d) (ra.tmps.getD d undef)) : yielded ops ra.tmps j = yieldedA ops a j := by
  unfold yielded yieldedA
  cases hd : (ops[j]?).bind (·.dst) with
  | none => simp
  | some d =>
    simp only [Option.bind_some]
    have hv := h d hd
    rw [Array.getD_eq_getD_getElem?] at hv
    unfold AAct.at at hv
    cases hr : ra.tmps[d]? with
    | none =>
      rw [hr] at hv
      simp only [Option.getD_none] at hv
      cases ha : a.tmps.get d with
      | none => rfl
      | some v =>
        rw [ha] at hv
        simp only at hv
        cases v <;> first | rfl | (unfold undef at hv; cases hv)
    | some v' =>
      rw [hr] at hv
      simp only [Option.getD_some] at hv
      cases ha : a.tmps.get d with
      | none =>
        rw [ha] at hv
        simp only at hv
        unfold undef at hv
        cases hv; rfl
      | some v =>
        rw [ha] at hv
        simp only at hv
        cases hv <;> rfl

theorem yielded_eq {ops : Array Oper} {a : AAct} {ra : Act} (h : ActR φ a ra) (j : Nat) : yielded ops ra.tmps j = yieldedA ops a j := yielded_eq' fun d _ => h.at_ d

/-! ## One operation of a region -/
abbrev CallF := FuncId → Array Value → AS → Option (Value × AS)

def CallOk (P : Program) (call : CallF) : Prop :=
  ∀ f args s v s', call f args s = some (v, s') → ∀ base φ w args', Rel P base φ s w → AR (VRel φ) args args' →
    Calls P f args' w fun e w' => ∃ χ v', e = .returned v' ∧ VRel χ v v' ∧ Rel P base χ s' w' ∧ Gr φ s w χ s' w'

def andPut (a : AAct) (dst : Option Tmp) (v : Value) (s : AS) : Option (AAct × AS) :=
  match a.put dst v with
  | some a' => some (a', s)
  | none => none

def addD (a : AAct) : Option Deferred → AAct
  | none => a
  | some d => { a with defers := d :: a.defers }
def addR (a : Act) : Option Deferred → Act
  | none => a
  | some d => { a with defers := d :: a.defers }

/-- What one operation gives: its value, what it defers, the memory behind it. -/
def evVal (P : Program) (call : CallF) (o : Oper) (ρ : Operand → Value) (s : AS) : Option (Value × Option Deferred × AS) :=
  bif o.op.operands.toList.all (constOk P) then
    match evOp P o ρ s with
    | some (.value v, s') => some (v, none, s')
    | some (.skip, s') => some (undef, none, s')
    | some (.defer d, s') => some (undef, some d, s')
    | some (.enter f args, s') =>
      match call f args s' with
      | some (v, s2) => some (v, none, s2)
      | none => none
    | _ => none
  else none

def evDo (P : Program) (call : CallF) (o : Oper) (ρ : Operand → Value) (a : AAct) (s : AS) : Option (AAct × AS) :=
  match evVal P call o ρ s with
  | some (v, d, s') => andPut (addD a d) o.dst v s'
  | none => none

def evStep (P : Program) (call : CallF) (ops : Array Oper) (o : Oper) (a : AAct) (s : AS) : Option (AAct × AS) :=
  bif Region.wanted o (yieldedA ops a) then evDo P call o a.eval a s else andPut a o.dst undef s

def evIdx (P : Program) (call : CallF) (ops : Array Oper) : List Nat → AAct → AS → Option (AAct × AS)
  | [], a, s => some (a, s)
  | i :: r, a, s =>
    match ops[i]? with
    | none => evIdx P call ops r a s
    | some o =>
      match evStep P call ops o a s with
      | some (a', s') => evIdx P call ops r a' s'
      | none => none

/-- What holds behind an operation, or a piece of code. -/
def Behind (P : Program) (base : Nat) (φ : Phi) (s : AS) (w : World) (a' : AAct) (s' : AS) (ra' : Act) (w' : World) : Prop :=
  ∃ χ, ActR χ a' ra' ∧ Rel P base χ s' w' ∧ Gr φ s w χ s' w'

theorem Behind.trans {s t u : AS} {w v x : World} {a b : AAct} {ra rb : Act} {χ : Phi} (h : Gr φ s w χ t v) (k : Behind P base χ t v b u rb x) : Behind P base φ s w b u rb x := by
  obtain ⟨ξ, h1, h2, h3⟩ := k
  exact ⟨ξ, h1, h2, h.trans h3⟩

inductive DO (φ : Phi) : Option Deferred → Option Deferred → Prop
  | none : DO φ none none
  | some (d d' : Deferred) : DR φ d d' → DO φ (some d) (some d')

/-- One operation, its operands' values being related. -/
theorem evVal_ok (hP : POk P) {call : CallF} (hcall : CallOk P call) {o : Oper} {ρ : Operand → Value} {v : Value} {d : Option Deferred} {s s' : AS} (h : evVal P call o ρ s = some (v, d, s')) {w : World} {ra : Act}
    (hrel : Rel P base φ s w) (hρ : ∀ x ∈ o.op.operands, constOk P x = true → VRel φ (ρ x) (ra.eval x)) {Q : Exit → Act → World → Prop} :
    o.wp P ra w (fun ra' w' => ∃ χ v' d', VRel χ v v' ∧ DO χ d d' ∧ ra' = (addR ra d').put o.dst v' ∧ Rel P base χ s' w' ∧ Gr φ s w χ s' w') Q := by
  unfold evVal at h
  cases hc : o.op.operands.toList.all (constOk P) with
  | false => rw [hc] at h; cases h
  | true =>
    rw [hc, cond_true] at h
    rw [List.all_eq_true] at hc
    have hok := evOp_ok hP (o := o) (ρ := ρ) (ρ' := ra.eval) hrel fun x hx => hρ x hx (hc x (by rw [Array.mem_toList_iff]; exact hx))
    unfold Oper.wp
    split at h
    · rename_i v1 s1 h1
      obtain ⟨χ, n', w', k1, k2, ⟨v', rfl, k3⟩, k4⟩ := hok _ _ h1
      rw [k1, Oper.upon_value]
      cases h
      exact ⟨χ, v', none, k3, .none, rfl, k2, k4⟩
    · rename_i s1 h1
      obtain ⟨χ, n', w', k1, k2, k3, k4⟩ := hok _ _ h1
      have k3' : n' = .skip := k3
      subst k3'
      rw [k1, Oper.upon_skip]
      cases h
      exact ⟨χ, undef, none, VRel.undef, .none, rfl, k2, k4⟩
    · rename_i d1 s1 h1
      obtain ⟨χ, n', w', k1, k2, ⟨d', rfl, k3⟩, k4⟩ := hok _ _ h1
      rw [k1, Oper.upon_defer]
      cases h
      exact ⟨χ, undef, some d', VRel.undef, .some _ _ k3, rfl, k2, k4⟩
    · rename_i f args s1 h1
      obtain ⟨χ, n', w', k1, k2, ⟨args', rfl, k3⟩, k4⟩ := hok _ _ h1
      rw [k1, Oper.upon_enter]
      split at h
      · rename_i v2 s2 h2
        cases h
        refine (hcall f args s1 _ _ h2 base χ w' args' k2 k3).mono ?_
        rintro e w2 ⟨ξ, v', rfl, q1, q2, q3⟩
        exact ⟨ξ, v', none, q1, .none, rfl, q2, k4.trans q3⟩
      · cases h
    · cases h

theorem andPut_some {b a' : AAct} {dst : Option Tmp} {v : Value} {t s' : AS} (ht : andPut b dst v t = some (a', s')) : b.put dst v = some a' ∧ t = s' := by
  unfold andPut at ht
  split at ht
  · rename_i b' hb'
    cases ht
    exact ⟨hb', rfl⟩
  · cases ht

theorem ActR.addD {a : AAct} {ra : Act} (h : ActR φ a ra) {d d' : Option Deferred} (hd : DO φ d d') : ActR φ (addD a d) (addR ra d') := by
  cases hd with
  | none => exact h
  | some d d' k => exact ⟨h.size, h.at_, .cons k h.defers⟩

theorem evDo_ok (hP : POk P) {call : CallF} (hcall : CallOk P call) {o : Oper} {ρ : Operand → Value} {a a' : AAct} {s s' : AS} (h : evDo P call o ρ a s = some (a', s')) {w : World} {ra : Act}
    (hrel : Rel P base φ s w) (hρ : ∀ x ∈ o.op.operands, constOk P x = true → VRel φ (ρ x) (ra.eval x)) (ha : ActR φ a ra) {Q : Exit → Act → World → Prop} :
    o.wp P ra w (fun ra' w' => Behind P base φ s w a' s' ra' w') Q := by
  unfold evDo at h
  split at h
  · rename_i v d s1 h1
    obtain ⟨p1, rfl⟩ := andPut_some h
    refine Oper.wp_mono ?_ (evVal_ok hP hcall h1 hrel hρ)
    rintro ra' w' ⟨χ, v', d', q1, q2, rfl, q3, q4⟩
    exact ⟨χ, ((ha.mono q4.le).addD q2).put q1 p1, q3, q4⟩
  · cases h

theorem wpOps_ok (hP : POk P) {call : CallF} (hcall : CallOk P call) {ops : Array Oper} {Q : Exit → Act → World → Prop} : ∀ (l : List Nat) {φ : Phi} {a a' : AAct} {s s' : AS} {ra : Act} {w : World},
    evIdx P call ops l a s = some (a', s') → Rel P base φ s w → ActR φ a ra → (∀ ra' w', Behind P base φ s w a' s' ra' w' → Q .normal ra' w') → wpOps P ops Q l ra w := by
  intro l
  induction l with
  | nil =>
    intro φ a a' s s' ra w h hrel ha hQ
    cases h
    exact hQ _ _ ⟨φ, ha, hrel, Gr.refl _ _ _⟩
  | cons i r ih =>
    intro φ a a' s s' ra w h hrel ha hQ
    rw [wpOps_cons]
    unfold wpOp
    unfold evIdx at h
    cases ho : ops[i]? with
    | none => rw [ho] at h; exact ih h hrel ha hQ
    | some o =>
      rw [ho] at h
      simp only at h ⊢
      have hw : Region.wanted o (yielded ops ra.tmps) = Region.wanted o (yieldedA ops a) := by
        unfold Region.wanted
        split
        · rfl
        · rw [yielded_eq ha]
      rw [hw]
      unfold evStep at h
      cases hwa : Region.wanted o (yieldedA ops a) with
      | true =>
        rw [hwa, cond_true] at h
        split at h
        · rename_i a1 s1 h1
          rw [if_pos rfl]
          refine .inl (Oper.wp_mono (K := fun ra' w' => Behind P base φ s w a1 s1 ra' w') ?_ (evDo_ok hP hcall h1 hrel (fun x hx hc => ha.eval hrel hc) ha))
          rintro ra1 w1 ⟨χ, k1, k2, k3⟩
          exact ih h k2 k1 fun ra' w' hb => hQ _ _ (Behind.trans (a := a1) (ra := ra1) k3 hb)
        · cases h
      | false =>
        rw [hwa, cond_false] at h
        rw [if_neg (by simp)]
        split at h
        · rename_i a1 s1 h1
          unfold andPut at h1
          split at h1
          · rename_i b hb
            cases h1
            exact ih h hrel (ha.put VRel.undef hb) hQ
          · cases h1
        · cases h

theorem region_ok (hP : POk P) {call : CallF} (hcall : CallOk P call) {ops : Array Oper} {id : Nat} {a a' : AAct} {s s' : AS} {ra : Act} {w : World} {Q : Exit → Act → World → Prop}
    (h : evIdx P call ops (List.range ops.size) a s = some (a', s')) (hrel : Rel P base φ s w) (ha : ActR φ a ra) (hQ : ∀ ra' w', Behind P base φ s w a' s' ra' w' → Q .normal ra' w') :
    (Code.region id ops false).wp P Q ra w := wp_region (wpOps_ok hP hcall _ h hrel ha hQ)

end
end Go.Aw
