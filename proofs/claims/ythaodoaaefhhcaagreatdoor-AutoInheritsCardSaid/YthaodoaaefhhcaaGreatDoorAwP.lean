/- The abstract machine, part P: regions that draw their order: the order, and the trace. -/
import Derived.Test.YthaodoaaefhhcaaGreatDoorAwN
namespace Go.Aw
open Go Go.RowKit
set_option linter.unusedVariables false
set_option linter.unusedSimpArgs false

/-! ## Restriction -/
open Classical in
noncomputable def Phi.on (φ : Phi) (D : Nat → Prop) : Phi := ⟨fun b => if D b then φ.blk b else none, φ.cap⟩

theorem Phi.on_some {φ : Phi} {D : Nat → Prop} {b r : Nat} : (φ.on D).blk b = some r ↔ D b ∧ φ.blk b = some r := by
  unfold Phi.on
  by_cases h : D b <;> simp [h]
theorem Phi.on_none {φ : Phi} {D : Nat → Prop} {b : Nat} (h : ¬ D b) : (φ.on D).blk b = none := by
  unfold Phi.on; simp [h]
theorem Phi.on_pos {φ : Phi} {D : Nat → Prop} {b : Nat} (h : D b) : (φ.on D).blk b = φ.blk b := by
  unfold Phi.on; simp [h]
theorem Phi.on_le {φ : Phi} {D : Nat → Prop} : (φ.on D).le φ := fun b r h => ⟨(Phi.on_some.1 h).2, rfl⟩
theorem Phi.on_mono {φ ψ : Phi} {D E : Nat → Prop} (h : φ.le ψ) (hd : ∀ b, D b → E b) : (φ.on D).le (ψ.on E) := fun b r hb =>
  let ⟨h1, h2⟩ := Phi.on_some.1 hb
  let ⟨k1, k2⟩ := h b r h2
  ⟨Phi.on_some.2 ⟨hd b h1, k1⟩, k2⟩
theorem Phi.le_on {φ ψ : Phi} {E : Nat → Prop} (h : φ.le ψ) (hd : ∀ b r, φ.blk b = some r → E b) : φ.le (ψ.on E) := fun b r hb =>
  let ⟨k1, k2⟩ := h b r hb
  ⟨Phi.on_some.2 ⟨hd b r hb, k1⟩, k2⟩

/-! ## The order -/
theorem edgeMask_go (acc : List Nat) (k : Nat) : ∀ (es : List Edge) (m : Nat),
    Nat.testBit (es.foldl (fun m e => bif Region.binds .any e then Nat.lor m (Nat.lor (2 ^ e.on) (acc.getD e.on 0)) else m) m) k = true ↔
      Nat.testBit m k = true ∨ ∃ e ∈ es, Region.binds .any e = true ∧ (e.on = k ∨ Nat.testBit (acc.getD e.on 0) k = true) := by
  intro es
  induction es with
  | nil => intro m; simp
  | cons e r ih =>
    intro m
    rw [List.foldl_cons, ih]
    cases hb : Region.binds .any e with
    | false => simp [hb]
    | true =>
      have hl : ∀ a b : Nat, Nat.lor a b = a ||| b := fun _ _ => rfl
      simp only [cond_true, hl, Nat.testBit_or, Nat.testBit_two_pow, Bool.or_eq_true, decide_eq_true_eq, List.mem_cons]
      constructor
      · rintro ((h | h | h) | ⟨e', h1, h2⟩)
        · exact .inl h
        · exact .inr ⟨e, .inl rfl, hb, .inl h⟩
        · exact .inr ⟨e, .inl rfl, hb, .inr h⟩
        · exact .inr ⟨e', .inr h1, h2⟩
      · rintro (h | ⟨e', rfl | h1, h2, h3⟩)
        · exact .inl (.inl h)
        · exact .inl (.inr h3)
        · exact .inr ⟨e', h1, h2, h3⟩

theorem edgeMask_bit (acc : List Nat) (es : List Edge) (k : Nat) :
    Nat.testBit (edgeMask acc es) k = true ↔ ∃ e ∈ es, Region.binds .any e = true ∧ (e.on = k ∨ Nat.testBit (acc.getD e.on 0) k = true) := by
  unfold edgeMask
  rw [edgeMask_go]
  simp

theorem masksGo_pre : ∀ (l : List Oper) (acc : List Nat), ∃ t, masksGo l acc = acc ++ t := by
  intro l
  induction l with
  | nil => intro acc; exact ⟨[], by simp [masksGo]⟩
  | cons o r ih =>
    intro acc
    obtain ⟨t, ht⟩ := ih (acc ++ [edgeMask acc o.after.toList])
    exact ⟨edgeMask acc o.after.toList :: t, by rw [masksGo, ht]; simp⟩

theorem masksGo_get : ∀ (l : List Oper) (acc : List Nat) (k : Nat) (o : Oper), l[k]? = some o →
    (masksGo l acc).getD (acc.length + k) 0 = edgeMask ((masksGo l acc).take (acc.length + k)) o.after.toList := by
  intro l
  induction l with
  | nil => intro acc k o h; simp at h
  | cons x r ih =>
    intro acc k o h
    cases k with
    | zero =>
      simp only [List.getElem?_cons_zero, Option.some.injEq] at h
      subst h
      obtain ⟨t, ht⟩ := masksGo_pre r (acc ++ [edgeMask acc x.after.toList])
      rw [masksGo, ht]
      simp [List.getD_eq_getElem?_getD]
    | succ k =>
      rw [masksGo]
      have := ih (acc ++ [edgeMask acc x.after.toList]) k o (by simpa using h)
      rw [show (acc ++ [edgeMask acc x.after.toList]).length + k = acc.length + (k + 1) by simp; omega] at this
      exact this

section
variable {ops : Array Oper}

theorem mask_eq {i : Nat} {o : Oper} (ho : ops[i]? = some o) : (masks ops).getD i 0 = edgeMask ((masks ops).take i) o.after.toList := by
  have := masksGo_get ops.toList [] i o (by simpa using ho)
  simpa [masks] using this

structure Ord (ops : Array Oper) : Prop where
  below : ∀ i k, i < ops.size → before (masks ops) k i = true → k < i
  trans : ∀ i j k, i < ops.size → before (masks ops) j i = true → before (masks ops) k j = true → before (masks ops) k i = true
  dst : ∀ i j d, i < ops.size → j < ops.size → dstAt ops i = some d → dstAt ops j = some d → i = j
  apart : ∀ i j, i < ops.size → j < i → before (masks ops) j i = true ∨ apartAt ops j i = true

theorem Ord.of (h : drawOk ops (masks ops) = true) : Ord ops := by
  unfold drawOk at h
  rw [List.all_eq_true] at h
  have hb : ∀ i k, i < ops.size → before (masks ops) k i = true → k < i := by
    intro i k hi hk
    have h1 := h i (List.mem_range.2 hi)
    rw [Bool.and_eq_true] at h1
    have h2 := blt_iff.1 h1.1
    apply Classical.byContradiction
    intro hlt
    unfold before at hk
    rw [Nat.testBit_lt_two_pow (Nat.lt_of_lt_of_le h2 (Nat.pow_le_pow_right (by omega) (by omega)))] at hk
    cases hk
  have hp : ∀ i j, i < ops.size → j < i → dstsApart ops j i = true ∧ (before (masks ops) j i = true ∨ apartAt ops j i = true) ∧ (before (masks ops) j i = true → Nat.land ((masks ops).getD j 0) ((masks ops).getD i 0) = (masks ops).getD j 0) := by
    intro i j hi hj
    have h1 := h i (List.mem_range.2 hi)
    rw [Bool.and_eq_true, List.all_eq_true] at h1
    have h2 := h1.2 j (List.mem_range.2 hj)
    simp only [Bool.and_eq_true, Bool.or_eq_true, Bool.not_eq_true'] at h2
    refine ⟨h2.1.1, h2.1.2, fun hbf => ?_⟩
    rcases h2.2 with h3 | h3
    · rw [h3] at hbf; cases hbf
    · exact Nat.eq_of_beq_eq_true h3
  refine ⟨hb, ?_, ?_, fun i j hi hj => (hp i j hi hj).2.1⟩
  · intro i j k hi h1 h2
    have h3 := (hp i j hi (hb i j hi h1)).2.2 h1
    unfold before at h2 ⊢
    rw [← h3] at h2
    have hl : ∀ a b : Nat, Nat.land a b = a &&& b := fun _ _ => rfl
    rw [hl, Nat.testBit_and, Bool.and_eq_true] at h2
    exact h2.2
  · intro i j d hi hj h1 h2
    have key : ∀ i j, i < ops.size → j < i → dstAt ops i = some d → dstAt ops j = some d → False := by
      intro i j hi hj h1 h2
      have h3 := (hp i j hi hj).1
      unfold dstsApart at h3
      rw [h1, h2] at h3
      simp at h3
    rcases Nat.lt_trichotomy i j with hlt | he | hgt
    · exact (key j i hj hlt h2 h1).elim
    · exact he
    · exact (key i j hi hgt h1 h2).elim

theorem mask_edge {i : Nat} {o : Oper} (ho : ops[i]? = some o) {e : Edge} (he : e ∈ o.after) (hb : Region.binds .any e = true) : before (masks ops) e.on i = true := by
  unfold before
  rw [mask_eq ho, edgeMask_bit]
  exact ⟨e, by simpa using he, hb, .inl rfl⟩

theorem mask_split {i k : Nat} {o : Oper} (ho : ops[i]? = some o) (h : before (masks ops) k i = true) : ∃ e ∈ o.after, Region.binds .any e = true ∧ (e.on = k ∨ before (masks ops) k e.on = true) := by
  unfold before at h
  rw [mask_eq ho, edgeMask_bit] at h
  obtain ⟨e, h1, h2, h3⟩ := h
  refine ⟨e, by simpa using h1, h2, h3.imp id fun h4 => ?_⟩
  unfold before
  rw [List.getD_eq_getElem?_getD, List.getElem?_take] at h4
  split at h4
  · rw [List.getD_eq_getElem?_getD]; exact h4
  · simp at h4

end

/-! ## The trace -/
theorem eraseAll_get : ∀ (l : List Nat) (h : Tr AObj) (b : Nat), (eraseAll h l).get b = if b ∈ l then none else h.get b := by
  intro l
  induction l with
  | nil => intro h b; simp [eraseAll]
  | cons x r ih =>
    intro h b
    unfold eraseAll at ih ⊢
    rw [List.foldl_cons, ih, Tr.get_set]
    by_cases h1 : b ∈ r
    · simp [h1]
    · by_cases h2 : b = x <;> simp [h1, h2]

theorem putNew_get : ∀ (l : List Nat) (h src : Tr AObj) (b : Nat), (putNew h src l).get b = if b ∈ l then src.get b else h.get b := by
  intro l
  induction l with
  | nil => intro h src b; simp [putNew]
  | cons x r ih =>
    intro h src b
    unfold putNew at ih ⊢
    rw [List.foldl_cons, ih, Tr.get_set]
    by_cases h1 : b ∈ r
    · simp [h1]
    · by_cases h2 : b = x
      · subst h2; simp
      · simp [h1, h2]

section
variable {P : Program} {call : CallF} {ops : Array Oper} {T : Nat → AS} {A : Nat → AAct}

def nxs (T : Nat → AS) (i : Nat) : List Nat := (List.range (i + 1)).map fun k => (T k).next
theorem nxs_getD {i j : Nat} (h : j ≤ i) : (nxs T i).getD j 0 = (T j).next := by
  unfold nxs
  rw [List.getD_eq_getElem?_getD, List.getElem?_map, List.getElem?_range (by omega)]
  rfl
theorem nxs_succ (i : Nat) : nxs T (i + 1) = nxs T i ++ [(T (i + 1)).next] := by
  unfold nxs
  rw [List.range_succ (n := i + 1), List.map_append]
  rfl

def Trace (P : Program) (call : CallF) (ops : Array Oper) (T : Nat → AS) (A : Nat → AAct) : Prop :=
  ∀ i o, ops[i]? = some o → stepD P call ops (masks ops) (nxs T i) i o (A i) (T i) = some (A (i + 1), T (i + 1))

theorem nxs_congr {T' : Nat → AS} {i : Nat} (h : ∀ k, k ≤ i → T' k = T k) : nxs T' i = nxs T i := by
  unfold nxs
  exact List.map_congr_left fun k hk => by rw [h k (by have := List.mem_range.1 hk; omega)]

theorem trace_go (ms : List Nat) : ∀ (k i : Nat) (T0 : Nat → AS) (A0 : Nat → AAct) (a' : AAct) (s' : AS), evDrawGo P call ops ms k i (nxs T0 i) (A0 i) (T0 i) = some (a', s') →
    ∃ (T : Nat → AS) (A : Nat → AAct), (∀ j, j ≤ i → T j = T0 j ∧ A j = A0 j) ∧ T (i + k) = s' ∧ A (i + k) = a' ∧
      ∀ j o, i ≤ j → j < i + k → ops[j]? = some o → stepD P call ops ms (nxs T j) j o (A j) (T j) = some (A (j + 1), T (j + 1)) := by
  intro k
  induction k with
  | zero =>
    intro i T0 A0 a' s' h
    cases h
    exact ⟨T0, A0, fun _ _ => ⟨rfl, rfl⟩, rfl, rfl, fun j o h1 h2 => by omega⟩
  | succ k ih =>
    intro i T0 A0 a' s' h
    unfold evDrawGo at h
    split at h
    · rename_i o ho
      split at h
      · rename_i a1 s1 h1
        obtain ⟨T, A, q1, q2, q3, q4⟩ := ih (i + 1) (fun j => if j = i + 1 then s1 else T0 j) (fun j => if j = i + 1 then a1 else A0 j) a' s' (by
          simp only [if_true]
          rw [nxs_succ]
          simp only [if_true]
          rw [nxs_congr (T := T0) (fun k hk => by rw [if_neg (by omega)])]
          exact h)
        have hT : ∀ j, j ≤ i → T j = T0 j := fun j hj => by rw [(q1 j (by omega)).1, if_neg (by omega)]
        have hA : ∀ j, j ≤ i → A j = A0 j := fun j hj => by rw [(q1 j (by omega)).2, if_neg (by omega)]
        refine ⟨T, A, fun j hj => ⟨hT j hj, hA j hj⟩, by rw [← q2]; congr 1; omega, by rw [← q3]; congr 1; omega, fun j o' h2 h3 h4 => ?_⟩
        by_cases he : j = i
        · subst he
          rw [ho] at h4; cases h4
          rw [nxs_congr hT, hT j (Nat.le_refl _), hA j (Nat.le_refl _), (q1 (j + 1) (Nat.le_refl _)).1, (q1 (j + 1) (Nat.le_refl _)).2]
          simpa using h1
        · exact q4 j o' (by omega) (by omega) h4
      · cases h
    · cases h

theorem trace_of {a a' : AAct} {s s' : AS} (h : evDraw P call ops a s = some (a', s')) :
    Ord ops ∧ ∃ (T : Nat → AS) (A : Nat → AAct), Trace P call ops T A ∧ T 0 = s ∧ A 0 = a ∧ T ops.size = s' ∧ A ops.size = a' := by
  unfold evDraw at h
  cases hd : drawOk ops (masks ops) with
  | false => rw [hd] at h; cases h
  | true =>
    rw [hd, cond_true] at h
    obtain ⟨T, A, q1, q2, q3, q4⟩ := trace_go (masks ops) ops.size 0 (fun _ => s) (fun _ => a) a' s' (by simpa [nxs] using h)
    refine ⟨Ord.of hd, T, A, fun i o ho => q4 i o (Nat.zero_le _) ?_ ho, (q1 0 (Nat.le_refl _)).1, (q1 0 (Nat.le_refl _)).2, by simpa using q2, by simpa using q3⟩
    have := (Array.getElem?_eq_some_iff.1 ho).1
    omega

/-- What a step did. -/
inductive SF (P : Program) (call : CallF) (ops : Array Oper) (T : Nat → AS) (A : Nat → AAct) (i : Nat) (o : Oper) : Prop
  | un (h1 : Region.wanted o (yieldedA ops (A i)) = false) (h2 : T (i + 1) = T i) (h3 : (A i).put o.dst undef = some (A (i + 1)))
  | p (v : Value) (s' : AS) (h1 : Region.wanted o (yieldedA ops (A i)) = true) (h2 : pAt ops i = true) (h3 : evVal P call o (A i).eval { next := (T i).next, lock := (T i).next, heap := .leaf } = some (v, none, s'))
      (h4 : s'.next = (T i).next) (h5 : T (i + 1) = T i) (h6 : (A i).put o.dst v = some (A (i + 1)))
  | w (v : Value) (d : Option Deferred) (h1 : Region.wanted o (yieldedA ops (A i)) = true) (h2 : pAt ops i = false) (h3 : isW ops (masks ops) i = true) (h4 : evVal P call o (A i).eval (T i) = some (v, d, T (i + 1)))
      (h5 : (T i).next ≤ (T (i + 1)).next) (h6 : (addD (A i) d).put o.dst v = some (A (i + 1)))
  | v (v : Value) (s' : AS) (h1 : Region.wanted o (yieldedA ops (A i)) = true) (h2 : pAt ops i = false) (h3 : isW ops (masks ops) i = false)
      (h4 : evVal P call o (A i).eval { next := (T i).next, lock := (T i).next, heap := eraseAll (T i).heap (eraseIds ops (masks ops) (nxs T i) i) } = some (v, none, s'))
      (h5 : (T i).next ≤ s'.next) (h6 : T (i + 1) = { next := s'.next, lock := (T i).lock, heap := putNew (T i).heap s'.heap (List.range' (T i).next (s'.next - (T i).next)) }) (h7 : (A i).put o.dst v = some (A (i + 1)))

theorem Trace.sf (h : Trace P call ops T A) {i : Nat} {o : Oper} (ho : ops[i]? = some o) : SF P call ops T A i o := by
  have h := h i o ho
  have hpa : pAt ops i = isP o.op := by unfold pAt; rw [ho]
  unfold stepD at h
  cases hw : Region.wanted o (yieldedA ops (A i)) with
  | false =>
    rw [hw, cond_false] at h
    obtain ⟨h1, h2⟩ := andPut_some h
    exact .un hw h2.symm h1
  | true =>
    rw [hw, cond_true] at h
    cases hp : isP o.op with
    | true =>
      rw [hp, cond_true] at h
      split at h
      · rename_i v s' he
        cases hb : Nat.beq s'.next (T i).next with
        | false => rw [hb] at h; cases h
        | true =>
          rw [hb, cond_true] at h
          obtain ⟨h1, h2⟩ := andPut_some h
          exact .p v s' hw (by rw [hpa, hp]) he (Nat.eq_of_beq_eq_true hb) h2.symm h1
      · cases h
    | false =>
      rw [hp, cond_false] at h
      cases hW : isW ops (masks ops) i with
      | true =>
        rw [hW, cond_true] at h
        split at h
        · rename_i v d s' he
          cases hb : Nat.ble (T i).next s'.next with
          | false => rw [hb] at h; cases h
          | true =>
            rw [hb, cond_true] at h
            obtain ⟨h1, h2⟩ := andPut_some h
            subst h2
            exact .w v d hw (by rw [hpa, hp]) hW he (Nat.le_of_ble_eq_true hb) h1
        · cases h
      | false =>
        rw [hW, cond_false] at h
        split at h
        · rename_i v s' he
          cases hb : Nat.ble (T i).next s'.next with
          | false => rw [hb] at h; cases h
          | true =>
            rw [hb, cond_true] at h
            obtain ⟨h1, h2⟩ := andPut_some h
            exact .v v s' hw (by rw [hpa, hp]) hW he (Nat.le_of_ble_eq_true hb) h2.symm h1
        · cases h

end
end Go.Aw
