/- The abstract machine, part Q: regions that draw their order: what holds when some of the operations are done. -/
import Derived.Test.YthaodoaaefhhcaaGreatDoorAwP
namespace Go.Aw
open Go Go.RowKit
set_option linter.unusedVariables false
set_option linter.unusedSimpArgs false

section
variable {P : Program} {call : CallF} {ops : Array Oper} {T : Nat → AS} {A : Nat → AAct}

theorem mem_erase {i b : Nat} : b ∈ eraseIds ops (masks ops) (nxs T i) i ↔ ∃ j, j < i ∧ pAt ops j = false ∧ before (masks ops) j i = false ∧ (T j).next ≤ b ∧ b < (T (j + 1)).next := by
  unfold eraseIds
  rw [List.mem_flatMap]
  constructor
  · rintro ⟨j, h1, h2⟩
    have hj := List.mem_range.1 h1
    rw [nxs_getD (by omega), nxs_getD (by omega)] at h2
    cases hc : (pAt ops j || before (masks ops) j i) with
    | true => rw [hc, cond_true] at h2; cases h2
    | false =>
      rw [hc, cond_false, List.mem_range'_1] at h2
      rw [Bool.or_eq_false_iff] at hc
      exact ⟨j, hj, hc.1, hc.2, h2.1, by omega⟩
  · rintro ⟨j, hj, h1, h2, h3, h4⟩
    refine ⟨j, List.mem_range.2 hj, ?_⟩
    rw [nxs_getD (by omega), nxs_getD (by omega), h1, h2]
    simp only [Bool.or_self, cond_false, List.mem_range'_1]
    omega

/-- The numbers that one operation may know of. -/
def Dp (ops : Array Oper) (T : Nat → AS) (i : Nat) (b : Nat) : Prop :=
  b < (T i).next ∧ ∀ k, k < i → pAt ops k = false → before (masks ops) k i = false → ¬ ((T k).next ≤ b ∧ b < (T (k + 1)).next)
def Dq (ops : Array Oper) (T : Nat → AS) (i : Nat) (b : Nat) : Prop := Dp ops T i b ∨ ((T i).next ≤ b ∧ b < (T (i + 1)).next)

variable (htr : Trace P call ops T A) (hord : Ord ops)
include htr

theorem next_step {i : Nat} (hi : i < ops.size) : (T i).next ≤ (T (i + 1)).next := by
  rcases htr.sf (Array.getElem?_eq_getElem hi) with ⟨h1, h2, h3⟩ | ⟨v, s', h1, h2, h3, h4, h5, h6⟩ | ⟨v, d, h1, h2, h3, h4, h5, h6⟩ | ⟨v, s', h1, h2, h3, h4, h5, h6, h7⟩
  · rw [h2]; exact Nat.le_refl _
  · rw [h5]; exact Nat.le_refl _
  · exact h5
  · rw [h6]; exact h5

theorem next_mono {i : Nat} : ∀ {j : Nat}, i ≤ j → j ≤ ops.size → (T i).next ≤ (T j).next := by
  intro j
  induction j with
  | zero => intro h1 h2; rw [Nat.le_zero.1 h1]; exact Nat.le_refl _
  | succ j ih =>
    intro h1 h2
    by_cases he : i = j + 1
    · rw [he]; exact Nat.le_refl _
    · exact Nat.le_trans (ih (by omega) (by omega)) (next_step htr (by omega))

theorem range_uniq {i j b : Nat} (hi : i < ops.size) (hj : j < ops.size) (h1 : (T i).next ≤ b) (h2 : b < (T (i + 1)).next) (h3 : (T j).next ≤ b) (h4 : b < (T (j + 1)).next) : i = j := by
  rcases Nat.lt_trichotomy i j with hlt | he | hgt
  · have := next_mono htr (i := i + 1) (j := j) (by omega) (by omega); omega
  · exact he
  · have := next_mono htr (i := j + 1) (j := i) (by omega) (by omega); omega

theorem p_range {i : Nat} (hi : i < ops.size) (hp : pAt ops i = true) : (T (i + 1)).next = (T i).next := by
  rcases htr.sf (Array.getElem?_eq_getElem hi) with ⟨h1, h2, h3⟩ | ⟨v, s', h1, h2, h3, h4, h5, h6⟩ | ⟨v, d, h1, h2, h3, h4, h5, h6⟩ | ⟨v, s', h1, h2, h3, h4, h5, h6, h7⟩
  · rw [h2]
  · rw [h5]
  · rw [hp] at h2; cases h2
  · rw [hp] at h2; cases h2

omit htr in
theorem put_at {a a' : AAct} {dst : Option Tmp} {v : Value} (h : a.put dst v = some a') (t : Nat) : a'.at t = if dst = some t then v else a.at t := by
  unfold AAct.put at h
  cases dst with
  | none => cases h; simp
  | some d =>
    simp only at h
    cases hb : Nat.blt d a.n with
    | false => rw [hb] at h; cases h
    | true =>
      rw [hb, cond_true] at h
      cases h
      simp only [AAct.at, Tr.get_set, Option.some.injEq]
      by_cases he : t = d
      · simp [he]
      · rw [if_neg he, if_neg (fun e => he e.symm)]
omit htr in
theorem put_n {a a' : AAct} {dst : Option Tmp} {v : Value} (h : a.put dst v = some a') : a'.n = a.n ∧ a'.defers = a.defers ∧ ∀ d, dst = some d → d < a.n := by
  unfold AAct.put at h
  cases dst with
  | none => cases h; exact ⟨rfl, rfl, fun d h => by cases h⟩
  | some d =>
    simp only at h
    cases hb : Nat.blt d a.n with
    | false => rw [hb] at h; cases h
    | true =>
      rw [hb, cond_true] at h
      cases h
      exact ⟨rfl, rfl, fun e he => by cases he; exact blt_iff.1 hb⟩
omit htr in
theorem addD_at {a : AAct} {d : Option Deferred} (t : Nat) : (addD a d).at t = a.at t := by cases d <;> rfl
omit htr in
theorem addD_n {a : AAct} {d : Option Deferred} : (addD a d).n = a.n := by cases d <;> rfl

theorem at_step {i : Nat} (hi : i < ops.size) : (A (i + 1)).n = (A i).n ∧ (∀ t, dstAt ops i ≠ some t → (A (i + 1)).at t = (A i).at t) ∧ ∀ t, dstAt ops i = some t → t < (A i).n := by
  have hd : dstAt ops i = (ops[i]).dst := by unfold dstAt; rw [Array.getElem?_eq_getElem hi]; rfl
  rw [hd]
  rcases htr.sf (Array.getElem?_eq_getElem hi) with ⟨h1, h2, h3⟩ | ⟨v, s', h1, h2, h3, h4, h5, h6⟩ | ⟨v, d, h1, h2, h3, h4, h5, h6⟩ | ⟨v, s', h1, h2, h3, h4, h5, h6, h7⟩
  · exact ⟨(put_n h3).1, fun t ht => by rw [put_at h3, if_neg ht], (put_n h3).2.2⟩
  · exact ⟨(put_n h6).1, fun t ht => by rw [put_at h6, if_neg ht], (put_n h6).2.2⟩
  · exact ⟨by rw [(put_n h6).1, addD_n], fun t ht => by rw [put_at h6, if_neg ht, addD_at], fun t ht => by have := (put_n h6).2.2 t ht; rwa [addD_n] at this⟩
  · exact ⟨(put_n h7).1, fun t ht => by rw [put_at h7, if_neg ht], (put_n h7).2.2⟩

theorem n_eq {i : Nat} (hi : i ≤ ops.size) : (A i).n = (A 0).n := by
  induction i with
  | zero => rfl
  | succ i ih => rw [(at_step htr (by omega)).1, ih (by omega)]

theorem at_between {i t : Nat} : ∀ {j : Nat}, i ≤ j → j ≤ ops.size → (∀ k, i ≤ k → k < j → dstAt ops k ≠ some t) → (A j).at t = (A i).at t := by
  intro j
  induction j with
  | zero => intro h1 h2 h3; rw [Nat.le_zero.1 h1]
  | succ j ih =>
    intro h1 h2 h3
    by_cases he : i = j + 1
    · rw [he]
    · rw [(at_step htr (by omega)).2.1 t (h3 j (by omega) (by omega)), ih (by omega) (by omega) fun k k1 k2 => h3 k k1 (by omega)]

/-- A step of no 'W': older blocks are as before. -/
theorem calm_step {i : Nat} (hi : i < ops.size) (hw : pAt ops i = true ∨ isW ops (masks ops) i = false) :
    (∀ b, ¬ ((T i).next ≤ b ∧ b < (T (i + 1)).next) → (T (i + 1)).get b = (T i).get b) ∧ (T (i + 1)).lock = (T i).lock ∧ (A (i + 1)).defers = (A i).defers := by
  rcases htr.sf (Array.getElem?_eq_getElem hi) with ⟨h1, h2, h3⟩ | ⟨v, s', h1, h2, h3, h4, h5, h6⟩ | ⟨v, d, h1, h2, h3, h4, h5, h6⟩ | ⟨v, s', h1, h2, h3, h4, h5, h6, h7⟩
  · rw [h2]; exact ⟨fun _ _ => rfl, rfl, (put_n h3).2.1⟩
  · rw [h5]; exact ⟨fun _ _ => rfl, rfl, (put_n h6).2.1⟩
  · rcases hw with hw | hw
    · rw [hw] at h2; cases h2
    · rw [hw] at h3; cases h3
  · rw [h6]
    refine ⟨fun b hb => ?_, rfl, (put_n h7).2.1⟩
    show (putNew _ _ _).get b = (T i).heap.get b
    rw [putNew_get, if_neg]
    rw [List.mem_range'_1]
    have : (T (i + 1)).next = s'.next := by rw [h6]
    simp only [h6] at hb
    omega

theorem calm {c : Nat} : ∀ {i : Nat}, c ≤ i → i ≤ ops.size → (∀ k, c ≤ k → k < i → pAt ops k = true ∨ isW ops (masks ops) k = false) →
    (∀ b, b < (T c).next → (T i).get b = (T c).get b) ∧ (∀ k b, c ≤ k → k < i → (T k).next ≤ b → b < (T (k + 1)).next → (T i).get b = (T (k + 1)).get b) ∧
    (∀ b o, (∀ b, (T c).next ≤ b → (T c).get b = none) → (T i).get b = some o → b < (T c).next ∨ ∃ k, c ≤ k ∧ k < i ∧ (T k).next ≤ b ∧ b < (T (k + 1)).next) ∧ (T i).lock = (T c).lock ∧ (A i).defers = (A c).defers := by
  intro i
  induction i with
  | zero =>
    intro h1 h2 h3
    rw [Nat.le_zero.1 h1]
    refine ⟨fun _ _ => rfl, fun k b k1 k2 => by omega, fun b o hw hb => .inl ?_, rfl, rfl⟩
    apply Classical.byContradiction
    intro hn
    rw [hw b (by omega)] at hb; cases hb
  | succ i ih =>
    intro h1 h2 h3
    by_cases he : c = i + 1
    · subst he
      refine ⟨fun _ _ => rfl, fun k b k1 k2 => by omega, fun b o hw hb => .inl ?_, rfl, rfl⟩
      apply Classical.byContradiction
      intro hn
      rw [hw b (by omega)] at hb; cases hb
    · obtain ⟨q1, q2, q3, q4, q5⟩ := ih (by omega) (by omega) fun k k1 k2 => h3 k k1 (by omega)
      obtain ⟨p1, p2, p3⟩ := calm_step htr (by omega) (h3 i (by omega) (by omega))
      refine ⟨fun b hb => ?_, fun k b k1 k2 k3 k4 => ?_, fun b o hw hb => ?_, by rw [p2, q4], by rw [p3, q5]⟩
      · have := next_mono htr (i := c) (j := i) (by omega) (by omega)
        rw [p1 b (by omega), q1 b hb]
      · by_cases hk : k = i
        · rw [hk]
        · have := next_mono htr (i := k + 1) (j := i) (by omega) (by omega)
          rw [p1 b (by omega), q2 k b k1 (by omega) k3 k4]
      · by_cases hr : (T i).next ≤ b ∧ b < (T (i + 1)).next
        · exact .inr ⟨i, by omega, by omega, hr.1, hr.2⟩
        · rw [p1 b hr] at hb
          rcases q3 b o hw hb with h | ⟨k, k1, k2, k3⟩
          · exact .inl h
          · exact .inr ⟨k, k1, by omega, k3⟩

theorem Dq_lt {i b : Nat} (hi : i < ops.size) (h : Dq ops T i b) : b < (T (i + 1)).next := by
  rcases h with h | h
  · exact Nat.lt_of_lt_of_le h.1 (next_step htr hi)
  · exact h.2

include hord in
theorem Dq_sub {i j b : Nat} (hi : i < ops.size) (hj : before (masks ops) j i = true) (h : Dq ops T j b) : Dp ops T i b := by
  have hlt := hord.below i j hi hj
  have hb := Dq_lt htr (by omega) h
  refine ⟨Nat.lt_of_lt_of_le hb (next_mono htr (by omega) (by omega)), fun k k1 k2 k3 ⟨k4, k5⟩ => ?_⟩
  rcases Nat.lt_trichotomy k j with hkj | he | hkj
  · rcases h with h | h
    · refine h.2 k hkj k2 ?_ ⟨k4, k5⟩
      cases hbf : before (masks ops) k j with
      | false => rfl
      | true => rw [hord.trans i j k hi hj hbf] at k3; cases k3
    · have := range_uniq htr (by omega) (by omega) k4 k5 h.1 h.2
      omega
  · subst he; rw [hj] at k3; cases k3
  · have := next_mono htr (i := j + 1) (j := k) (by omega) (by omega)
    omega

end

/-! ## What holds -/
structure GrF (φ : Phi) (s : AS) (w : World) (χ : Phi) (g : Nat → Option AObj) (w' : World) : Prop where
  le : φ.le χ
  same : ∀ b, b < s.next → χ.blk b = φ.blk b
  keep : ∀ b, b < s.lock → g b = s.get b
  os : w'.os = w.os
  tape : w'.tape = w.tape
  output : w'.output = w.output
  size : w.heap.size ≤ w'.heap.size
  frame : ∀ r, r < w.heap.size → (∀ b o, s.lock ≤ b → s.get b = some o → φ.blk b ≠ some r) → w'.heap[r]? = w.heap[r]?
  back : ∀ b o' r, g b = some o' → s.lock ≤ b → χ.blk b = some r → r < w.heap.size → ∃ b0 o, s.lock ≤ b0 ∧ s.get b0 = some o ∧ φ.blk b0 = some r

structure Inv (P : Program) (base : Nat) (ops : Array Oper) (T : Nat → AS) (A : Nat → AAct) (φ0 : Phi) (w0 : World) (S : Nat → Prop) (c : Nat) (φ : Phi) (g : Nat → Option AObj) (ra : Act) (w : World) : Prop where
  cl : ∀ i k, S i → before (masks ops) k i = true → S k
  sn : ∀ i, S i → i < ops.size
  cle : c ≤ ops.size
  cS : ∀ i, i < c → pAt ops i = false → S i
  cW : ∀ i, c ≤ i → S i → pAt ops i = false → isW ops (masks ops) i = false
  cL : c = 0 ∨ ∃ l, c = l + 1 ∧ isW ops (masks ops) l = true ∧ pAt ops l = false
  wf : ∀ b, (T c).next ≤ b → (T c).get b = none
  lock : (T c).lock = (T 0).lock
  sup : ∀ b r, φ.blk b = some r → b < (T c).next ∨ ∃ k, c ≤ k ∧ S k ∧ (T k).next ≤ b ∧ b < (T (k + 1)).next
  inb : ∀ b r, φ.blk b = some r → r < w.heap.size
  g1 : ∀ b, b < (T c).next → g b = (T c).get b
  g2 : ∀ k b, c ≤ k → S k → (T k).next ≤ b → b < (T (k + 1)).next → g b = (T (k + 1)).get b
  live : ∀ b o, g b = some o → ∃ r, φ.blk b = some r ∧ ((T 0).lock ≤ b → base ≤ r) ∧
    ((b < (T c).next ∧ ORel P (φ.on (· < (T c).next)) w b o r) ∨ ∃ k, c ≤ k ∧ S k ∧ (T k).next ≤ b ∧ b < (T (k + 1)).next ∧ ORel P (φ.on (Dq ops T k)) w b o r)
  inj : ∀ b b' o o' r, g b = some o → g b' = some o' → φ.blk b = some r → φ.blk b' = some r → b = b'
  glob : ∀ x, x < P.globals.size → φ.blk x = some x
  bas : base ≤ w.heap.size
  env1 : ∀ j t, S j → dstAt ops j = some t → VRel (φ.on (Dq ops T j)) ((A (j + 1)).at t) (ra.tmps.getD t undef)
  env2 : ∀ t, (∀ j, S j → dstAt ops j ≠ some t) → VRel (φ.on (· < (T 0).next)) ((A 0).at t) (ra.tmps.getD t undef)
  size : ra.tmps.size = (A 0).n
  dfr : LR (DR (φ.on (· < (T c).next))) (A c).defers ra.defers
  gr : GrF φ0 (T 0) w0 φ g w

end Go.Aw
