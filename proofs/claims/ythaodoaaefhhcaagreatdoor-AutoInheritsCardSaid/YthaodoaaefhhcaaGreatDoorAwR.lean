/- The abstract machine, part R: regions that draw their order: the steps. -/
import Derived.Test.YthaodoaaefhhcaaGreatDoorAwQ
namespace Go.Aw
open Go Go.RowKit
set_option linter.unusedVariables false
set_option linter.unusedSimpArgs false

theorem putR_getD {ra : Act} {dst : Option Tmp} {v : Value} {t : Nat} (h : ∀ d, dst = some d → d < ra.tmps.size) :
    (ra.put dst v).tmps.getD t undef = if dst = some t then v else ra.tmps.getD t undef := by
  cases dst with
  | none => simp [Act.put]
  | some d =>
    have hd := h d rfl
    simp only [Act.put, Array.getD_eq_getD_getElem?, Array.getElem?_setIfInBounds, Option.some.injEq]
    by_cases he : d = t
    · subst he; simp [hd]
    · rw [if_neg he, if_neg he]

section
variable {P : Program} {base : Nat} {call : CallF} {ops : Array Oper} {T : Nat → AS} {A : Nat → AAct} {φ0 : Phi} {w0 : World} {S : Nat → Prop} {c : Nat} {φ : Phi} {g : Nat → Option AObj} {ra : Act} {w : World}

theorem dstAt_eq {i : Nat} {o : Oper} (ho : ops[i]? = some o) : dstAt ops i = o.dst := by unfold dstAt; rw [ho]; rfl

theorem looks_apart {i j t : Nat} {o : Oper} (ho : ops[i]? = some o) (ht : t ∈ o.looksAt ops) (hd : dstAt ops j = some t) : apartAt ops i j = false ∧ apartAt ops j i = false := by
  unfold apartAt
  rw [ho]
  unfold dstAt at hd
  cases hj : ops[j]? with
  | none => exact ⟨rfl, rfl⟩
  | some y =>
    rw [hj] at hd
    simp only [Option.bind_some] at hd
    refine ⟨?_, ?_⟩
    · show o.apart ops y = false
      cases h : o.apart ops y with
      | false => rfl
      | true => exact ((Oper.apart_spec h).2.2 t hd ht).elim
    · show y.apart ops o = false
      cases h : y.apart ops o with
      | false => rfl
      | true => exact ((Oper.apart_spec h).1 t hd ht).elim

variable (htr : Trace P call ops T A) (hord : Ord ops) (hlk : (T 0).lock ≤ (T 0).next) (I : Inv P base ops T A φ0 w0 S c φ g ra w)
include htr hord I

theorem env_at {i : Nat} {o : Oper} (ho : ops[i]? = some o) (hS : ¬ S i) (hr : ∀ k, before (masks ops) k i = true → S k) {t : Nat} (ht : t ∈ o.looksAt ops) :
    VRel (φ.on (Dp ops T i)) ((A i).at t) (ra.tmps.getD t undef) := by
  have hi := (Array.getElem?_eq_some_iff.1 ho).1
  have old : (∀ j, j < ops.size → dstAt ops j = some t → i ≤ j) → (∀ j, S j → dstAt ops j ≠ some t) → VRel (φ.on (Dp ops T i)) ((A i).at t) (ra.tmps.getD t undef) := by
    intro h1 h2
    rw [at_between htr (i := 0) (j := i) (Nat.zero_le _) (by omega) fun k k1 k2 he => by have := h1 k (by omega) he; omega]
    refine (I.env2 t h2).mono (Phi.on_mono φ.le_refl fun b hb => ⟨Nat.lt_of_lt_of_le hb (next_mono htr (Nat.zero_le _) (by omega)), fun k k1 k2 k3 k4 => ?_⟩)
    have := next_mono htr (i := 0) (j := k) (Nat.zero_le _) (by omega)
    omega
  by_cases hx : ∃ j, j < ops.size ∧ dstAt ops j = some t
  · obtain ⟨j, hj, hd⟩ := hx
    have huniq : ∀ k, k < ops.size → dstAt ops k = some t → k = j := fun k hk hkd => hord.dst k j t hk hj hkd hd
    rcases Nat.lt_trichotomy j i with hlt | he | hgt
    · have hb : before (masks ops) j i = true := by
        rcases hord.apart i j hi hlt with h | h
        · exact h
        · rw [(looks_apart ho ht hd).2] at h; cases h
      have hSj := hr j hb
      rw [at_between htr (i := j + 1) (j := i) (by omega) (by omega) fun k k1 k2 he => by have := huniq k (by omega) he; omega]
      exact (I.env1 j t hSj hd).mono (Phi.on_mono φ.le_refl fun b hb' => Dq_sub htr hord hi hb hb')
    · subst he
      exact old (fun k hk hkd => by rw [huniq k hk hkd]; exact Nat.le_refl _) fun k hk hkd => hS (by rw [← huniq k (I.sn k hk) hkd]; exact hk)
    · have hb : before (masks ops) i j = true := by
        rcases hord.apart j i hj hgt with h | h
        · exact h
        · rw [(looks_apart ho ht hd).1] at h; cases h
      exact old (fun k hk hkd => by rw [huniq k hk hkd]; omega) fun k hk hkd => hS (I.cl j i (by rw [← huniq k (I.sn k hk) hkd]; exact hk) hb)
  · exact old (fun j hj hd => absurd ⟨j, hj, hd⟩ hx) fun j hj hd => hx ⟨j, I.sn j hj, hd⟩

theorem eval_at {i : Nat} {o : Oper} (ho : ops[i]? = some o) (hS : ¬ S i) (hr : ∀ k, before (masks ops) k i = true → S k) (x : Operand) (hx : x ∈ o.op.operands) (hc : constOk P x = true) (hg : ∀ y, y < P.globals.size → Dp ops T i y) :
    VRel (φ.on (Dp ops T i)) ((A i).eval x) (ra.eval x) := by
  cases x with
  | tmp t => exact env_at htr hord I ho hS hr (List.mem_append_left _ (List.mem_filterMap.2 ⟨.tmp t, by simpa using hx, rfl⟩))
  | const v => exact (plain_rel hc).1
  | global y => exact .ptr y 0 y (Phi.on_some.2 ⟨hg y (blt_iff.1 hc), I.glob y (blt_iff.1 hc)⟩)
  | func f => exact .func (.func f) #[] #[] #[] #[] rfl rfl (fun i v v' h _ => by simp at h) rfl (fun i v v' h _ => by simp at h)

theorem wanted_at {i : Nat} {o : Oper} (ho : ops[i]? = some o) (hS : ¬ S i) (hr : ∀ k, before (masks ops) k i = true → S k) :
    Region.wanted o (yielded ops ra.tmps) = Region.wanted o (yieldedA ops (A i)) := by
  unfold Region.wanted
  cases hg : o.guard with
  | none => rfl
  | some gw =>
    obtain ⟨x, want⟩ := gw
    simp only
    rw [yielded_eq' (φ := φ.on (Dp ops T i)) (a := A i) fun d hd => env_at htr hord I ho hS hr (by unfold Oper.looksAt; rw [hg]; simp only [hd]; simp)]

/-- One more operation that writes to no older block. -/
theorem inv_calm {i : Nat} (hi : i < ops.size) (hS : ¬ S i) (hr : ∀ k, before (masks ops) k i = true → S k) (hw : pAt ops i = true ∨ isW ops (masks ops) i = false)
    {φ' : Phi} {g' : Nat → Option AObj} {w' : World} {v v' : Value} (hlk : (T 0).lock ≤ (T 0).next) (hle : φ.le φ')
    (hout : ∀ b, ¬ ((T i).next ≤ b ∧ b < (T (i + 1)).next) → φ'.blk b = φ.blk b ∧ g' b = g b)
    (hown : ∀ b, (T i).next ≤ b → b < (T (i + 1)).next → c ≤ i ∧ g' b = (T (i + 1)).get b ∧ (∀ r, φ'.blk b = some r → r < w'.heap.size) ∧
      ∀ o, g' b = some o → ∃ r, φ'.blk b = some r ∧ w.heap.size ≤ r ∧ ORel P (φ'.on (Dq ops T i)) w' b o r)
    (hinj : ∀ b b' o o' r, (T i).next ≤ b → (T i).next ≤ b' → b < (T (i + 1)).next → b' < (T (i + 1)).next → g' b = some o → g' b' = some o' → φ'.blk b = some r → φ'.blk b' = some r → b = b')
    (hsz : w.heap.size ≤ w'.heap.size) (hos : w'.os = w.os) (htape : w'.tape = w.tape) (houtp : w'.output = w.output) (hfr : ∀ r, r < w.heap.size → w'.heap[r]? = w.heap[r]?)
    (hv : VRel (φ'.on (Dq ops T i)) v v') (hat : ∀ t, dstAt ops i = some t → (A (i + 1)).at t = v) :
    Inv P base ops T A φ0 w0 (fun k => S k ∨ k = i) c φ' g' (ra.put (dstAt ops i) v') w' := by
  have hN0 : ∀ b, b < (T 0).next → ¬ ((T i).next ≤ b ∧ b < (T (i + 1)).next) := fun b hb h => by
    have := next_mono htr (i := 0) (j := i) (Nat.zero_le _) (by omega)
    omega
  have hslot : ∀ d, dstAt ops i = some d → d < ra.tmps.size := fun d hd => by
    have := (at_step htr hi).2.2 d hd
    rw [n_eq htr (by omega)] at this
    rw [I.size]; exact this
  have hold : ∀ b o r D, φ.blk b = some r → ORel P (φ.on D) w b o r → D b → ORel P (φ'.on D) w' b o r := fun b o r D hb ho hD =>
    (ho.mono (Phi.on_mono hle fun _ h => h) (Phi.on_some.2 ⟨hD, hb⟩)).congr (hfr r (I.inb b r hb))
  refine ⟨?_, ?_, I.cle, fun k h1 h2 => .inl (I.cS k h1 h2), ?_, I.cL, I.wf, I.lock, ?_, ?_, ?_, ?_, ?_, ?_, fun x hx => (hle _ _ (I.glob x hx)).1, Nat.le_trans I.bas hsz, ?_, ?_, ?_, ?_, ?_⟩
  · rintro j k (h | h) hb
    · exact .inl (I.cl j k h hb)
    · subst h; exact .inl (hr k hb)
  · rintro j (h | h)
    · exact I.sn j h
    · omega
  · rintro j h1 (h | h) h2
    · exact I.cW j h1 h h2
    · subst h
      rcases hw with hw | hw
      · rw [hw] at h2; cases h2
      · exact hw
  · intro b r hb
    by_cases ho : (T i).next ≤ b ∧ b < (T (i + 1)).next
    · exact .inr ⟨i, (hown b ho.1 ho.2).1, .inr rfl, ho.1, ho.2⟩
    · rw [(hout b ho).1] at hb
      rcases I.sup b r hb with h | ⟨k, k1, k2, k3⟩
      · exact .inl h
      · exact .inr ⟨k, k1, .inl k2, k3⟩
  · intro b r hb
    by_cases ho : (T i).next ≤ b ∧ b < (T (i + 1)).next
    · exact (hown b ho.1 ho.2).2.2.1 r hb
    · rw [(hout b ho).1] at hb
      exact Nat.lt_of_lt_of_le (I.inb b r hb) hsz
  · intro b hb
    have ho : ¬ ((T i).next ≤ b ∧ b < (T (i + 1)).next) := fun ho => by
      have := next_mono htr (i := c) (j := i) (hown b ho.1 ho.2).1 (by omega)
      omega
    rw [(hout b ho).2, I.g1 b hb]
  · rintro k b h1 (h | h) h2 h3
    · have ho : ¬ ((T i).next ≤ b ∧ b < (T (i + 1)).next) := fun ho => hS (by
        rw [range_uniq htr hi (I.sn k h) ho.1 ho.2 h2 h3]; exact h)
      rw [(hout b ho).2, I.g2 k b h1 h h2 h3]
    · subst h
      exact (hown b h2 h3).2.1
  · intro b o hb
    by_cases ho : (T i).next ≤ b ∧ b < (T (i + 1)).next
    · obtain ⟨r, h1, h2, h3⟩ := (hown b ho.1 ho.2).2.2.2 o hb
      exact ⟨r, h1, fun _ => Nat.le_trans I.bas h2, .inr ⟨i, (hown b ho.1 ho.2).1, .inr rfl, ho.1, ho.2, h3⟩⟩
    · rw [(hout b ho).2] at hb
      obtain ⟨r, h1, h2, h3⟩ := I.live b o hb
      refine ⟨r, by rw [(hout b ho).1]; exact h1, h2, ?_⟩
      rcases h3 with ⟨h3, h4⟩ | ⟨k, k1, k2, k3, k4, k5⟩
      · exact .inl ⟨h3, hold b o r _ h1 h4 h3⟩
      · exact .inr ⟨k, k1, .inl k2, k3, k4, hold b o r _ h1 k5 (.inr ⟨k3, k4⟩)⟩
  · intro b b' o o' r h1 h2 h3 h4
    by_cases hb : (T i).next ≤ b ∧ b < (T (i + 1)).next
    · by_cases hb' : (T i).next ≤ b' ∧ b' < (T (i + 1)).next
      · exact hinj b b' o o' r hb.1 hb'.1 hb.2 hb'.2 h1 h2 h3 h4
      · obtain ⟨r', q1, q2, _⟩ := (hown b hb.1 hb.2).2.2.2 o h1
        rw [h3] at q1; cases q1
        rw [(hout b' hb').1] at h4
        have := I.inb b' r h4
        omega
    · rw [(hout b hb).1] at h3
      by_cases hb' : (T i).next ≤ b' ∧ b' < (T (i + 1)).next
      · obtain ⟨r', q1, q2, _⟩ := (hown b' hb'.1 hb'.2).2.2.2 o' h2
        rw [h4] at q1; cases q1
        have := I.inb b r h3
        omega
      · rw [(hout b' hb').1] at h4
        rw [(hout b hb).2] at h1
        rw [(hout b' hb').2] at h2
        exact I.inj b b' o o' r h1 h2 h3 h4
  · rintro j t (h | h) hd
    · rw [putR_getD hslot, if_neg fun he => hS (by rw [hord.dst i j t hi (I.sn j h) he hd]; exact h)]
      exact (I.env1 j t h hd).mono (Phi.on_mono hle fun _ h => h)
    · subst h
      rw [putR_getD hslot, if_pos hd, hat t hd]
      exact hv
  · intro t ht
    rw [putR_getD hslot, if_neg (ht i (.inr rfl))]
    exact (I.env2 t fun j hj => ht j (.inl hj)).mono (Phi.on_mono hle fun _ h => h)
  · rw [← I.size]; cases dstAt ops i <;> simp [Act.put]
  · have : (ra.put (dstAt ops i) v').defers = ra.defers := by cases dstAt ops i <;> rfl
    rw [this]
    exact I.dfr.mono fun _ _ k => k.mono (Phi.on_mono hle fun _ h => h)
  · refine ⟨I.gr.le.trans hle, fun b hb => by rw [(hout b (hN0 b hb)).1]; exact I.gr.same b hb, fun b hb => by rw [(hout b (hN0 b (by omega))).2]; exact I.gr.keep b hb, hos.trans I.gr.os, htape.trans I.gr.tape, houtp.trans I.gr.output,
      Nat.le_trans I.gr.size hsz, fun r h1 h2 => (hfr r (Nat.lt_of_lt_of_le h1 I.gr.size)).trans (I.gr.frame r h1 h2), fun b o' r h1 h2 h3 h4 => ?_⟩
    by_cases hb : (T i).next ≤ b ∧ b < (T (i + 1)).next
    · obtain ⟨r', q1, q2, _⟩ := (hown b hb.1 hb.2).2.2.2 o' h1
      rw [h3] at q1; cases q1
      have := I.gr.size
      omega
    · rw [(hout b hb).1] at h3
      rw [(hout b hb).2] at h1
      exact I.gr.back b o' r h1 h2 h3 h4

end
end Go.Aw
