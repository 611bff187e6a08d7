/- The abstract machine, part S: regions that draw their order: every order ends as the text's. -/
import Derived.Test.YthaodoaaefhhcaaGreatDoorAwR
namespace Go.Aw
open Go Go.RowKit
set_option linter.unusedVariables false
set_option linter.unusedSimpArgs false

section
variable {P : Program} {base : Nat} {call : CallF} {ops : Array Oper} {T : Nat → AS} {A : Nat → AAct} {φ0 : Phi} {w0 : World} {S : Nat → Prop} {c : Nat} {φ : Phi} {g : Nat → Option AObj} {ra : Act} {w : World}
variable (htr : Trace P call ops T A) (hord : Ord ops) (hlk : (T 0).lock ≤ (T 0).next) (hgl : ∀ y, y < P.globals.size → y < (T 0).next) (I : Inv P base ops T A φ0 w0 S c φ g ra w)

include htr I hlk in
theorem full {i : Nat} (hci : c ≤ i) (hi : i ≤ ops.size) (h1 : ∀ k, k < i → pAt ops k = false → S k) (h2 : ∀ k, i ≤ k → pAt ops k = false → ¬ S k) :
    Rel P base φ (T i) w ∧ (∀ b o, (T i).get b = some o → g b = some o) ∧ (A i).defers = (A c).defers ∧ (T i).lock = (T 0).lock ∧ ∀ b, b < (T 0).lock → (T i).get b = g b := by
  obtain ⟨q1, q2, q3, q4, q5⟩ := calm htr hci hi fun k k1 k2 => by
    cases hp : pAt ops k with
    | true => exact .inl rfl
    | false => exact .inr (I.cW k k1 (h1 k k2 hp) hp)
  have hpS : ∀ k b, k < i → (T k).next ≤ b → b < (T (k + 1)).next → S k := fun k b k1 k2 k3 => h1 k k1 (by
    cases hp : pAt ops k with
    | false => rfl
    | true => have := p_range htr (by omega) hp; omega)
  have hg : ∀ b o, (T i).get b = some o → g b = some o := fun b o hb => by
    rcases q3 b o I.wf hb with h | ⟨k, k1, k2, k3, k4⟩
    · rw [I.g1 b h, ← q1 b h]; exact hb
    · rw [I.g2 k b k1 (hpS k b k2 k3 k4) k3 k4, ← q2 k b k1 k2 k3 k4]; exact hb
  have hlc : (T i).lock = (T 0).lock := q4.trans I.lock
  refine ⟨⟨fun b hb => ?_, I.inb, fun b o hb => ?_, fun b b' o o' r e1 e2 e3 e4 => I.inj b b' o o' r (hg _ _ e1) (hg _ _ e2) e3 e4, I.glob, I.bas, ?_⟩, hg, q5, hlc, fun b hb => ?_⟩
  · cases hx : φ.blk b with
    | none => rfl
    | some r =>
      exfalso
      have := next_mono htr (i := c) (j := i) hci hi
      rcases I.sup b r hx with h | ⟨k, k1, k2, k3, k4⟩
      · omega
      · have hkn := I.sn k k2
        have hp : pAt ops k = false := by
          cases hp : pAt ops k with
          | false => rfl
          | true => have := p_range htr (by omega) hp; omega
        rcases Nat.lt_or_ge k i with hlt | hge
        · have := next_mono htr (i := k + 1) (j := i) (by omega) hi
          omega
        · exact h2 k hge hp k2
  · obtain ⟨r, e1, e2, e3⟩ := I.live b o (hg b o hb)
    refine ⟨r, e1, ?_, fun hl => e2 (by rw [hlc] at hl; exact hl)⟩
    rcases e3 with ⟨e3, e4⟩ | ⟨k, k1, k2, k3, k4, k5⟩
    · exact e4.mono Phi.on_le (Phi.on_some.2 ⟨e3, e1⟩)
    · exact k5.mono Phi.on_le (Phi.on_some.2 ⟨.inr ⟨k3, k4⟩, e1⟩)
  · rw [hlc]; exact Nat.le_trans hlk (next_mono htr (Nat.zero_le _) hi)
  · have := next_mono htr (i := 0) (j := c) (Nat.zero_le _) I.cle
    rw [q1 b (by omega), I.g1 b (by omega)]

include htr hord I hlk in
/-- What a 'W' leaves. -/
theorem inv_w {i : Nat} (hi : i < ops.size) (hS : ¬ S i) (hr : ∀ k, before (masks ops) k i = true → S k) (hp : pAt ops i = false) (hw : isW ops (masks ops) i = true)
    {χ : Phi} {w' : World} {v v' : Value} {d d' : Option Deferred} (hrel : Rel P base χ (T (i + 1)) w') (hgr : Gr φ (T i) w χ (T (i + 1)) w') (hv : VRel χ v v') (hd : DO χ d d')
    (hput : (addD (A i) d).put (dstAt ops i) v = some (A (i + 1))) :
    Inv P base ops T A φ0 w0 (fun k => S k ∨ k = i) (i + 1) χ (T (i + 1)).get ((addR ra d').put (dstAt ops i) v') w' := by
  have hci : c ≤ i := by
    rcases Nat.lt_or_ge i c with h | h
    · exact (hS (I.cS i h hp)).elim
    · exact h
  have hcomp : ∀ k, k < ops.size → k ≠ i → pAt ops k = false → before (masks ops) k i = true ∨ before (masks ops) i k = true := fun k hk hne hpk => by
    unfold isW at hw
    rw [List.all_eq_true] at hw
    have := hw k (List.mem_range.2 hk)
    rw [hpk, Bool.or_false, Bool.or_eq_true] at this
    rcases this with h | h
    · exact (hne (Nat.eq_of_beq_eq_true h)).elim
    · unfold compB at h; rwa [Bool.or_eq_true] at h
  have h1 : ∀ k, k < i → pAt ops k = false → S k := fun k hk hpk => by
    rcases hcomp k (by omega) (by omega) hpk with h | h
    · exact hr k h
    · have := hord.below k i (by omega) h; omega
  have h2 : ∀ k, i < k → pAt ops k = false → ¬ S k := fun k hk hpk hSk => by
    rcases hcomp k (I.sn k hSk) (by omega) hpk with h | h
    · have := hord.below i k hi h; omega
    · exact hS (I.cl k i hSk h)
  obtain ⟨f1, f2, f3, f4, f5⟩ := full htr hlk I hci (by omega) h1 fun k hk hpk hSk => by
    by_cases he : k = i
    · subst he; exact hS hSk
    · exact h2 k (by omega) hpk hSk
  have hslot : ∀ e, dstAt ops i = some e → e < (addR ra d').tmps.size := fun e he => by
    have := (at_step htr hi).2.2 e he
    rw [n_eq htr (by omega), ← I.size] at this
    cases d' <;> exact this
  have htm : (addR ra d').tmps = ra.tmps := by cases d' <;> rfl
  have hdq : ∀ b, b < (T (i + 1)).next → Dq ops T i b := fun b hb => by
    by_cases hbi : b < (T i).next
    · refine .inl ⟨hbi, fun k k1 k2 k3 => ?_⟩
      rcases hcomp k (by omega) (by omega) k2 with h | h
      · rw [h] at k3; cases k3
      · have := hord.below k i (by omega) h; omega
    · exact .inr ⟨by omega, hb⟩
  have hfr : ∀ b r, χ.blk b = some r → b < (T (i + 1)).next := fun b r hb => by
    apply Classical.byContradiction
    intro hn
    rw [hrel.fresh b (by omega)] at hb; cases hb
  have hpr : ∀ k b, (T k).next ≤ b → b < (T (k + 1)).next → k < ops.size → pAt ops k = false := fun k b k1 k2 k3 => by
    cases hpk : pAt ops k with
    | false => rfl
    | true => have := p_range htr k3 hpk; omega
  refine ⟨?_, ?_, hi, ?_, ?_, .inr ⟨i, rfl, hw, hp⟩, ?_, by rw [hgr.lock, f4], fun b r hb => .inl (hfr b r hb), hrel.inb, fun _ _ => rfl, ?_, ?_, hrel.inj, hrel.glob, hrel.bas, ?_, ?_, ?_, ?_, ?_⟩
  · rintro j k (h | h) hb
    · exact .inl (I.cl j k h hb)
    · subst h; exact .inl (hr k hb)
  · rintro j (h | h)
    · exact I.sn j h
    · omega
  · intro k hk hpk
    by_cases he : k = i
    · exact .inr he
    · exact .inl (h1 k (by omega) hpk)
  · rintro k hk (h | h) hpk
    · exact (h2 k hk hpk h).elim
    · omega
  · intro b hb
    cases hx : (T (i + 1)).get b with
    | none => rfl
    | some o =>
      obtain ⟨r, h, _⟩ := hrel.live b o hx
      rw [hrel.fresh b hb] at h; cases h
  · rintro k b hk (h | h) h3 h4
    · exact (h2 k hk (hpr k b h3 h4 (I.sn k h)) h).elim
    · omega
  · intro b o hb
    obtain ⟨r, e1, e2, e3⟩ := hrel.live b o hb
    exact ⟨r, e1, fun hl => e3 (by rw [hgr.lock, f4]; exact hl), .inl ⟨hfr b r e1, e2.mono (Phi.le_on χ.le_refl hfr) e1⟩⟩
  · rintro j t (h | h) hd'
    · rw [putR_getD hslot, if_neg fun he => hS (by rw [hord.dst i j t hi (I.sn j h) he hd']; exact h), htm]
      exact (I.env1 j t h hd').mono (Phi.on_mono hgr.le fun _ h => h)
    · subst h
      rw [putR_getD hslot, if_pos hd', put_at hput, if_pos hd']
      exact hv.mono (Phi.le_on χ.le_refl fun b r hb => hdq b (hfr b r hb))
  · intro t ht
    rw [putR_getD hslot, if_neg (ht i (.inr rfl)), htm]
    exact (I.env2 t fun j hj => ht j (.inl hj)).mono (Phi.on_mono hgr.le fun _ h => h)
  · have : ((addR ra d').put (dstAt ops i) v').tmps.size = (addR ra d').tmps.size := by cases dstAt ops i <;> simp [Act.put]
    rw [this, htm, I.size]
  · have e1 : ((addR ra d').put (dstAt ops i) v').defers = (addR ra d').defers := by cases dstAt ops i <;> rfl
    have e2 : (A (i + 1)).defers = (addD (A i) d).defers := (put_n hput).2.1
    have hle : (φ.on (· < (T c).next)).le (χ.on (· < (T (i + 1)).next)) := Phi.on_mono hgr.le fun b hb => Nat.lt_of_lt_of_le hb (next_mono htr (by omega) (by omega))
    have base' : LR (DR (χ.on (· < (T (i + 1)).next))) (A i).defers ra.defers := by
      rw [f3]; exact I.dfr.mono fun _ _ k => k.mono hle
    rw [e1, e2]
    cases hd with
    | none => exact base'
    | some d d' k => exact .cons (k.mono (Phi.le_on χ.le_refl hfr)) base'
  · have hN := next_mono htr (i := 0) (j := i) (Nat.zero_le _) (by omega)
    refine ⟨I.gr.le.trans hgr.le, fun b hb => (hgr.same b (by omega)).trans (I.gr.same b hb), fun b hb => by rw [hgr.keep b (by rw [f4]; exact hb), f5 b hb]; exact I.gr.keep b hb, hgr.os.trans I.gr.os, hgr.tape.trans I.gr.tape, hgr.output.trans I.gr.output,
      Nat.le_trans I.gr.size hgr.size, fun r e1 e2 => ?_, fun b o' r e1 e2 e3 e4 => ?_⟩
    · refine (hgr.frame r (Nat.lt_of_lt_of_le e1 I.gr.size) fun b o hl hb hx => ?_).trans (I.gr.frame r e1 e2)
      rw [f4] at hl
      obtain ⟨b0, o0, q1, q2, q3⟩ := I.gr.back b o r (f2 b o hb) hl hx e1
      exact e2 b0 o0 q1 q2 q3
    · obtain ⟨b1, o1, q1, q2, q3⟩ := hgr.back b o' r e1 (by rw [f4]; exact e2) e3 (Nat.lt_of_lt_of_le e4 I.gr.size)
      rw [f4] at q1
      exact I.gr.back b1 o1 r (f2 b1 o1 q2) q1 q3 e4

include htr hgl in
theorem glob_Dp {i : Nat} (hi : i < ops.size) (y : Nat) (hy : y < P.globals.size) : Dp ops T i y := by
  have h0 := hgl y hy
  refine ⟨Nat.lt_of_lt_of_le h0 (next_mono htr (Nat.zero_le _) (by omega)), fun k k1 k2 k3 k4 => ?_⟩
  have := next_mono htr (i := 0) (j := k) (Nat.zero_le _) (by omega)
  omega

include htr hord I hlk hgl in
/-- One operation more, at any moment at which its order lets it run. -/
theorem step_ok (hP : POk P) (hcall : CallOk P call) {i : Nat} {o : Oper} (ho : ops[i]? = some o) (hS : ¬ S i) (hr : ∀ k, before (masks ops) k i = true → S k) {Q : Exit → Act → World → Prop} :
    wpOp P ops Q i (fun ra' w' => ∃ c' φ' g', Inv P base ops T A φ0 w0 (fun k => S k ∨ k = i) c' φ' g' ra' w') ra w := by
  have hi := (Array.getElem?_eq_some_iff.1 ho).1
  have hd := dstAt_eq ho
  unfold wpOp
  rw [ho]
  simp only
  rw [wanted_at htr hord I ho hS hr]
  have hev : ∀ x ∈ o.op.operands, constOk P x = true → VRel (φ.on (Dp ops T i)) ((A i).eval x) (ra.eval x) := fun x hx hc => eval_at htr hord I ho hS hr x hx hc fun y hy => glob_Dp htr hgl hi y hy
  have hglob : ∀ y, y < P.globals.size → (φ.on (Dp ops T i)).blk y = some y := fun y hy => Phi.on_some.2 ⟨glob_Dp htr hgl hi y hy, I.glob y hy⟩
  rcases htr.sf ho with ⟨h1, h2, h3⟩ | ⟨v, s', h1, h2, h3, h4, h5, h6⟩ | ⟨v, d, h1, h2, h3, h4, h5, h6⟩ | ⟨v, s', h1, h2, h3, h4, h5, h6, h7⟩
  · rw [h1, if_neg (by simp)]
    rw [← hd] at h3 ⊢
    by_cases hw : pAt ops i = true ∨ isW ops (masks ops) i = false
    · refine ⟨c, φ, g, inv_calm htr hord I hi hS hr hw hlk φ.le_refl (fun b _ => ⟨rfl, rfl⟩) (fun b q1 q2 => ?_) (fun b b' o o' r q1 q2 q3 q4 => ?_) (Nat.le_refl _) rfl rfl rfl (fun _ _ => rfl) VRel.undef fun t ht => by rw [put_at h3, if_pos ht]⟩
      · rw [h2] at q2; omega
      · rw [h2] at q3; omega
    · have hp : pAt ops i = false := by cases hx : pAt ops i with
        | true => exact (hw (.inl hx)).elim
        | false => rfl
      have hW : isW ops (masks ops) i = true := by cases hx : isW ops (masks ops) i with
        | true => rfl
        | false => exact (hw (.inr hx)).elim
      have hci : c ≤ i := by
        rcases Nat.lt_or_ge i c with h | h
        · exact (hS (I.cS i h hp)).elim
        · exact h
      have hcomp : ∀ k, k < ops.size → k ≠ i → pAt ops k = false → before (masks ops) k i = true ∨ before (masks ops) i k = true := fun k hk hne hpk => by
        unfold isW at hW
        rw [List.all_eq_true] at hW
        have := hW k (List.mem_range.2 hk)
        rw [hpk, Bool.or_false, Bool.or_eq_true] at this
        rcases this with h | h
        · exact (hne (Nat.eq_of_beq_eq_true h)).elim
        · unfold compB at h; rwa [Bool.or_eq_true] at h
      obtain ⟨f1, _⟩ := full htr hlk I hci (by omega) (fun k hk hpk => by
        rcases hcomp k (by omega) (by omega) hpk with h | h
        · exact hr k h
        · have := hord.below k i (by omega) h; omega) fun k hk hpk hSk => by
        by_cases he : k = i
        · subst he; exact hS hSk
        · rcases hcomp k (I.sn k hSk) he hpk with h | h
          · have := hord.below i k hi h; omega
          · exact hS (I.cl k i hSk h)
      exact ⟨i + 1, φ, _, inv_w htr hord hlk I (d := none) (d' := none) hi hS hr hp hW (by rw [h2]; exact f1) (by rw [h2]; exact Gr.refl _ _ _) VRel.undef .none h3⟩
  · rw [h1, if_pos rfl]
    have hrel : Rel P base (φ.on (Dp ops T i)) { next := (T i).next, lock := (T i).next, heap := .leaf } w := by
      refine ⟨fun b hb => Phi.on_none fun h => ?_, fun b r hb => I.inb b r (Phi.on_some.1 hb).2, fun b o hb => ?_, fun b b' o o' r q1 => ?_, hglob, I.bas, Nat.le_refl _⟩
      · have h1 := h.1
        have h2 : (T i).next ≤ b := hb
        omega
      · cases hb
      · cases q1
    refine .inl (Oper.wp_mono ?_ (evVal_ok hP hcall h3 hrel hev))
    rintro ra' w' ⟨χ, v', d', k1, k2, rfl, k3, k4⟩
    cases k2
    rw [← hd] at h6 ⊢
    have hχ : χ.le (φ.on (Dq ops T i)) := fun b r hb => by
      have hlt : b < (T i).next := by
        apply Classical.byContradiction
        intro hn
        rw [k3.fresh b (by rw [h4]; omega)] at hb; cases hb
      rw [k4.same b hlt] at hb
      obtain ⟨q1, q2⟩ := Phi.on_some.1 hb
      exact ⟨Phi.on_some.2 ⟨.inl q1, q2⟩, ((k4.le b r hb).2).symm⟩
    refine ⟨c, φ, g, inv_calm htr hord I hi hS hr (.inl h2) hlk φ.le_refl (fun b _ => ⟨rfl, rfl⟩) (fun b q1 q2 => ?_) (fun b b' o o' r q1 q2 q3 q4 => ?_) k4.size k4.os k4.tape k4.output (fun r q => k4.frame r q fun b o _ hb => ?_) (k1.mono hχ) fun t ht => by rw [put_at h6, if_pos ht]⟩
    · rw [h5] at q2; omega
    · rw [h5] at q3; omega
    · cases hb
  · rw [h1, if_pos rfl]
    have hci : c ≤ i := by
      rcases Nat.lt_or_ge i c with h | h
      · exact (hS (I.cS i h h2)).elim
      · exact h
    have hcomp : ∀ k, k < ops.size → k ≠ i → pAt ops k = false → before (masks ops) k i = true ∨ before (masks ops) i k = true := fun k hk hne hpk => by
      unfold isW at h3
      rw [List.all_eq_true] at h3
      have := h3 k (List.mem_range.2 hk)
      rw [hpk, Bool.or_false, Bool.or_eq_true] at this
      rcases this with h | h
      · exact (hne (Nat.eq_of_beq_eq_true h)).elim
      · unfold compB at h; rwa [Bool.or_eq_true] at h
    obtain ⟨f1, _⟩ := full htr hlk I hci (by omega) (fun k hk hpk => by
      rcases hcomp k (by omega) (by omega) hpk with h | h
      · exact hr k h
      · have := hord.below k i (by omega) h; omega) fun k hk hpk hSk => by
      by_cases he : k = i
      · subst he; exact hS hSk
      · rcases hcomp k (I.sn k hSk) he hpk with h | h
        · have := hord.below i k hi h; omega
        · exact hS (I.cl k i hSk h)
    refine .inl (Oper.wp_mono ?_ (evVal_ok hP hcall h4 f1 fun x hx hc => (hev x hx hc).mono Phi.on_le))
    rintro ra' w' ⟨χ, v', d', k1, k2, rfl, k3, k4⟩
    rw [← hd] at h6 ⊢
    exact ⟨i + 1, χ, _, inv_w htr hord hlk I hi hS hr h2 h3 k3 k4 k1 k2 h6⟩
  · rw [h1, if_pos rfl]
    have hci : c ≤ i := by
      rcases Nat.lt_or_ge i c with h | h
      · exact (hS (I.cS i h h2)).elim
      · exact h
    have hN : (T (i + 1)).next = s'.next := by rw [h6]
    obtain ⟨q1, q2, q3, q4, q5⟩ := calm htr hci (by omega) fun k k1 k2 => by
      cases hp : pAt ops k with
      | true => exact .inl rfl
      | false =>
        refine .inr ?_
        cases hx : isW ops (masks ops) k with
        | false => rfl
        | true =>
          exfalso
          have hb : before (masks ops) k i = true := by
            unfold isW at hx
            rw [List.all_eq_true] at hx
            have := hx i (List.mem_range.2 hi)
            rw [h2, Bool.or_false, Bool.or_eq_true] at this
            rcases this with h | h
            · have := Nat.eq_of_beq_eq_true h; omega
            · unfold compB at h
              rw [Bool.or_eq_true] at h
              rcases h with h | h
              · have := hord.below k i (by omega) h; omega
              · exact h
          have := I.cW k k1 (hr k hb) hp
          rw [hx] at this; cases this
    have hnb : ∀ k b, k < i → (T k).next ≤ b → b < (T (k + 1)).next → ¬ b ∈ eraseIds ops (masks ops) (nxs T i) i → before (masks ops) k i = true := fun k b k1 k2 k3 k4 => by
      cases hbf : before (masks ops) k i with
      | true => rfl
      | false =>
        refine (k4 (mem_erase.2 ⟨k, k1, ?_, hbf, k2, k3⟩)).elim
        cases hp : pAt ops k with
        | false => rfl
        | true => have := p_range htr (by omega) hp; omega
    have hsub : ∀ b o, (eraseAll (T i).heap (eraseIds ops (masks ops) (nxs T i) i)).get b = some o → g b = some o ∧ Dp ops T i b := by
      intro b o hb
      rw [eraseAll_get] at hb
      by_cases hm : b ∈ eraseIds ops (masks ops) (nxs T i) i
      · rw [if_pos hm] at hb; cases hb
      · rw [if_neg hm] at hb
        have hb' : (T i).get b = some o := hb
        have hdp : ∀ (_ : b < (T i).next), Dp ops T i b := fun hlt => ⟨hlt, fun k k1 k2 k3 k4 => hm (mem_erase.2 ⟨k, k1, k2, k3, k4.1, k4.2⟩)⟩
        rcases q3 b o I.wf hb' with h | ⟨k, k1, k2, k3, k4⟩
        · refine ⟨by rw [I.g1 b h, ← q1 b h]; exact hb', hdp (Nat.lt_of_lt_of_le h (next_mono htr hci (by omega)))⟩
        · refine ⟨?_, hdp (Nat.lt_of_lt_of_le k4 (next_mono htr (by omega) (by omega)))⟩
          rw [I.g2 k b k1 (hr k (hnb k b k2 k3 k4 hm)) k3 k4, ← q2 k b k1 k2 k3 k4]
          exact hb'
    have hrel : Rel P base (φ.on (Dp ops T i)) { next := (T i).next, lock := (T i).next, heap := eraseAll (T i).heap (eraseIds ops (masks ops) (nxs T i) i) } w := by
      refine ⟨fun b hb => Phi.on_none fun h => ?_, fun b r hb => I.inb b r (Phi.on_some.1 hb).2, fun b o hb => ?_, fun b b' o o' r e1 e2 e3 e4 => I.inj b b' o o' r (hsub b o e1).1 (hsub b' o' e2).1 (Phi.on_some.1 e3).2 (Phi.on_some.1 e4).2, hglob, I.bas, Nat.le_refl _⟩
      · have h1 := h.1
        have h2 : (T i).next ≤ b := hb
        omega
      · obtain ⟨e1, e2⟩ := hsub b o hb
        obtain ⟨r, e3, e4, e5⟩ := I.live b o e1
        refine ⟨r, Phi.on_some.2 ⟨e2, e3⟩, ?_, fun hl => ?_⟩
        · rcases e5 with ⟨e5, e6⟩ | ⟨k, k1, k2, k3, k4, k5⟩
          · refine e6.mono (Phi.on_mono φ.le_refl fun b' hb' => ⟨Nat.lt_of_lt_of_le hb' (next_mono htr hci (by omega)), fun k k1 k2 k3 k4 => ?_⟩) (Phi.on_some.2 ⟨e5, e3⟩)
            have hkc : k < c := by
              apply Classical.byContradiction
              intro hn
              have := next_mono htr (i := c) (j := k) (by omega) (by omega)
              omega
            rcases I.cL with h | ⟨l, l1, l2, l3⟩
            · omega
            · have comp : ∀ j, j < ops.size → j ≠ l → pAt ops j = false → before (masks ops) j l = true ∨ before (masks ops) l j = true := fun j hj hne hpj => by
                unfold isW at l2
                rw [List.all_eq_true] at l2
                have := l2 j (List.mem_range.2 hj)
                rw [hpj, Bool.or_false, Bool.or_eq_true] at this
                rcases this with h | h
                · exact (hne (Nat.eq_of_beq_eq_true h)).elim
                · unfold compB at h; rwa [Bool.or_eq_true] at h
              have hli : before (masks ops) l i = true := by
                rcases comp i hi (by omega) h2 with h | h
                · have := hord.below l i (by omega) h; omega
                · exact h
              by_cases hkl : k = l
              · subst hkl; rw [hli] at k3; cases k3
              · rcases comp k (by omega) hkl k2 with h | h
                · rw [hord.trans i l k hi hli h] at k3; cases k3
                · have := hord.below k l (by omega) h; omega
          · have hki : k < i := by
              apply Classical.byContradiction
              intro hn
              have := next_mono htr (i := i) (j := k) (by omega) (by have := I.sn k k2; omega)
              have := e2.1
              omega
            have hbk : before (masks ops) k i = true := hnb k b hki k3 k4 fun hm => by
              have hb2 : (eraseAll (T i).heap (eraseIds ops (masks ops) (nxs T i) i)).get b = some o := hb
              rw [eraseAll_get, if_pos hm] at hb2; cases hb2
            exact k5.mono (Phi.on_mono φ.le_refl fun b' hb' => Dq_sub htr hord hi hbk hb') (Phi.on_some.2 ⟨.inr ⟨k3, k4⟩, e3⟩)
        · have h1 := e2.1
          have h2 : (T i).next ≤ b := hl
          omega
    refine .inl (Oper.wp_mono ?_ (evVal_ok hP hcall h4 hrel hev))
    rintro ra' w' ⟨χ, v', d', k1, k2, rfl, k3, k4⟩
    cases k2
    rw [← hd] at h7 ⊢
    have hnone : ∀ b, (T i).next ≤ b → b < (T (i + 1)).next → φ.blk b = none := fun b e1 e2 => by
      cases hx : φ.blk b with
      | none => rfl
      | some r =>
        exfalso
        rcases I.sup b r hx with h | ⟨k, j1, j2, j3, j4⟩
        · have := next_mono htr hci (by omega); omega
        · exact hS (by rw [range_uniq htr hi (I.sn k j2) e1 e2 j3 j4]; exact j2)
    have hown : ∀ b, (T i).next ≤ b → b < (T (i + 1)).next → (T (i + 1)).get b = s'.get b := fun b e1 e2 => by
      rw [hN] at e2
      rw [h6]
      show (putNew _ _ _).get b = _
      rw [putNew_get, if_pos (by rw [List.mem_range'_1]; omega)]
      rfl
    let φ' : Phi := ⟨fun b => if (T i).next ≤ b ∧ b < (T (i + 1)).next then χ.blk b else φ.blk b, fun b => if (T i).next ≤ b ∧ b < (T (i + 1)).next then χ.cap b else φ.cap b⟩
    have hle : φ.le φ' := fun b r hb => by
      have hn : ¬ ((T i).next ≤ b ∧ b < (T (i + 1)).next) := fun ⟨e1, e2⟩ => by rw [hnone b e1 e2] at hb; cases hb
      exact ⟨by simp only [φ', if_neg hn]; exact hb, by simp only [φ', if_neg hn]⟩
    have hχ : χ.le (φ'.on (Dq ops T i)) := fun b r hb => by
      have hlt : b < s'.next := by
        apply Classical.byContradiction
        intro hn
        rw [k3.fresh b (by omega)] at hb; cases hb
      by_cases hbi : b < (T i).next
      · have hn : ¬ ((T i).next ≤ b ∧ b < (T (i + 1)).next) := by omega
        rw [k4.same b hbi] at hb
        obtain ⟨e1, e2⟩ := Phi.on_some.1 hb
        refine ⟨Phi.on_some.2 ⟨.inl e1, by simp only [φ', if_neg hn]; exact e2⟩, ?_⟩
        show φ'.cap b = χ.cap b
        simp only [φ', if_neg hn]
        exact ((k4.le b r hb).2).symm
      · have hp : (T i).next ≤ b ∧ b < (T (i + 1)).next := by omega
        exact ⟨Phi.on_some.2 ⟨.inr hp, by simp only [φ', if_pos hp]; exact hb⟩, by show φ'.cap b = χ.cap b; simp only [φ', if_pos hp]⟩
    have hbig : ∀ b o r, (T i).next ≤ b → s'.get b = some o → χ.blk b = some r → w.heap.size ≤ r := fun b o r e1 e2 e3 => by
      apply Classical.byContradiction
      intro hn
      obtain ⟨b0, o0, j1, j2, j3⟩ := k4.back b o r e2 e1 e3 (by omega)
      have := (hsub b0 o0 j2).2.1
      have j1' : (T i).next ≤ b0 := j1
      omega
    refine ⟨c, φ', fun b => if (T i).next ≤ b ∧ b < (T (i + 1)).next then s'.get b else g b, inv_calm htr hord I hi hS hr (.inr h3) hlk hle (fun b hb => ⟨by simp only [φ', if_neg hb], by simp only [if_neg hb]⟩) (fun b e1 e2 => ⟨hci, ?_, fun r hb => ?_, fun o hb => ?_⟩)
      (fun b b' o o' r e1 e2 e3 e4 e5 e6 e7 e8 => ?_) k4.size k4.os k4.tape k4.output (fun r q => k4.frame r q fun b o hl hb => ?_) (k1.mono hχ) fun t ht => by rw [put_at h7, if_pos ht]⟩
    · simp only [if_pos (And.intro e1 e2)]
      rw [hown b e1 e2]
    · simp only [φ', if_pos (And.intro e1 e2)] at hb
      exact k3.inb b r hb
    · simp only [if_pos (And.intro e1 e2)] at hb
      obtain ⟨r, j1, j2, j3⟩ := k3.live b o hb
      exact ⟨r, by simp only [φ', if_pos (And.intro e1 e2)]; exact j1, hbig b o r e1 hb j1, j2.mono hχ j1⟩
    · simp only [φ', if_pos (And.intro e1 e3), if_pos (And.intro e2 e4)] at e5 e6 e7 e8
      exact k3.inj b b' o o' r e5 e6 e7 e8
    · have := (hsub b o hb).2.1
      have hl' : (T i).next ≤ b := hl
      omega

end

/-! ## The region -/
section
variable {P : Program} {base : Nat} {call : CallF} {ops : Array Oper} {T : Nat → AS} {A : Nat → AAct} {φ0 : Phi} {w0 : World}

theorem ready_iff {listed : Array Bool} {i : Nat} : i ∈ Region.ready .any ops listed ↔ ∃ o, ops[i]? = some o ∧ listed.getD i true = false ∧ ∀ e ∈ o.after, Region.binds .any e = true → listed.getD e.on false = true := by
  unfold Region.ready
  rw [List.mem_filter, List.mem_range]
  constructor
  · rintro ⟨h1, h2⟩
    refine ⟨ops[i], Array.getElem?_eq_getElem h1, ?_⟩
    rw [Array.getElem?_eq_getElem h1, Bool.and_eq_true, Bool.not_eq_true'] at h2
    refine ⟨h2.1, fun e he hb => ?_⟩
    have h3 := h2.2
    simp only [Option.map_some, Option.getD_some, Array.all_eq_true_iff_forall_mem] at h3
    have := h3 e he
    rw [hb] at this
    simpa using this
  · rintro ⟨o, h1, h2, h3⟩
    refine ⟨(Array.getElem?_eq_some_iff.1 h1).1, ?_⟩
    rw [h1, h2]
    simp only [Option.map_some, Option.getD_some, Bool.not_false, Bool.true_and, Array.all_eq_true_iff_forall_mem]
    intro e he
    cases hb : Region.binds .any e with
    | false => rfl
    | true => rw [h3 e he hb]; rfl

theorem getD_true {listed : Array Bool} {i : Nat} : listed.getD i false = true ↔ listed[i]? = some true := by
  rw [Array.getD_eq_getD_getElem?]
  cases listed[i]? with
  | none => simp
  | some b => simp
theorem getD_false {listed : Array Bool} {i : Nat} : listed.getD i true = false ↔ listed[i]? = some false := by
  rw [Array.getD_eq_getD_getElem?]
  cases listed[i]? with
  | none => simp
  | some b => simp

theorem draw_go (htr : Trace P call ops T A) (hord : Ord ops) (hlk : (T 0).lock ≤ (T 0).next) (hgl : ∀ y, y < P.globals.size → y < (T 0).next) (hP : POk P) (hcall : CallOk P call) {Q : Exit → Act → World → Prop}
    (hQ : ∀ (S : Nat → Prop) c φ g ra w, (∀ i, i < ops.size → S i) → Inv P base ops T A φ0 w0 S c φ g ra w → Q .normal ra w) :
    ∀ (fuel : Nat) (listed : Array Bool) (c : Nat) (φ : Phi) (g : Nat → Option AObj) (ra : Act) (w : World), listed.size = ops.size → listed.toList.count false = fuel → Inv P base ops T A φ0 w0 (fun i => listed[i]? = some true) c φ g ra w →
      wpAny P .any ops Q fuel listed ra w := by
  have done : ∀ (listed : Array Bool) (c : Nat) (φ : Phi) (g : Nat → Option AObj) (ra : Act) (w : World), listed.size = ops.size → Inv P base ops T A φ0 w0 (fun i => listed[i]? = some true) c φ g ra w → Region.ready .any ops listed = [] → Q .normal ra w := by
    intro listed c φ g ra w hsz I hr
    refine hQ _ c φ g ra w (fun i hi => ?_) I
    induction i using Nat.strongRecOn with
    | _ i ih =>
      cases hx : listed[i]? with
      | none => rw [Array.getElem?_eq_none_iff] at hx; omega
      | some b =>
        cases b with
        | true => rfl
        | false =>
          exfalso
          have : i ∈ Region.ready .any ops listed := ready_iff.2 ⟨ops[i], Array.getElem?_eq_getElem hi, getD_false.2 hx, fun e he hb => by
            have h1 := mask_edge (Array.getElem?_eq_getElem hi) he hb
            have h2 := hord.below i e.on hi h1
            exact getD_true.2 (ih e.on h2 (by omega))⟩
          rw [hr] at this
          cases this
  intro fuel
  induction fuel with
  | zero =>
    intro listed c φ g ra w hsz hc I
    have hr : Region.ready .any ops listed = [] := by
      rw [List.eq_nil_iff_forall_not_mem]
      intro i hi
      obtain ⟨o, h1, h2, h3⟩ := ready_iff.1 hi
      have h4 := getD_false.1 h2
      rw [List.count_eq_zero] at hc
      exact hc (by rw [Array.mem_toList_iff]; exact Array.mem_of_getElem? h4)
    exact ⟨hr, done listed c φ g ra w hsz I hr⟩
  | succ fuel ih =>
    intro listed c φ g ra w hsz hc I
    refine ⟨done listed c φ g ra w hsz I, fun i hi => ?_⟩
    obtain ⟨o, h1, h2, h3⟩ := ready_iff.1 hi
    have h4 := getD_false.1 h2
    have hil : i < listed.size := (Array.getElem?_eq_some_iff.1 h4).1
    refine wpOp_mono ?_ (step_ok htr hord hlk hgl I hP hcall h1 (by rw [h4]; simp) fun k hk => ?_)
    · rintro ra' w' ⟨c', φ', g', I'⟩
      have hS : (fun k => listed[k]? = some true ∨ k = i) = fun k => (listed.setIfInBounds i true)[k]? = some true := by
        funext k
        rw [Array.getElem?_setIfInBounds]
        by_cases hk : i = k
        · subst hk; simp [hil]
        · rw [if_neg hk]
          have : k ≠ i := fun e => hk e.symm
          simp [this]
      rw [hS] at I'
      refine ih _ c' φ' g' ra' w' (by simp [hsz]) ?_ I'
      have hg : listed.toList[i]? = some false := by simpa using h4
      have hlt : i < listed.toList.length := by simpa using hil
      have hge : listed.toList[i] = false := by
        have := List.getElem?_eq_getElem hlt
        rw [this] at hg
        exact Option.some.inj hg
      rw [Array.toList_setIfInBounds, List.count_set hlt, hc, hge]
      simp
    · obtain ⟨e, q1, q2, q3⟩ := mask_split h1 hk
      have q4 := getD_true.1 (h3 e q1 q2)
      rcases q3 with q3 | q3
      · rw [← q3]; exact q4
      · exact I.cl e.on k q4 q3

theorem draw_ok (hm : P.follows .mixedOrders = true) (hP : POk P) (hcall : CallOk P call) {id : Nat} {φ : Phi} {a a' : AAct} {s s' : AS} {ra : Act} {w : World} {Q : Exit → Act → World → Prop}
    (h : evDraw P call ops a s = some (a', s')) (hrel : Rel P base φ s w) (ha : ActR φ a ra) (hQ : ∀ ra' w', Behind P base φ s w a' s' ra' w' → Q .normal ra' w') :
    (Code.region id ops true).wp P Q ra w := by
  obtain ⟨hord, T, A, htr, rfl, rfl, rfl, rfl⟩ := trace_of h
  have hfr : ∀ b r, φ.blk b = some r → b < (T 0).next := fun b r hb => by
    apply Classical.byContradiction
    intro hn
    rw [hrel.fresh b (by omega)] at hb; cases hb
  have hgl : ∀ y, y < P.globals.size → y < (T 0).next := fun y hy => hfr y y (hrel.glob y hy)
  have hon : φ.le (φ.on (· < (T 0).next)) := Phi.le_on φ.le_refl hfr
  refine wp_region_any hm (draw_go (base := base) (φ0 := φ) (w0 := w) htr hord hrel.lk hgl hP hcall (fun S c χ g rb x hS I => ?_) ops.size _ 0 φ (T 0).get ra _ (by simp) (by simp) ?_)
  · obtain ⟨f1, f2, f3, f4, f5⟩ := full htr hrel.lk I I.cle (Nat.le_refl _) (fun k hk _ => hS k hk) fun k hk _ hSk => by
      have := I.sn k hSk; omega
    refine hQ rb x ⟨χ, ⟨by rw [I.size, n_eq htr (Nat.le_refl _)], fun t => ?_, by rw [f3]; exact I.dfr.mono fun _ _ k => k.mono Phi.on_le⟩, f1, ?_⟩
    · by_cases hx : ∃ j, j < ops.size ∧ dstAt ops j = some t
      · obtain ⟨j, hj, hd⟩ := hx
        rw [at_between htr (i := j + 1) (j := ops.size) (by omega) (Nat.le_refl _) fun k k1 k2 he => by have := hord.dst k j t k2 hj he hd; omega]
        exact (I.env1 j t (hS j hj) hd).mono Phi.on_le
      · rw [at_between htr (i := 0) (j := ops.size) (Nat.zero_le _) (Nat.le_refl _) fun k k1 k2 he => hx ⟨k, k2, he⟩]
        exact (I.env2 t fun j hj he => hx ⟨j, I.sn j hj, he⟩).mono Phi.on_le
    · exact ⟨I.gr.le, next_mono htr (Nat.zero_le _) (Nat.le_refl _), I.gr.same, f4, fun b hb => (f5 b hb).trans (I.gr.keep b hb), I.gr.os, I.gr.tape, I.gr.output, I.gr.size, I.gr.frame, fun b o' r h1 h2 h3 h4 => I.gr.back b o' r (f2 b o' h1) h2 h3 h4⟩
  · have hno : ∀ k, ¬ (Array.replicate ops.size false)[k]? = some true := fun k hk => by
      rw [Array.getElem?_replicate] at hk
      split at hk <;> cases hk
    refine ⟨fun i k hi => (hno i hi).elim, fun i hi => (hno i hi).elim, Nat.zero_le _, fun i hi => by omega, fun i _ hi => (hno i hi).elim, .inl rfl, fun b hb => ?_, rfl, fun b r hb => .inl (hfr b r hb), hrel.inb, fun _ _ => rfl, fun k b _ hk => (hno k hk).elim, fun b o hb => ?_,
      hrel.inj, hrel.glob, hrel.bas, fun j t hj => (hno j hj).elim, fun t _ => (ha.at_ t).mono hon, ha.size, ha.defers.mono fun _ _ k => k.mono hon, ?_⟩
    · cases hx : (T 0).get b with
      | none => rfl
      | some o =>
        obtain ⟨r, h, _⟩ := hrel.live b o hx
        have := hfr b r h; omega
    · obtain ⟨r, h1, h2, h3⟩ := hrel.live b o hb
      exact ⟨r, h1, h3, .inl ⟨hfr b r h1, (h2.mono hon h1).congr rfl⟩⟩
    · exact ⟨φ.le_refl, fun _ _ => rfl, fun _ _ => rfl, rfl, rfl, rfl, Nat.le_refl _, fun _ _ _ => rfl, fun b o' r h1 h2 h3 _ => ⟨b, o', h2, h1, h3⟩⟩

end
end Go.Aw
