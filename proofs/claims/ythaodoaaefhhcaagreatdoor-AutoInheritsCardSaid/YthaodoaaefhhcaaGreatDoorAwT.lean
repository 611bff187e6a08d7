/- The abstract machine, part T: code and calls. -/
import Derived.Test.YthaodoaaefhhcaaGreatDoorAwS
import Derived.LoopN
import Derived.Scope
namespace Go.Aw
open Go Go.RowKit
set_option linter.unusedVariables false
set_option linter.unusedSimpArgs false

/-! ## A scope -/
def inJumps (P : Program) (c : Code) (Q : Exit → Act → World → Prop) : Nat → Exit → Act → World → Prop
  | n, .goto l, a, w =>
    match findLabel c l with
    | none => Q (.goto l) a w
    | some rest =>
      match n with
      | 0 => False
      | n + 1 => rest.wp P (inJumps P c Q n) a w
  | _, e, a, w => Q e a w

theorem wp_scope_scoped {P : Program} {c : Code} {Q : Exit → Act → World → Prop} {a : Act} {w : World} (n : Nat) (h : c.wp P (inJumps P c Q n) a w) : (Code.scope c).wp P Q a w := by
  intro b k cs
  have key : ∀ n e a w, inJumps P c Q n e a w → ∀ m, Arrives P m b (.inScope c :: k) cs e a w → ∃ e' a' w', Q e' a' w' ∧ Arrives P m b k cs e' a' w' := by
    intro n
    induction n with
    | zero =>
      intro e a₁ w₁ hq m harr
      cases e with
      | normal => exact ⟨.normal, a₁, w₁, by simpa [inJumps] using hq, Steps.trans harr (.one step_inScope)⟩
      | exit id => exact ⟨.exit id, a₁, w₁, by simpa [inJumps] using hq, fun k' hk => harr k' (by simp [exitTo, hk])⟩
      | goto l =>
        unfold inJumps at hq
        cases hf : findLabel c l with
        | none => rw [hf] at hq; exact ⟨_, a₁, w₁, hq, fun k' hk => harr k' (by simp [gotoIn, hf, hk])⟩
        | some rest => rw [hf] at hq; exact hq.elim
      | ret => exact ⟨.ret, a₁, w₁, by simpa [inJumps] using hq, harr⟩
      | panic ch => exact ⟨.panic ch, a₁, w₁, by simpa [inJumps] using hq, harr⟩
      | outgrown => exact ⟨.outgrown, a₁, w₁, by simpa [inJumps] using hq, harr⟩
    | succ n ih =>
      intro e a₁ w₁ hq m harr
      cases e with
      | normal => exact ⟨.normal, a₁, w₁, by simpa [inJumps] using hq, Steps.trans harr (.one step_inScope)⟩
      | exit id => exact ⟨.exit id, a₁, w₁, by simpa [inJumps] using hq, fun k' hk => harr k' (by simp [exitTo, hk])⟩
      | goto l =>
        unfold inJumps at hq
        cases hf : findLabel c l with
        | none => rw [hf] at hq; exact ⟨_, a₁, w₁, hq, fun k' hk => harr k' (by simp [gotoIn, hf, hk])⟩
        | some rest =>
          rw [hf] at hq
          obtain ⟨e₂, a₂, w₂, hq₂, harr₂⟩ := hq b (.inScope c :: k) cs
          exact ih e₂ a₂ w₂ hq₂ m (.of_steps (harr _ (by simp [gotoIn, hf])) harr₂)
      | ret => exact ⟨.ret, a₁, w₁, by simpa [inJumps] using hq, harr⟩
      | panic ch => exact ⟨.panic ch, a₁, w₁, by simpa [inJumps] using hq, harr⟩
      | outgrown => exact ⟨.outgrown, a₁, w₁, by simpa [inJumps] using hq, harr⟩
  obtain ⟨e, a₁, w₁, hq, harr⟩ := h b (.inScope c :: k) cs
  obtain ⟨e', a', w', q1, q2⟩ := key n e a₁ w₁ hq _ harr
  exact ⟨e', a', w', q1, .of_steps (.one step_scope) q2⟩

/-! ## What only reads -/
def Reads {α : Type} : Sem α → Prop
  | .pure _ | .halt _ => True
  | .load _ _ k => ∀ v, Reads (k v)
  | .program k => ∀ p, Reads (k p)
  | .mark _ k => Reads k
  | _ => False

theorem Reads.run {P : Program} {α : Type} : ∀ (x : Sem α), Reads x → ∀ {w a w'}, x.run P w = .ok a w' → w' = w := by
  intro x
  induction x with
  | pure a => intro _ w a' w' h; cases h; rfl
  | halt h => intro _ w a' w' k; cases k
  | load m a k ih =>
    intro h w a' w' hr
    simp only [Sem.run] at hr
    split at hr
    · exact ih _ (h _) hr
    · split at hr
      · exact ih _ (h _) hr
      · cases hr
  | program k ih => intro h w a' w' hr; exact ih P (h P) hr
  | mark m k ih => intro h w a' w' hr; exact ih h hr
  | _ => intro h; cases h

theorem Reads.bind {α β : Type} : ∀ {x : Sem α} {f : α → Sem β}, Reads x → (∀ a, Reads (f a)) → Reads (x >>= f) := by
  intro x f h hf
  show Reads (x.bind f)
  induction x with
  | pure a => exact hf a
  | halt h => trivial
  | load m a k ih => exact fun v => ih v (h v)
  | program k ih => exact fun p => ih p (h p)
  | mark m k ih => exact ih h
  | _ => cases h

theorem Reads.loadVar {t : TypeId} {a : Addr} : Reads (Go.loadVar t a) := by
  unfold Go.loadVar
  have hu : Reads (Go.isAgg t) := by
    unfold Go.isAgg Go.underlying
    refine Reads.bind (Reads.bind (fun p => trivial) fun p => ?_) fun d => ?_
    · split <;> trivial
    · split <;> trivial
  refine Reads.bind hu fun b => ?_
  split
  · refine Reads.bind ?_ fun n => Reads.bind ?_ fun c => trivial
    · unfold Go.sizeOf Go.typeInfo
      refine Reads.bind (Reads.bind (fun p => trivial) fun p => ?_) fun d => trivial
      split <;> trivial
    · unfold Go.loadCells
      have : ∀ (n i : Nat) (acc : Array Value), Reads (Go.loadCellsFrom a i n acc) := by
        intro n
        induction n with
        | zero => intro i acc; trivial
        | succ n ih => intro i acc; exact Reads.bind (fun v => trivial) fun v => ih _ _
      exact this _ _ _
  · exact fun v => trivial

section
variable {P : Program} {base : Nat} {φ : Phi}

def resC (tmps : Array Value) : ResultVar → Sem Value
  | .tmp t => pure (tmps.getD t undef)
  | .cell c t => do loadVar t (← asAddr (tmps.getD c undef))

theorem resL_ok : ∀ (rs : List ResultVar) {φ : Phi} {s s' : AS} {w : World} {a : AAct} {ra : Act} {l : List Value}, Rel P base φ s w → ActR φ a ra → runA P (resL a rs) s = some (l, s') →
    ∃ χ l', (rs.mapM (resC ra.tmps)).run P w = .ok l' w ∧ Rel P base χ s' w ∧ LR (VRel χ) l l' ∧ Gr φ s w χ s' w := by
  intro rs
  induction rs with
  | nil =>
    intro φ s s' w a ra l hrel ha h
    cases h
    exact ⟨φ, [], rfl, hrel, .nil, Gr.refl _ _ _⟩
  | cons r rs ih =>
    intro φ s s' w a ra l hrel ha h
    rw [List.mapM_cons]
    cases r with
    | tmp t =>
      unfold resL at h
      rw [runA_bind] at h
      cases h1 : runA P (resL a rs) s with
      | none => rw [h1] at h; cases h
      | some p =>
        obtain ⟨l1, s1⟩ := p
        rw [h1] at h
        cases h
        obtain ⟨χ, l', q1, q2, q3, q4⟩ := ih hrel ha h1
        refine ⟨χ, ra.tmps.getD t undef :: l', ?_, q2, .cons ((ha.at_ t).mono q4.le) q3, q4⟩
        show ((pure (ra.tmps.getD t undef) : Sem Value) >>= _).run P w = _
        simp only [pure_bind]
        rw [Sem.run_bind, q1]
        rfl
    | cell c t =>
      unfold resL at h
      have hv := ha.at_ c
      split at h
      · rename_i ad had
        rw [had] at hv
        rw [runA_bind] at h
        cases h1 : runA P (loadVar t ad) s with
        | none => rw [h1] at h; cases h
        | some p =>
          obtain ⟨v1, s1⟩ := p
          rw [h1] at h
          simp only [Option.bind_some] at h
          rw [runA_bind] at h
          generalize hx : ra.tmps.getD c undef = x at hv
          cases hv with
          | ptr b o r hb =>
            obtain ⟨χ, v', w1, q1, q2, q3, q4⟩ := Sim.loadVar (t := t) (a := ⟨b, o, none⟩) (a' := ⟨r, o, none⟩) (φ := φ) ⟨b, o, r, rfl, rfl, hb⟩ φ φ.le_refl s w hrel v1 s1 h1
            have hw := Reads.run _ Reads.loadVar q1
            subst hw
            cases h2 : runA P (resL a rs) s1 with
            | none => rw [h2] at h; cases h
            | some p2 =>
              obtain ⟨l2, s2⟩ := p2
              rw [h2] at h
              cases h
              obtain ⟨ξ, l', e1, e2, e3, e4⟩ := ih q2 (ha.mono q4.le) h2
              refine ⟨ξ, v' :: l', ?_, e2, .cons (q3.mono e4.le) e3, q4.trans e4⟩
              have hc : resC ra.tmps (.cell c t) = loadVar t ⟨r, o, none⟩ := by simp [resC, hx, asAddr]
              rw [hc, Sem.run_bind, q1]
              simp only [Result.andThen_ok]
              rw [Sem.run_bind, e1]
              rfl
      · cases h

theorem one_rel {χ : Phi} {l l' : List Value} (h : LR (VRel χ) l l') : VRel χ (oneOf l) (if h : l'.toArray.size = 1 then l'.toArray[0] else .tuple l'.toArray) := by
  cases h with
  | nil => exact .tuple _ _ rfl (fun i v v' h _ => by simp at h)
  | cons h1 h2 =>
    cases h2 with
    | nil => simpa [oneOf] using h1
    | cons h3 h4 =>
      simp only [oneOf, List.size_toArray, List.length_cons]
      rw [dif_neg (by omega)]
      have := LR.toAR (LR.cons h1 (LR.cons h3 h4))
      exact .tuple _ _ this.1 this.2

theorem results_eq {fn : Func} {tmps : Array Value} {w : World} {l' : List Value}
    (h : (fn.results.toList.mapM (resC tmps)).run P w = .ok l' w) :
    (results fn tmps).run P w = .ok (if h : l'.toArray.size = 1 then l'.toArray[0] else .tuple l'.toArray) w := by
  have hf : results fn tmps = (do let vs ← fn.results.mapM (resC tmps); pure (if h : vs.size = 1 then vs[0] else .tuple vs)) := by
    unfold results
    congr 1
  rw [hf, Array.mapM_eq_mapM_toList]
  simp only [map_eq_pure_bind, bind_assoc, pure_bind]
  rw [Sem.run_bind, h]
  rfl

/-! ## Calls -/
theorem argTmps_get : ∀ (l : List Value) (i : Nat) (t : Tr Value) (k : Nat), (argTmps l i t).get k = if i ≤ k ∧ k < i + l.length then l[k - i]? else t.get k := by
  intro l
  induction l with
  | nil => intro i t k; simp [argTmps]; omega
  | cons v r ih =>
    intro i t k
    unfold argTmps
    rw [ih, Tr.get_set]
    by_cases h1 : i + 1 ≤ k ∧ k < i + 1 + r.length
    · rw [if_pos h1, if_pos (by simp; omega)]
      rw [show k - i = (k - (i + 1)) + 1 by omega, List.getElem?_cons_succ]
    · rw [if_neg h1]
      by_cases h2 : k = i
      · subst h2; simp
      · rw [if_neg h2, if_neg (by simp; omega)]

theorem start_rel {fn : Func} {args args' : Array Value} (h : AR (VRel φ) args args') : ActR φ (startA fn args) { tmps := args' ++ Array.replicate (fn.ntmps - args'.size) undef, defers := [] } := by
  refine ⟨by simp [startA, h.1], fun t => ?_, .nil⟩
  rw [Array.getD_eq_getD_getElem?]
  show VRel φ (match (argTmps args.toList 0 .leaf).get t with | some v => v | none => undef) _
  rw [argTmps_get]
  have hs : args.toList.length = args'.size := by rw [Array.length_toList]; exact h.1
  by_cases ht : t < args'.size
  · rw [if_pos (by omega)]
    have ht' : t < args.size := by rw [h.1]; exact ht
    have h1 : args[t]? = some args[t] := Array.getElem?_eq_getElem ht'
    have h2 : args'[t]? = some args'[t] := Array.getElem?_eq_getElem ht
    have h3 : (args' ++ Array.replicate (fn.ntmps - args'.size) undef)[t]? = some args'[t] := by rw [Array.getElem?_append_left ht, h2]
    rw [h3]
    simp only [Nat.sub_zero, Array.getElem?_toList, h1, Option.getD_some]
    exact h.2 t _ _ h1 h2
  · rw [if_neg (by omega), Tr.get_leaf]
    have : ((args' ++ Array.replicate (fn.ntmps - args'.size) undef)[t]?).getD undef = undef := by
      rw [Array.getElem?_append_right (by omega), Array.getElem?_replicate]
      split <;> rfl
    rw [this]
    exact VRel.undef

def CodeOk (P : Program) (code : CodeF) : Prop :=
  ∀ c a s e a' s', code c a s = some (e, a', s') → ∀ base φ w ra, Rel P base φ s w → ActR φ a ra → ∀ Q : Exit → Act → World → Prop, (∀ ra' w', Behind P base φ s w a' s' ra' w' → Q e ra' w') → c.wp P Q ra w

theorem loopA_ok {code : CodeF} (hc : CodeOk P code) {c : Code} : ∀ (n : Nat) {a a' : AAct} {s s' : AS} {e : Exit}, loopA code c n a s = some (e, a', s') → ∀ base φ w ra, Rel P base φ s w → ActR φ a ra →
    ∀ Q : Exit → Act → World → Prop, (∀ ra' w', Behind P base φ s w a' s' ra' w' → Q e ra' w') → Code.rounds P c Q n ra w := by
  intro n
  induction n with
  | zero => intro a a' s s' e h; cases h
  | succ n ih =>
    intro a a' s s' e h base φ w ra hrel ha Q hQ
    unfold loopA at h
    unfold Code.rounds
    split at h
    · rename_i a1 s1 h1
      refine hc _ _ _ _ _ _ h1 base φ w ra hrel ha _ ?_
      rintro rb wb ⟨χ, q1, q2, q3⟩
      exact ih h base χ wb rb q2 q1 Q fun ra' w' hb => hQ _ _ (Behind.trans (a := a1) (ra := rb) q3 hb)
    · rename_i r hr
      refine hc _ _ _ _ _ _ h base φ w ra hrel ha _ fun ra' w' hb => ?_
      cases e with
      | normal => exact (hr _ _ h).elim
      | _ => exact hQ _ _ hb

theorem jumpsA_ok {code : CodeF} (hc : CodeOk P code) {c : Code} : ∀ (n : Nat) {a a' : AAct} {s s' : AS} {e e' : Exit}, jumpsA code c n (some (e, a, s)) = some (e', a', s') → ∀ base φ w ra, Rel P base φ s w → ActR φ a ra →
    ∀ Q : Exit → Act → World → Prop, (∀ ra' w', Behind P base φ s w a' s' ra' w' → Q e' ra' w') → inJumps P c Q n e ra w := by
  intro n
  induction n with
  | zero =>
    intro a a' s s' e e' h base φ w ra hrel ha Q hQ
    cases e with
    | goto l =>
      unfold jumpsA at h
      unfold inJumps
      cases hf : findLabel c l with
      | none =>
        rw [hf] at h
        cases h
        exact hQ _ _ ⟨φ, ha, hrel, Gr.refl _ _ _⟩
      | some rest => rw [hf] at h; cases h
    | _ =>
      simp only [jumpsA] at h
      cases h
      simp only [inJumps]
      exact hQ _ _ ⟨φ, ha, hrel, Gr.refl _ _ _⟩
  | succ n ih =>
    intro a a' s s' e e' h base φ w ra hrel ha Q hQ
    cases e with
    | goto l =>
      unfold jumpsA at h
      unfold inJumps
      cases hf : findLabel c l with
      | none =>
        rw [hf] at h
        cases h
        exact hQ _ _ ⟨φ, ha, hrel, Gr.refl _ _ _⟩
      | some rest =>
        rw [hf] at h
        simp only at h ⊢
        cases h1 : code rest a s with
        | none => rw [h1] at h; simp [jumpsA] at h
        | some p =>
          obtain ⟨e1, a1, s1⟩ := p
          rw [h1] at h
          refine hc _ _ _ _ _ _ h1 base φ w ra hrel ha _ ?_
          rintro rb wb ⟨χ, q1, q2, q3⟩
          exact ih h base χ wb rb q2 q1 Q fun ra' w' hb => hQ _ _ (Behind.trans (a := a1) (ra := rb) q3 hb)
    | _ =>
      simp only [jumpsA] at h
      cases h
      simp only [inJumps]
      exact hQ _ _ ⟨φ, ha, hrel, Gr.refl _ _ _⟩

theorem codeStep_ok (hm : P.follows .mixedOrders = true) (hP : POk P) {call : CallF} (hcall : CallOk P call) {code : CodeF} (hc : CodeOk P code) : CodeOk P (codeStep P call code) := by
  intro c a s e a' s' h base φ w ra hrel ha Q hQ
  cases c with
  | skip => cases h; exact wp_skip (hQ _ _ ⟨φ, ha, hrel, Gr.refl _ _ _⟩)
  | label l => cases h; exact wp_label (hQ _ _ ⟨φ, ha, hrel, Gr.refl _ _ _⟩)
  | region id ops draw =>
    simp only [codeStep] at h
    split at h
    · rename_i a1 s1 h1
      cases h
      cases draw with
      | true => exact draw_ok hm hP hcall h1 hrel ha hQ
      | false => exact region_ok hP hcall h1 hrel ha hQ
    · cases h
  | seq x y =>
    simp only [codeStep] at h
    refine wp_seq ?_
    split at h
    · rename_i a1 s1 h1
      refine hc _ _ _ _ _ _ h1 base φ w ra hrel ha _ ?_
      rintro rb wb ⟨χ, q1, q2, q3⟩
      exact hc _ _ _ _ _ _ h base χ wb rb q2 q1 Q fun ra' w' hb => hQ _ _ (Behind.trans (a := a1) (ra := rb) q3 hb)
    · rename_i r hr
      refine hc _ _ _ _ _ _ h base φ w ra hrel ha _ fun ra' w' hb => ?_
      cases e with
      | normal => exact (hr _ _ h).elim
      | _ => exact hQ _ _ hb
  | cond x c d =>
    simp only [codeStep] at h
    have key : ∀ t, a.eval x = .bool t → constOk P x = true → ra.eval x = .bool t := fun t ht hx => by
      have := ha.eval hrel hx
      rw [ht] at this
      generalize ra.eval x = y at this
      cases this
      rfl
    split at h
    · rename_i ht
      cases hx : constOk P x with
      | false => rw [hx] at h; cases h
      | true =>
        rw [hx, cond_true] at h
        exact wp_cond_true (key _ ht hx) (hc _ _ _ _ _ _ h base φ w ra hrel ha Q hQ)
    · rename_i ht
      cases hx : constOk P x with
      | false => rw [hx] at h; cases h
      | true =>
        rw [hx, cond_true] at h
        exact wp_cond_false (key _ ht hx) (hc _ _ _ _ _ _ h base φ w ra hrel ha Q hQ)
    · cases h
  | block id c =>
    simp only [codeStep] at h
    refine wp_block ?_
    split at h
    · rename_i id' a1 s1 h1
      refine hc _ _ _ _ _ _ h1 base φ w ra hrel ha _ fun rb wb hb => ?_
      cases hi : Nat.beq id' id with
      | true =>
        rw [hi, cond_true] at h
        cases h
        simp only [Exit.inBlock]
        rw [if_pos (Nat.eq_of_beq_eq_true hi)]
        exact hQ _ _ hb
      | false =>
        rw [hi, cond_false] at h
        cases h
        simp only [Exit.inBlock]
        rw [if_neg (fun e => by subst e; rw [Nat.beq_refl] at hi; cases hi)]
        exact hQ _ _ hb
    · rename_i r hr
      refine hc _ _ _ _ _ _ h base φ w ra hrel ha _ fun ra' w' hb => ?_
      cases e with
      | exit id' => exact (hr _ _ _ h).elim
      | _ => exact hQ _ _ hb
  | loop c => exact wp_loop_rounds 4096 (loopA_ok hc 4096 h base φ w ra hrel ha Q hQ)
  | exit id => cases h; exact wp_exit (hQ _ _ ⟨φ, ha, hrel, Gr.refl _ _ _⟩)
  | goto l => cases h; exact wp_goto (hQ _ _ ⟨φ, ha, hrel, Gr.refl _ _ _⟩)
  | ret => cases h; exact wp_ret (hQ _ _ ⟨φ, ha, hrel, Gr.refl _ _ _⟩)
  | scope c =>
    simp only [codeStep] at h
    cases h1 : code c a s with
    | none => rw [h1] at h; simp [jumpsA] at h
    | some p =>
      obtain ⟨e1, a1, s1⟩ := p
      rw [h1] at h
      refine wp_scope_scoped 64 (hc _ _ _ _ _ _ h1 base φ w ra hrel ha _ ?_)
      rintro rb wb ⟨χ, q1, q2, q3⟩
      exact jumpsA_ok hc 64 h base χ wb rb q2 q1 Q fun ra' w' hb => hQ _ _ (Behind.trans (a := a1) (ra := rb) q3 hb)
  | _ => cases h

theorem callStep_ok {prim : CallF} (hp : CallOk P prim) {code : CodeF} (hc : CodeOk P code) : CallOk P (callStep P prim code) := by
  intro f args s v s' h base φ w args' hrel hargs
  unfold callStep at h
  split at h
  · rename_i r hr
    cases h
    exact hp f args s v s' hr base φ w args' hrel hargs
  · split at h
    · rename_i fn hf
      split at h
      · rename_i c hb
        rw [fA_eq, fS_eq] at h
        refine calls_of_wp hf hb ?_
        have leave : ∀ (a1 : AAct) (s1 : AS), leaveA P fn a1 s1 = some (v, s') → ∀ rb wb, Behind P base φ s w a1 s1 rb wb →
            rb.defers = [] ∧ ∃ v', (results fn rb.tmps).run P wb = .ok v' wb ∧ (∃ χ v'', Ending.returned v' = .returned v'' ∧ VRel χ v v'' ∧ Rel P base χ s' wb ∧ Gr φ s w χ s' wb) := by
          rintro a1 s1 hl rb wb ⟨χ, q1, q2, q3⟩
          unfold leaveA at hl
          split at hl
          · rename_i hd
            split at hl
            · rename_i l s2 h2
              cases hl
              obtain ⟨ξ, l', e1, e2, e3, e4⟩ := resL_ok _ q2 q1 h2
              refine ⟨?_, _, results_eq e1, ξ, _, rfl, one_rel e3, e2, q3.trans e4⟩
              have := q1.defers
              rw [hd] at this
              generalize rb.defers = ds at this
              cases this
              rfl
            · cases hl
          · cases hl
        unfold bodyStep at h
        split at h
        · rename_i a1 s1 h1
          exact hc _ _ _ _ _ _ h1 base φ w _ hrel (start_rel hargs) _ fun rb wb hb => leave a1 s1 h rb wb hb
        · rename_i a1 s1 h1
          exact hc _ _ _ _ _ _ h1 base φ w _ hrel (start_rel hargs) _ fun rb wb hb => leave a1 s1 h rb wb hb
        · cases h
      · cases h
    · cases h

theorem evBoth_ok (hm : P.follows .mixedOrders = true) (hP : POk P) {prim : CallF} (hp : CallOk P prim) : ∀ n, CallOk P (evBoth P prim n).1 ∧ CodeOk P (evBoth P prim n).2 := by
  intro n
  induction n with
  | zero => exact ⟨fun f args s v s' h => (by cases h), fun c a s e a' s' h => (by cases h)⟩
  | succ n ih => exact ⟨callStep_ok hp ih.2, codeStep_ok hm hP ih.1 ih.2⟩

end
end Go.Aw
