/- The abstract machine, part L: the evaluator of one operation, and that it is right. -/
import Derived.Test.YthaodoaaefhhcaaGreatDoorAwK
import Derived.Laws.Build
namespace Go.Aw
open Go Go.RowKit
set_option linter.unusedVariables false
set_option linter.unusedSimpArgs false

def DTR (φ : Phi) : Target → Target → Prop
  | .fn fn c, t' => ∃ c', t' = .fn fn c' ∧ fnOk fn = true ∧ AR (VRel φ) c c'
  | .builtin b a t k, t' => t' = .builtin b a t k
  | _, _ => False
def DR (φ : Phi) (d d' : Deferred) : Prop := DTR φ d.target d'.target ∧ AR (VRel φ) d.args d'.args

def NR (φ : Phi) : Next → Next → Prop
  | .value v, n => ∃ v', n = .value v' ∧ VRel φ v v'
  | .skip, n => n = .skip
  | .enter f a, n => ∃ a', n = .enter f a' ∧ AR (VRel φ) a a'
  | .defer d, n => ∃ d', n = .defer d' ∧ DR φ d d'
  | _, _ => False

theorem DR.mono {φ ψ : Phi} (hle : φ.le ψ) {d d' : Deferred} (h : DR φ d d') : DR ψ d d' := by
  refine ⟨?_, h.2.vmono hle⟩
  have := h.1
  unfold DTR at *
  split at this
  · obtain ⟨c', h1, h2, h3⟩ := this
    exact ⟨c', h1, h2, h3.vmono hle⟩
  · exact this
  · exact this.elim

def plainNext : Next → Bool
  | .value v => plain v
  | .skip => true
  | .enter _ a => a.toList.all plain
  | _ => false

section
variable {P : Program} {base : Nat} {φ ψ : Phi}

theorem AR.plains {cs : Array Value} (h : cs.toList.all Aw.plain = true) : AR (VRel φ) cs cs := by
  refine ⟨rfl, fun i v v' h1 h2 => ?_⟩
  rw [h1] at h2; cases h2
  rw [List.all_eq_true] at h
  exact (plain_rel (h v (by rw [Array.mem_toList_iff]; exact Array.mem_of_getElem? h1))).1

theorem plainNext_rel {n : Next} (h : plainNext n = true) : NR φ n n := by
  cases n with
  | value v => exact ⟨v, rfl, (plain_rel h).1⟩
  | skip => rfl
  | enter f a => exact ⟨a, rfl, AR.plains h⟩
  | _ => cases h

/-! ## The evaluator -/
def isSelect : Op → Bool
  | .select .. => true
  | _ => false

def pureNext (P : Program) (o : Oper) (ρ : Operand → Value) (s : AS) : Option (Next × AS) :=
  bif o.op.operands.toList.all (fun x => plain (ρ x)) && !(isSelect o.op) then
    match pureRun P (execOp ρ o) with
    | some n => bif plainNext n then some (n, s) else none
    | none => none
  else none

def runV (P : Program) (x : Sem Value) (s : AS) : Option (Next × AS) :=
  match runA P x s with
  | some (v, s') => some (.value v, s')
  | none => none
def runU (P : Program) (x : Sem Unit) (s : AS) : Option (Next × AS) :=
  match runA P x s with
  | some (_, s') => some (.skip, s')
  | none => none
def val (s : AS) (r : Option Value) : Option (Next × AS) :=
  match r with
  | some v => some (.value v, s)
  | none => none

def evCallTo (P : Program) (g : FuncId) (args : Array Value) (s : AS) : Option (Next × AS) :=
  match P.funcs[g]? with
  | some fn => bif fn.body.isSome && !(fn.name == "runtime.NumGoroutine") then some (.enter g args, s) else none
  | none => none

def evCallOp (P : Program) (o : Oper) (c : Call) (ρ : Operand → Value) (s : AS) : Option (Next × AS) :=
  match c.callee with
  | .builtin .append =>
    match c.args.toList with
    | [a, b] =>
      match evAppend P s c.argTypes (ρ a) (ρ b) with
      | some (v, s') => some (.value v, s')
      | none => none
    | _ => none
  | .builtin .len =>
    match c.args.toList with
    | [a] =>
      match c.argTypes[0]? with
      | some t =>
        match evLen P s t (ρ a) with
        | some v => some (.value v, s)
        | none => pureNext P o ρ s
      | none => none
    | _ => none
  | .builtin .delete =>
    match c.args.toList with
    | [m, k] =>
      match c.argTypes[0]? with
      | some t =>
        match evDelete P s t (ρ m) (ρ k) with
        | some s' => some (.value (.tuple #[]), s')
        | none => none
      | none => none
    | _ => none
  | .builtin _ => pureNext P o ρ s
  | .value f =>
    match ρ f with
    | .func (.func g) first captured =>
      match evCallTo P g (first ++ c.args.map ρ ++ captured) s with
      | some r => some r
      | none => pureNext P o ρ s
    | _ => none
  | .invoke .. => none

def evOp (P : Program) (o : Oper) (ρ : Operand → Value) (s : AS) : Option (Next × AS) :=
  match o.op with
  | .move x | .assign x => some (.value (ρ x), s)
  | .pick c a b =>
    match ρ c with
    | .bool t => some (.value (if t then ρ a else ρ b), s)
    | _ => none
  | .binOp op t x y _ =>
    bif plain (ρ x) && plain (ρ y) then pureNext P o ρ s
    else
      match op, evEq P t (ρ x) (ρ y) with
      | .eql, some r => some (.value (.bool r), s)
      | .neq, some r => some (.value (.bool !r), s)
      | _, _ => none
  | .unOp .. => pureNext P o ρ s
  | .convert src dst x => bif plain (ρ x) then pureNext P o ρ s else val s (evBytes P s src dst (ρ x))
  | .slice t x lo hi mx => bif plain (ρ x) then pureNext P o ρ s else val s (evSlice P t (ρ x) (lo.map ρ) (hi.map ρ) (mx.map ρ))
  | .fieldAddr st x f => val s (evField P st (ρ x) f)
  | .indexAddr t x i => val s (evIndexAddr P t (ρ x) (ρ i))
  | .nilCheck x =>
    match ρ x with
    | .pointer (some a) => some (.value (.pointer (some a)), s)
    | _ => none
  | .lookup t m k ok => val s (evLookup P s t (ρ m) (ρ k) ok)
  | .mapUpdate t m k v =>
    match evUpdate P s t (ρ m) (ρ k) (ρ v) with
    | some s' => some (.skip, s')
    | none => none
  | .call c => evCallOp P o c ρ s
  | .alloc t => bif known P t then runV P (Instr.alloc t true (.tuple #[])) s else none
  | .box t x => runV P (Instr.box t (ρ x)) s
  | .build t ps => bif known P t then runV P (Instr.build t (ps.map fun (i, x) => (i, ρ x))) s else none
  | .buildSlice t n ps => bif Nat.blt n capT && known P t then runV P (Instr.buildSlice t n (ps.map fun (i, x) => (i, ρ x))) s else none
  | .load t a => runV P (Instr.loadAt t (ρ a)) s
  | .store t a x => runU P (Instr.storeAt t (ρ a) (ρ x)) s
  | .makeInterface t x => bif P.concrete t then some (.value (.iface t (ρ x)), s) else none
  | .makeFunc fn f c => bif fnOk fn then some (.value (.func fn (f.map ρ) (c.map ρ)), s) else none
  | .makeMap t none => runV P (Instr.makeMap t none) s
  | .extract x i => runV P (Instr.extract (ρ x) i) s
  | .field t x f => runV P (Instr.field t (ρ x) f) s
  | .index t x i => runV P (Instr.index t (ρ x) (ρ i)) s
  | .range t x => runV P (Instr.range t (ρ x)) s
  | .next it isS => runV P (Instr.next (ρ it) isS o.type) s
  | .entry it => runV P (Instr.entry (ρ it)) s
  | .defer c =>
    match c.callee with
    | .builtin b => some (.defer { target := .builtin b c.argTypes o.type (c.args.map fun | .const _ => true | _ => false), args := c.args.map ρ }, s)
    | .value f =>
      match ρ f with
      | .func fn first captured => bif fnOk fn then some (.defer { target := .fn fn captured, args := first ++ c.args.map ρ }, s) else none
      | _ => none
    | .invoke .. => none
  | _ => none

/-! ## It is right -/
/-- What is owed of one operation. -/
def OpOk (P : Program) (base : Nat) (φ : Phi) (s : AS) (w : World) (r : Option (Next × AS)) (x : Sem Next) : Prop :=
  ∀ n s', r = some (n, s') → ∃ χ n' w', x.run P w = .ok n' w' ∧ Rel P base χ s' w' ∧ NR χ n n' ∧ Gr φ s w χ s' w'

theorem ok_runV {s : AS} {w : World} (hrel : Rel P base φ s w) {x y : Sem Value} (h : Sim P base φ VRel x y) : OpOk P base φ s w (runV P x s) (do pure (.value (← y))) := by
  intro n s' hr
  unfold runV at hr
  split at hr
  · rename_i v s1 h1
    cases hr
    obtain ⟨χ, v', w', k2, k3, k4, k5⟩ := h φ (Phi.le_refl _) s w hrel v s' h1
    refine ⟨χ, .value v', w', ?_, k3, ⟨v', rfl, k4⟩, k5⟩
    rw [Sem.run_bind, k2]; rfl
  · cases hr

theorem ok_runU {s : AS} {w : World} (hrel : Rel P base φ s w) {x y : Sem Unit} (h : Sim P base φ (fun _ _ _ => True) x y) : OpOk P base φ s w (runU P x s) (do y; pure .skip) := by
  intro n s' hr
  unfold runU at hr
  split at hr
  · rename_i v s1 h1
    cases hr
    obtain ⟨χ, v', w', k2, k3, k4, k5⟩ := h φ (Phi.le_refl _) s w hrel v s' h1
    refine ⟨χ, .skip, w', ?_, k3, rfl, k5⟩
    rw [Sem.run_bind, k2]; rfl
  · cases hr

theorem ok_val {s : AS} {w : World} (hrel : Rel P base φ s w) {r : Option Value} {y : Sem Value} (h : ∀ u, r = some u → ∃ u', y.run P w = .ok u' w ∧ VRel φ u u') : OpOk P base φ s w (val s r) (do pure (.value (← y))) := by
  intro n s' hr
  unfold val at hr
  split at hr
  · rename_i v
    cases hr
    obtain ⟨u', k1, k2⟩ := h v rfl
    refine ⟨φ, .value u', w, ?_, hrel, ⟨u', rfl, k2⟩, Gr.refl _ _ _⟩
    rw [Sem.run_bind, k1]; rfl
  · cases hr

theorem ok_value {s : AS} {w : World} (hrel : Rel P base φ s w) {v v' : Value} (h : VRel φ v v') : OpOk P base φ s w (some (.value v, s)) (pure (.value v')) := by
  intro n s' hr
  cases hr
  exact ⟨φ, .value v', w, rfl, hrel, ⟨v', rfl, h⟩, Gr.refl _ _ _⟩

theorem ok_none {s : AS} {w : World} {x : Sem Next} : OpOk P base φ s w none x := fun n s' h => by cases h

theorem ok_pure {o : Oper} {ρ ρ' : Operand → Value} {s : AS} {w : World} (hrel : Rel P base φ s w) (hρ : ∀ x ∈ o.op.operands, VRel φ (ρ x) (ρ' x)) : OpOk P base φ s w (pureNext P o ρ s) (execOp ρ' o) := by
  intro n s' hr
  unfold pureNext at hr
  cases hc : (o.op.operands.toList.all (fun x => plain (ρ x)) && !(isSelect o.op)) with
  | false => rw [hc] at hr; cases hr
  | true =>
    rw [hc, cond_true] at hr
    rw [Bool.and_eq_true, List.all_eq_true] at hc
    have he : execOp ρ' o = execOp ρ o := execOp_congr o (fun cs b e => by rw [e] at hc; exact absurd hc.2 (by simp [isSelect])) fun x hx =>
      (plain_rel (hc.1 x (by rw [Array.mem_toList_iff]; exact hx))).2 _ (hρ x hx)
    split at hr
    · rename_i n1 h1
      cases hp : plainNext n1 with
      | false => rw [hp] at hr; cases hr
      | true =>
        rw [hp] at hr
        cases hr
        exact ⟨φ, n, w, by rw [he]; exact pureRun_run _ h1 w, hrel, plainNext_rel hp, Gr.refl _ _ _⟩
    · cases hr

theorem argsR {xs : Array Operand} {ρ ρ' : Operand → Value} (h : ∀ x ∈ xs, VRel φ (ρ x) (ρ' x)) : AR (VRel φ) (xs.map ρ) (xs.map ρ') := by
  refine ⟨by simp, fun i v v' h1 h2 => ?_⟩
  simp only [Array.getElem?_map, Option.map_eq_some_iff] at h1 h2
  obtain ⟨a, a1, rfl⟩ := h1
  obtain ⟨b, b1, rfl⟩ := h2
  rw [a1] at b1; cases b1
  exact h a (Array.mem_of_getElem? a1)

theorem partsR {ps : Array (Nat × Operand)} {ρ ρ' : Operand → Value} (h : ∀ x ∈ (ps.toList.map (·.2)).toArray, VRel φ (ρ x) (ρ' x)) :
    AR (fun p q => q.1 = p.1 ∧ VRel φ p.2 q.2) (ps.map fun (i, x) => (i, ρ x)) (ps.map fun (i, x) => (i, ρ' x)) := by
  refine ⟨by simp, fun i v v' h1 h2 => ?_⟩
  simp only [Array.getElem?_map, Option.map_eq_some_iff] at h1 h2
  obtain ⟨⟨j, a⟩, a1, rfl⟩ := h1
  obtain ⟨⟨k, b⟩, b1, rfl⟩ := h2
  rw [a1] at b1; cases b1
  refine ⟨rfl, h a ?_⟩
  simp only [List.mem_toArray, List.mem_map]
  exact ⟨(j, a), by rw [Array.mem_toList_iff]; exact Array.mem_of_getElem? a1, rfl⟩

theorem optR {x : Option Operand} {ρ ρ' : Operand → Value} (h : ∀ y, x = some y → VRel φ (ρ y) (ρ' y)) : OptR φ (x.map ρ) (x.map ρ') := by
  cases x with
  | none => trivial
  | some y => exact h y rfl

theorem toList_two {α : Type} {xs : Array α} {a b : α} (h : xs.toList = [a, b]) : xs = #[a, b] := by rw [← Array.toArray_toList (xs := xs), h]
theorem toList_one {α : Type} {xs : Array α} {a : α} (h : xs.toList = [a]) : xs = #[a] := by rw [← Array.toArray_toList (xs := xs), h]

theorem evCallTo_ok {g : FuncId} {args args' : Array Value} {s : AS} {w : World} (hrel : Rel P base φ s w) (h : AR (VRel φ) args args') : OpOk P base φ s w (evCallTo P g args s) (callFunc g args') := by
  intro n s' hr
  unfold evCallTo at hr
  split at hr
  · rename_i fn hf
    cases hc : (fn.body.isSome && !(fn.name == "runtime.NumGoroutine")) with
    | false => rw [hc] at hr; cases hr
    | true =>
      rw [hc] at hr
      cases hr
      simp only [Bool.and_eq_true, Bool.not_eq_true'] at hc
      refine ⟨φ, .enter g args', w, ?_, hrel, ⟨args', rfl, h⟩, Gr.refl _ _ _⟩
      have hb : fn.body ≠ none := by cases hx : fn.body <;> simp_all
      have hn : fn.name ≠ "runtime.NumGoroutine" := by simpa using hc.2
      simp [callFunc, hf, hn, hb]
  · cases hr

theorem evCallOp_ok (hP : POk P) {o : Oper} {c : Call} (ho : o.op = .call c) {ρ ρ' : Operand → Value} {s : AS} {w : World} (hrel : Rel P base φ s w) (hρ : ∀ x ∈ o.op.operands, VRel φ (ρ x) (ρ' x)) :
    OpOk P base φ s w (evCallOp P o c ρ s) (execOp ρ' o) := by
  have hargs : ∀ x ∈ c.args, VRel φ (ρ x) (ρ' x) := fun x hx => hρ x (by rw [ho]; simp [Op.operands, Call.operands, hx])
  unfold evCallOp
  split
  · rename_i hcal
    split
    · rename_i a b hab
      have hab' := toList_two hab
      split
      · rename_i v s1 h1
        intro n s' hr
        cases hr
        obtain ⟨χ, u', w', k2, k3, k4, k5⟩ := evAppend_ok (ty := o.type) hP hrel (hargs a (by simp [hab'])) (hargs b (by simp [hab'])) h1
        refine ⟨χ, .value u', w', ?_, k3, ⟨u', rfl, k4⟩, k5⟩
        simp [execOp, ho, resolve, hcal, hab', invoke, builtin, k2]
      · exact ok_none
    · exact ok_none
  · rename_i hcal
    split
    · rename_i a ha
      have ha' := toList_one ha
      split
      · rename_i t ht
        split
        · rename_i v h1
          intro n s' hr
          cases hr
          obtain ⟨k1, k2⟩ := evLen_ok (ty := o.type) hrel ht (hargs a (by simp [ha'])) h1
          refine ⟨φ, .value v, w, ?_, hrel, ⟨v, rfl, k2⟩, Gr.refl _ _ _⟩
          simp [execOp, ho, resolve, hcal, ha', invoke, builtin, k1]
        · exact ok_pure hrel hρ
      · exact ok_none
    · exact ok_none
  · rename_i hcal
    split
    · rename_i m k hmk
      have hmk' := toList_two hmk
      split
      · rename_i t ht
        split
        · rename_i s1 h1
          intro n s' hr
          cases hr
          obtain ⟨w', k1, k2, k3⟩ := evDelete_ok (ty := o.type) hrel ht (hargs m (by simp [hmk'])) (hargs k (by simp [hmk'])) h1
          refine ⟨φ, .value (.tuple #[]), w', ?_, k2, ⟨_, rfl, (plain_rel rfl).1⟩, k3⟩
          simp [execOp, ho, resolve, hcal, hmk', invoke, builtin, k1]
        · exact ok_none
      · exact ok_none
    · exact ok_none
  · exact ok_pure hrel hρ
  · rename_i f hcal
    have hf : VRel φ (ρ f) (ρ' f) := hρ f (by rw [ho]; simp [Op.operands, Call.operands, hcal])
    split
    · rename_i g first captured hfv
      split
      · rename_i r h1
        rw [hfv] at hf
        generalize hv' : ρ' f = v' at hf
        cases hf with
        | func _ _ first' _ captured' h0 a1 a2 b1 b2 =>
          have hA : AR (VRel φ) (first ++ c.args.map ρ ++ captured) (first' ++ c.args.map ρ' ++ captured') := (AR.append (AR.append ⟨a1, a2⟩ (argsR hargs)) ⟨b1, b2⟩)
          have := evCallTo_ok (g := g) hrel hA
          rw [h1] at this
          intro n s' hr
          obtain ⟨χ, n', w', k2, k3, k4, k5⟩ := this n s' hr
          refine ⟨χ, n', w', ?_, k3, k4, k5⟩
          simpa [execOp, ho, resolve, hcal, hv', Deferred.ofValue, invoke] using k2
      · exact ok_pure hrel hρ
    · exact ok_none
  · exact ok_none

theorem sim_makeInterface {t : TypeId} {v v' : Value} (hc : P.concrete t = true) (h : VRel φ v v') {s : AS} {w : World} (hrel : Rel P base φ s w) :
    OpOk P base φ s w (some (.value (.iface t v), s)) (do pure (.value (← Instr.makeInterface t v'))) := by
  intro n s' hr
  cases hr
  exact ⟨φ, .value (.iface t v'), w, by rw [Sem.run_bind, run_makeInterface w t v' hc]; rfl, hrel, ⟨_, rfl, .iface t v v' h⟩, Gr.refl _ _ _⟩

theorem evOp_ok (hP : POk P) {o : Oper} {ρ ρ' : Operand → Value} {s : AS} {w : World} (hrel : Rel P base φ s w) (hρ : ∀ x ∈ o.op.operands, VRel φ (ρ x) (ρ' x)) :
    OpOk P base φ s w (evOp P o ρ s) (execOp ρ' o) := by
  obtain ⟨dst, op, type, pos, after, guard⟩ := o
  have hpure := ok_pure (P := P) (base := base) hrel hρ
  unfold evOp
  cases op with
  | move x => exact ok_value hrel (hρ x (by simp [Op.operands]))
  | assign x => exact ok_value hrel (hρ x (by simp [Op.operands]))
  | pick c a b =>
    have hc := hρ c (by simp [Op.operands])
    have ha := hρ a (by simp [Op.operands])
    have hb := hρ b (by simp [Op.operands])
    simp only
    split
    · rename_i t ht
      rw [ht] at hc
      generalize hv : ρ' c = v at hc
      cases hc
      intro n s' hr
      cases hr
      refine ⟨φ, .value (if t then ρ' a else ρ' b), w, ?_, hrel, ⟨_, rfl, ?_⟩, Gr.refl _ _ _⟩
      · simp [execOp, hv, asBool]
      · cases t
        · exact hb
        · exact ha
    · exact ok_none
  | binOp op t x y yt =>
    simp only
    cases hc : plain (ρ x) && plain (ρ y) with
    | true => exact hpure
    | false =>
      rw [cond_false]
      have hx := hρ x (by simp [Op.operands])
      have hy := hρ y (by simp [Op.operands])
      split
      · rename_i r h1
        intro n s' hr
        cases hr
        have := (evEq_ok hx hy h1 w .eql x y).1 rfl
        refine ⟨φ, .value (.bool r), w, ?_, hrel, ⟨_, rfl, .bool r⟩, Gr.refl _ _ _⟩
        show (do pure (Next.value (← (do eqGuard .eql t x y (ρ' x) (ρ' y); binOp .eql t (ρ' x) (ρ' y) : Sem Value))) : Sem Next).run P w = _
        rw [Sem.run_bind, this]; rfl
      · rename_i r h1
        intro n s' hr
        cases hr
        have := (evEq_ok hx hy h1 w .neq x y).2 rfl
        refine ⟨φ, .value (.bool !r), w, ?_, hrel, ⟨_, rfl, .bool _⟩, Gr.refl _ _ _⟩
        show (do pure (Next.value (← (do eqGuard .neq t x y (ρ' x) (ρ' y); binOp .neq t (ρ' x) (ρ' y) : Sem Value))) : Sem Next).run P w = _
        rw [Sem.run_bind, this]; rfl
      · exact ok_none
  | unOp op t x => exact hpure
  | convert src dst x =>
    simp only
    cases hc : plain (ρ x) with
    | true => exact hpure
    | false =>
      rw [cond_false]
      exact ok_val hrel fun u hu => ⟨u, evBytes_ok hrel (hρ x (by simp [Op.operands])) hu⟩
  | slice t x lo hi mx =>
    simp only
    cases hc : plain (ρ x) with
    | true => exact hpure
    | false =>
      rw [cond_false]
      refine ok_val hrel fun u hu => evSlice_ok (hρ x (by simp [Op.operands])) (optR fun y hy => hρ y ?_) (optR fun y hy => hρ y ?_) (optR fun y hy => hρ y ?_) hu w
      · simp [Op.operands, hy]
      · simp [Op.operands, hy]
      · simp [Op.operands, hy]
  | fieldAddr st x f => exact ok_val hrel fun u hu => evField_ok (hρ x (by simp [Op.operands])) hu w
  | indexAddr t x i => exact ok_val hrel fun u hu => evIndexAddr_ok (hρ x (by simp [Op.operands])) (hρ i (by simp [Op.operands])) hu w
  | nilCheck x =>
    have hx := hρ x (by simp [Op.operands])
    simp only
    split
    · rename_i a ha
      rw [ha] at hx
      generalize hv : ρ' x = v at hx
      cases hx with
      | ptr b o r hb =>
        intro n s' hr
        cases hr
        refine ⟨φ, .value (.pointer (some ⟨r, o, none⟩)), w, ?_, hrel, ⟨_, rfl, .ptr b o r hb⟩, Gr.refl _ _ _⟩
        simp [execOp, hv]
    · exact ok_none
  | lookup t m k ok => exact ok_val hrel fun u hu => evLookup_ok hP hrel (hρ m (by simp [Op.operands])) (hρ k (by simp [Op.operands])) hu
  | mapUpdate t m k v =>
    simp only
    split
    · rename_i s1 h1
      intro n s' hr
      cases hr
      obtain ⟨w', k1, k2, k3⟩ := evUpdate_ok hrel (hρ m (by simp [Op.operands])) (hρ k (by simp [Op.operands])) (hρ v (by simp [Op.operands])) h1
      refine ⟨φ, .skip, w', ?_, k2, rfl, k3⟩
      simp [execOp, k1]
    · exact ok_none
  | call c => exact evCallOp_ok hP rfl hrel hρ
  | alloc t =>
    simp only
    cases ht : known P t with
    | false => exact ok_none
    | true => exact ok_runV hrel (sim_alloc hP t ht)
  | box t x => exact ok_runV hrel (sim_box (hρ x (by simp [Op.operands])))
  | build t ps =>
    simp only
    cases ht : known P t with
    | false => exact ok_none
    | true => exact ok_runV hrel (sim_build hP ht (partsR hρ))
  | buildSlice t n ps =>
    simp only
    cases hc : Nat.blt n capT with
    | false => exact ok_none
    | true =>
      cases ht : known P t with
      | false => exact ok_none
      | true => exact ok_runV hrel (sim_buildSlice hP ht (blt_iff.1 hc) (partsR hρ))
  | load t a => exact ok_runV hrel (sim_loadAt (hρ a (by simp [Op.operands])))
  | store t a x => exact ok_runU hrel (sim_storeAt (hρ a (by simp [Op.operands])) (hρ x (by simp [Op.operands])))
  | makeInterface t x =>
    simp only
    cases hc : P.concrete t with
    | false => exact ok_none
    | true => exact sim_makeInterface hc (hρ x (by simp [Op.operands])) hrel
  | makeFunc fn f c =>
    simp only
    cases hc : fnOk fn with
    | false => exact ok_none
    | true =>
      have h1 : AR (VRel φ) (f.map ρ) (f.map ρ') := argsR fun x hx => hρ x (by simp [Op.operands, hx])
      have h2 : AR (VRel φ) (c.map ρ) (c.map ρ') := argsR fun x hx => hρ x (by simp [Op.operands, hx])
      exact ok_value hrel (.func fn _ _ _ _ hc h1.1 h1.2 h2.1 h2.2)
  | makeMap t r =>
    cases r with
    | none => exact ok_runV hrel sim_makeMap
    | some x => exact ok_none
  | extract x i => exact ok_runV hrel (sim_extract (hρ x (by simp [Op.operands])) i)
  | field t x f => exact ok_runV hrel (sim_field (hρ x (by simp [Op.operands])) f)
  | index t x i => exact ok_runV hrel (sim_index (hρ x (by simp [Op.operands])) (hρ i (by simp [Op.operands])))
  | range t x => exact ok_runV hrel (sim_range (hρ x (by simp [Op.operands])))
  | next it isS => exact ok_runV hrel (sim_next (hρ it (by simp [Op.operands])) isS type)
  | entry it => exact ok_runV hrel (sim_entry (hρ it (by simp [Op.operands])))
  | defer c =>
    have hargs : ∀ x ∈ c.args, VRel φ (ρ x) (ρ' x) := fun x hx => hρ x (by simp [Op.operands, Call.operands, hx])
    simp only
    split
    · rename_i b hcal
      intro n s' hr
      cases hr
      refine ⟨φ, .defer { target := .builtin b c.argTypes type (c.args.map fun | .const _ => true | _ => false), args := c.args.map ρ' }, w, ?_, hrel, ⟨_, rfl, ⟨rfl, argsR hargs⟩⟩, Gr.refl _ _ _⟩
      simp only [execOp, resolve, hcal, Sem.run_bind, Sem.run_pure, Result.andThen_ok]
      rfl
    · rename_i f hcal
      have hf : VRel φ (ρ f) (ρ' f) := hρ f (by simp [Op.operands, Call.operands, hcal])
      split
      · rename_i fn first captured hfv
        cases hfo : fnOk fn with
        | false => exact ok_none
        | true =>
          rw [hfv] at hf
          generalize hv' : ρ' f = v' at hf
          cases hf with
          | func _ _ first' _ captured' h0 a1 a2 b1 b2 =>
            intro n s' hr
            cases hr
            refine ⟨φ, .defer { target := .fn fn captured', args := first' ++ c.args.map ρ' }, w, ?_, hrel, ⟨_, rfl, ⟨⟨captured', rfl, hfo, ⟨b1, b2⟩⟩, AR.append ⟨a1, a2⟩ (argsR hargs)⟩⟩, Gr.refl _ _ _⟩
            simp [execOp, resolve, hcal, hv', Deferred.ofValue]
      · exact ok_none
    · exact ok_none
  | _ => exact ok_none

end
end Go.Aw
