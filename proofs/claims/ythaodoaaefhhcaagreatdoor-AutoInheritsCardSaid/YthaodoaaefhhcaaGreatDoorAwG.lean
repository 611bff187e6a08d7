/- The abstract machine, part G: maps. -/
import Derived.Test.YthaodoaaefhhcaaGreatDoorAwF
namespace Go.Aw
open Go Go.RowKit
set_option linter.unusedVariables false
set_option linter.unusedSimpArgs false

section
variable {P : Program} {base : Nat} {φ ψ : Phi}

theorem pureRun_bind' {α β : Type} (x : Sem α) (f : α → Sem β) : pureRun P (x.bind f) = (pureRun P x).bind fun a => pureRun P (f a) := by
  induction x with
  | pure a => rfl
  | program k ih => simp [Sem.bind, pureRun, ih]
  | mark m k ih => simp [Sem.bind, pureRun, ih]
  | _ => rfl
theorem pureRun_bind {α β : Type} (x : Sem α) (f : α → Sem β) : pureRun P (x >>= f) = (pureRun P x).bind fun a => pureRun P (f a) := pureRun_bind' x f
theorem pureRun_pure {α : Type} (a : α) : pureRun P (pure a : Sem α) = some a := rfl

def KeyR (e e' : MapEntry) : Prop := e'.key = e.key

/-- What a search answers over two lists of the same keys. -/
def FoundR (es es' : List MapEntry) (i : Nat) (r r' : Option (Nat × Value)) : Prop :=
  (r = none ∧ r' = none) ∨ ∃ j e e', es[j]? = some e ∧ es'[j]? = some e' ∧ r = some (i + j, e.val) ∧ r' = some (i + j, e'.val)

theorem FoundR.cons {e e' : MapEntry} {es es' : List MapEntry} {i : Nat} {r r'} (h : FoundR es es' (i + 1) r r') : FoundR (e :: es) (e' :: es') i r r' := by
  rcases h with h | ⟨j, d, d', h1, h2, h3, h4⟩
  · exact .inl h
  · exact .inr ⟨j + 1, d, d', by simpa using h1, by simpa using h2, by rw [h3]; congr 2; omega, by rw [h4]; congr 2; omega⟩

theorem findNow_rel {kind : TypeDesc} {k : Value} {es es' : List MapEntry} (h : LR KeyR es es') : ∀ i,
    (Instr.findNow kind k es i = none ∧ Instr.findNow kind k es' i = none) ∨ ∃ r r', Instr.findNow kind k es i = some r ∧ Instr.findNow kind k es' i = some r' ∧ FoundR es es' i r r' := by
  induction h with
  | nil => intro i; exact .inr ⟨none, none, rfl, rfl, .inl ⟨rfl, rfl⟩⟩
  | @cons e e' es es' hk _ ih =>
    intro i
    unfold KeyR at hk
    simp only [Instr.findNow, hk]
    cases Instr.sameNow kind k e.key with
    | none => exact .inl ⟨rfl, rfl⟩
    | some b => cases b with
      | true => exact .inr ⟨_, _, rfl, rfl, .inr ⟨0, e, e', rfl, rfl, rfl, rfl⟩⟩
      | false =>
        rcases ih (i + 1) with h | ⟨r, r', h1, h2, h3⟩
        · exact .inl h
        · exact .inr ⟨r, r', h1, h2, h3.cons⟩

theorem findAsking_rel {kt : TypeId} {k : Value} {es es' : List MapEntry} (h : LR KeyR es es') (w : World) : ∀ i r,
    pureRun P (Instr.findAsking kt k es i) = some r → ∃ r', (Instr.findAsking kt k es' i).run P w = .ok r' w ∧ FoundR es es' i r r' := by
  induction h with
  | nil => intro i r h; cases h; exact ⟨none, rfl, .inl ⟨rfl, rfl⟩⟩
  | @cons e e' es es' hk _ ih =>
    intro i r hr
    unfold KeyR at hk
    unfold Instr.findAsking at hr ⊢
    rw [pureRun_bind] at hr
    rw [hk, Sem.run_bind]
    cases hq : pureRun P (Op.equal kt k e.key) with
    | none => rw [hq] at hr; cases hr
    | some b =>
      rw [hq] at hr
      rw [pureRun_run _ hq w]
      simp only [Option.bind_some, Result.andThen_ok] at hr ⊢
      cases b with
      | true => cases hr; exact ⟨_, rfl, .inr ⟨0, e, e', rfl, rfl, rfl, rfl⟩⟩
      | false =>
        obtain ⟨r', h1, h2⟩ := ih (i + 1) r hr
        exact ⟨r', h1, h2.cons⟩

theorem findKey_rel {kt : TypeId} {k : Value} {es es' : List MapEntry} (h : LR KeyR es es') (w : World) {r} (hr : pureRun P (Instr.findKey kt k es) = some r) :
    ∃ r', (Instr.findKey kt k es').run P w = .ok r' w ∧ FoundR es es' 0 r r' := by
  unfold Instr.findKey at hr ⊢
  rw [pureRun_bind] at hr
  rw [Sem.run_bind]
  cases hq : pureRun P (underlying kt) with
  | none => rw [hq] at hr; cases hr
  | some d =>
    rw [hq] at hr
    rw [pureRun_run _ hq w]
    simp only [Option.bind_some, Result.andThen_ok] at hr ⊢
    rcases findNow_rel (kind := d) (k := k) h 0 with ⟨h1, h2⟩ | ⟨r1, r1', h1, h2, h3⟩
    · rw [h1] at hr; rw [h2]
      exact findAsking_rel h w 0 r hr
    · rw [h1] at hr; rw [h2]
      cases hr
      exact ⟨r1', rfl, h3⟩

theorem AR.keys {es es' : Array MapEntry} (h : AR (MRel φ) es es') : LR KeyR es.toList es'.toList := h.toLR.mono fun _ _ k => k.1

theorem run_getObj_map {P : Program} {w : World} {r : Nat} {es : Array MapEntry} {c : Nat} (h : w.heap[r]? = some (.map es c)) : (getObj r).run P w = .ok (.map es c) w := by
  simp only [Go.getObj, Sem.run, h]
theorem run_setObj_map {P : Program} {w : World} {r : Nat} {es : Array MapEntry} {c : Nat} (h : w.heap[r]? = some (.map es c)) (o : Obj) : (setObj r o).run P w = .ok () { w with heap := w.heap.setIfInBounds r o } := by
  simp only [Go.setObj, Sem.run, h]

def AS.map (s : AS) (m : Value) : Option (Array MapEntry) :=
  match m with
  | .map none => some #[]
  | .map (some b) =>
    match s.get b with
    | some ⟨.map es _, _⟩ => some es
    | _ => none
  | _ => none

theorem Rel.map {s : AS} {w : World} (h : Rel P base φ s w) {m m' : Value} (hm : VRel φ m m') {es} (he : s.map m = some es) :
    (m' = .map none ∧ es = #[]) ∨ ∃ r es' c, m' = .map (some r) ∧ w.heap[r]? = some (.map es' c) ∧ AR (MRel φ) es es' := by
  unfold AS.map at he
  split at he
  · cases hm; cases he; exact .inl ⟨rfl, rfl⟩
  · rename_i b
    split at he
    · rename_i es1 c gr hg
      cases he
      cases hm with
      | map _ r hb =>
      obtain ⟨r', h1, h2, _⟩ := h.live _ _ hg
      rw [hb] at h1; cases h1
      obtain ⟨es', h3, h4⟩ := h2
      exact .inr ⟨r, es', _, rfl, h3, h4⟩
    · cases he
  · cases he

def zeroOf (P : Program) (t : TypeId) : Option Value := bif known P t then (P.info? t).bind (·.zero) else none
theorem zeroOf_ok (hP : POk P) {t : TypeId} {z : Value} (h : zeroOf P t = some z) (w : World) : (zeroValue t).run P w = .ok z w ∧ VRel φ z z := by
  unfold zeroOf at h
  obtain ⟨ht, h⟩ := cond_some h
  cases hi : P.info? t with
  | none => rw [hi] at h; cases h
  | some i =>
    rw [hi] at h
    simp only [Option.bind_some] at h
    exact ⟨run_zero_of hi h w, (plain_rel (hP.zero _ _ _ ht hi h)).1⟩

def evLookup (P : Program) (s : AS) (t : TypeId) (m k : Value) (ok : Bool) : Option Value :=
  match P.underlying t, s.map m with
  | some (.map kt et), some es =>
    bif plain k then
      match pureRun P (Instr.checkKey es.isEmpty 10000 kt k), pureRun P (Instr.findKey kt k es.toList) with
      | some _, some (some (_, v)) => some (if ok then .tuple #[v, .bool true] else v)
      | some _, some none =>
        match zeroOf P et with
        | some z => some (if ok then .tuple #[z, .bool false] else z)
        | none => none
      | _, _ => none
    else none
  | _, _ => none

theorem pair_rel {v v' : Value} (h : VRel φ v v') (b : Bool) : VRel φ (.tuple #[v, .bool b]) (.tuple #[v', .bool b]) := by
  refine .tuple _ _ rfl ?_
  intro i x y h1 h2
  match i with
  | 0 => simp at h1 h2; subst h1; subst h2; exact h
  | 1 => simp at h1 h2; subst h1; subst h2; exact .bool b
  | i + 2 => simp at h1

def MapAt (w : World) (m' : Value) (es' : Array MapEntry) : Prop :=
  (m' = .map none ∧ es' = #[]) ∨ ∃ r c, m' = .map (some r) ∧ w.heap[r]? = some (.map es' c)

theorem run_lookup_some {w : World} {t kt et : TypeId} {m' k' : Value} {ok : Bool} {es' : Array MapEntry} {i : Nat} {v : Value} (hu : P.underlying t = some (.map kt et)) (hm : MapAt w m' es')
    (hc : (Instr.checkKey es'.isEmpty 10000 kt k').run P w = .ok () w) (hf : (Instr.findKey kt k' es'.toList).run P w = .ok (some (i, v)) w) :
    (Instr.lookup t m' k' ok).run P w = .ok (if ok then .tuple #[v, .bool true] else v) w := by
  rcases hm with ⟨rfl, rfl⟩ | ⟨r, c, rfl, h⟩
  · unfold Instr.lookup
    simp only [Sem.run_bind, run_underlying hu, Result.andThen_ok, Sem.run_pure, hc, hf]
  · unfold Instr.lookup
    simp only [Sem.run_bind, run_underlying hu, Result.andThen_ok, Sem.run_pure, run_getObj_map h, hc, hf]

theorem run_lookup_none {w : World} {t kt et : TypeId} {m' k' : Value} {ok : Bool} {es' : Array MapEntry} {z : Value} (hu : P.underlying t = some (.map kt et)) (hm : MapAt w m' es')
    (hc : (Instr.checkKey es'.isEmpty 10000 kt k').run P w = .ok () w) (hf : (Instr.findKey kt k' es'.toList).run P w = .ok none w) (hz : (zeroValue et).run P w = .ok z w) :
    (Instr.lookup t m' k' ok).run P w = .ok (if ok then .tuple #[z, .bool false] else z) w := by
  rcases hm with ⟨rfl, rfl⟩ | ⟨r, c, rfl, h⟩
  · unfold Instr.lookup
    simp only [Sem.run_bind, run_underlying hu, Result.andThen_ok, Sem.run_pure, hc, hf, hz]
  · unfold Instr.lookup
    simp only [Sem.run_bind, run_underlying hu, Result.andThen_ok, Sem.run_pure, run_getObj_map h, hc, hf, hz]

theorem Rel.mapAt {s : AS} {w : World} (h : Rel P base φ s w) {m m' : Value} (hm : VRel φ m m') {es} (he : s.map m = some es) :
    ∃ es', MapAt w m' es' ∧ AR (MRel φ) es es' := by
  rcases h.map hm he with ⟨rfl, rfl⟩ | ⟨r, es', c, rfl, h1, h2⟩
  · exact ⟨#[], .inl ⟨rfl, rfl⟩, AR.empty⟩
  · exact ⟨es', .inr ⟨r, c, rfl, h1⟩, h2⟩

theorem AR.isEmpty {α β : Type} {R : α → β → Prop} {xs : Array α} {ys : Array β} (h : AR R xs ys) : ys.isEmpty = xs.isEmpty := by
  simp only [Array.isEmpty, h.1]

theorem evLookup_ok (hP : POk P) {s : AS} {w : World} (hrel : Rel P base φ s w) {t : TypeId} {m m' k k' u : Value} {ok : Bool} (hm : VRel φ m m') (hk : VRel φ k k')
    (h : evLookup P s t m k ok = some u) : ∃ u', (Instr.lookup t m' k' ok).run P w = .ok u' w ∧ VRel φ u u' := by
  unfold evLookup at h
  split at h
  · rename_i kt et es hu hes
    cases hp : plain k with
    | false => rw [hp] at h; cases h
    | true =>
      rw [hp, cond_true] at h
      have ek := (plain_rel hp).2 _ hk
      subst ek
      obtain ⟨es', h0, h1⟩ := hrel.mapAt hm hes
      split at h
      · rename_i v hc hf
        cases h
        obtain ⟨r', q1, q2⟩ := findKey_rel (P := P) h1.keys w hf
        rcases q2 with ⟨q2, _⟩ | ⟨j, e, e', q2, q3, q4, q5⟩
        · cases q2
        · cases q4
          subst q5
          have hv : VRel φ e.val e'.val := (h1.2 j e e' (by simpa using q2) (by simpa using q3)).2.2.2
          refine ⟨_, run_lookup_some hu h0 (by rw [h1.isEmpty]; exact pureRun_run _ hc w) q1, ?_⟩
          cases ok
          · exact hv
          · exact pair_rel hv true
      · rename_i hc hf
        split at h
        · rename_i z hz
          cases h
          obtain ⟨z1, z2⟩ := zeroOf_ok (φ := φ) hP hz w
          obtain ⟨r', q1, q2⟩ := findKey_rel (P := P) h1.keys w hf
          rcases q2 with ⟨_, rfl⟩ | ⟨j, e, e', _, _, q4, _⟩
          · refine ⟨_, run_lookup_none hu h0 (by rw [h1.isEmpty]; exact pureRun_run _ hc w) q1 z1, ?_⟩
            cases ok
            · exact z2
            · exact pair_rel z2 false
          · cases q4
        · cases h
      · cases h
  · cases h

/-! ## A store into a map -/
def evUpdate (P : Program) (s : AS) (t : TypeId) (m k v : Value) : Option AS :=
  match P.underlying t, m with
  | some (.map kt _), .map (some b) =>
    match s.get b with
    | some ⟨.map es clock, _⟩ =>
      bif plain k && Nat.ble s.lock b then
        match pureRun P (Instr.checkKey false 10000 kt k), pureRun P (Instr.findKey kt k es.toList) with
        | some _, some (some (i, _)) =>
          match es[i]? with
          | some e => bif Instr.sameBits 10000 e.key k then some (s.put b ⟨.map (es.modify i fun e => { e with key := k, val := v }) clock, false⟩) else none
          | none => none
        | some _, some none => some (s.put b ⟨.map (es.push { key := k, val := v, born := clock }) (clock + 1), false⟩)
        | _, _ => none
      else none
    | _ => none
  | _, _ => none

theorem AR.modify {α β : Type} {R : α → β → Prop} {xs : Array α} {ys : Array β} (h : AR R xs ys) (i : Nat) {f : α → α} {g : β → β} (hfg : ∀ a b, R a b → R (f a) (g b)) : AR R (xs.modify i f) (ys.modify i g) := by
  refine ⟨by simpa using h.1, fun j v v' h1 h2 => ?_⟩
  rw [Array.getElem?_modify] at h1 h2
  split at h1
  · rw [if_pos (by assumption)] at h2
    rw [Option.map_eq_some_iff] at h1 h2
    obtain ⟨a, a1, rfl⟩ := h1
    obtain ⟨b, b1, rfl⟩ := h2
    exact hfg _ _ (h.2 j a b a1 b1)
  · rw [if_neg (by assumption)] at h2
    exact h.2 j v v' h1 h2

/-- What is put in the place of a map. -/
theorem Rel.putMap {s : AS} {w : World} (hrel : Rel P base φ s w) {b r : Nat} {es es1 es1' : Array MapEntry} {es' : Array MapEntry} {c c1 : Nat} {gr : Bool} (hg : s.get b = some ⟨.map es c, gr⟩) (hb : φ.blk b = some r) (hlk : s.lock ≤ b)
    (h1 : AR (MRel φ) es1 es1') : Rel P base φ (s.put b ⟨.map es1 c1, false⟩) { w with heap := w.heap.setIfInBounds r (.map es1' c1) } ∧ Gr φ s w φ (s.put b ⟨.map es1 c1, false⟩) { w with heap := w.heap.setIfInBounds r (.map es1' c1) } := by
  have hlt := hrel.inb _ _ hb
  refine hrel.update hg hb hlk (by simp) rfl rfl rfl (fun i hi => ?_) (ORel.of_ObR (o := .map es1 c1) ⟨es1', rfl, h1⟩ (by simp [hlt]))
  simp only [Array.getElem?_setIfInBounds]
  rw [if_neg (fun e => hi e.symm)]

theorem evUpdate_ok {s s' : AS} {w : World} (hrel : Rel P base φ s w) {t : TypeId} {m m' k k' v v' : Value} (hm : VRel φ m m') (hk : VRel φ k k') (hv : VRel φ v v')
    (h : evUpdate P s t m k v = some s') : ∃ w', (Instr.mapUpdate t m' k' v').run P w = .ok () w' ∧ Rel P base φ s' w' ∧ Gr φ s w φ s' w' := by
  unfold evUpdate at h
  split at h
  · rename_i kt et b hu
    cases hm with
    | map _ r hb =>
    split at h
    · rename_i es clock gr hg
      cases hpl : (plain k && Nat.ble s.lock b) with
      | false => rw [hpl] at h; cases h
      | true =>
        rw [hpl, cond_true] at h
        rw [Bool.and_eq_true, Nat.ble_eq] at hpl
        obtain ⟨hp, hlk⟩ := hpl
        have ek := (plain_rel hp).2 _ hk
        subst ek
        obtain ⟨r', h1, h2, _⟩ := hrel.live _ _ hg
        rw [hb] at h1; cases h1
        obtain ⟨es', h3, h4⟩ := h2
        split at h
        · rename_i i vv hc hf
          obtain ⟨r', q1, q2⟩ := findKey_rel (P := P) h4.keys w hf
          rcases q2 with ⟨q2, _⟩ | ⟨j, e, e', q2, q3, q4, q5⟩
          · cases q2
          · cases q4
            subst q5
            rw [Nat.zero_add] at *
            have q2' : es[j]? = some e := by simpa using q2
            have q3' : es'[j]? = some e' := by simpa using q3
            rw [q2'] at h
            simp only at h
            cases hsb : Instr.sameBits 10000 e.key k' with
            | false => rw [hsb] at h; cases h
            | true =>
              rw [hsb, cond_true] at h
              cases h
              have hke : e'.key = e.key := (h4.2 j e e' q2' q3').1
              obtain ⟨k1, k2⟩ := hrel.putMap (es' := es') (c1 := clock) hg hb hlk (h4.modify j (f := fun e => { e with key := k', val := v }) (g := fun e => { e with key := k', val := v' }) (fun a b hab => ⟨rfl, hp, hab.2.2.1, hv⟩))
              refine ⟨_, ?_, k1, k2⟩
              unfold Instr.mapUpdate
              simp only [Sem.run_bind, run_underlying hu, Result.andThen_ok, run_getObj_map h3, pureRun_run _ hc w, q1, q3', Option.map_some, Option.getD_some, hke, Instr.keyThatStays, hsb, if_true, Sem.run_pure, run_setObj_map h3]
        · rename_i hc hf
          cases h
          obtain ⟨r', q1, q2⟩ := findKey_rel (P := P) h4.keys w hf
          rcases q2 with ⟨_, rfl⟩ | ⟨j, e, e', _, _, q4, _⟩
          · obtain ⟨k1, k2⟩ := hrel.putMap (es' := es') (c1 := clock + 1) hg hb hlk (h4.push (a := { key := k', val := v, born := clock }) (b := { key := k', val := v', born := clock }) ⟨rfl, hp, rfl, hv⟩)
            refine ⟨_, ?_, k1, k2⟩
            unfold Instr.mapUpdate
            simp only [Sem.run_bind, run_underlying hu, Result.andThen_ok, run_getObj_map h3, pureRun_run _ hc w, q1, run_setObj_map h3]
          · cases q4
        · cases h
    · cases h
  · cases h

/-! ## delete, len -/
def evDelete (P : Program) (s : AS) (t : TypeId) (m k : Value) : Option AS :=
  match P.underlying t, m with
  | some (.map kt _), .map (some b) =>
    match s.get b with
    | some ⟨.map es clock, _⟩ =>
      bif plain k && Nat.ble s.lock b then
        match pureRun P (Instr.checkKey es.isEmpty 10000 kt k), pureRun P (Instr.findKey kt k es.toList) with
        | some _, some (some (i, _)) => some (s.put b ⟨.map (es.eraseIdxIfInBounds i) clock, false⟩)
        | some _, some none => some (s.put b ⟨.map es clock, false⟩)
        | _, _ => none
      else none
    | _ => none
  | _, _ => none

theorem LR.eraseIdx {α β : Type} {R : α → β → Prop} {xs ys} (h : LR R xs ys) (i : Nat) : LR R (xs.eraseIdx i) (ys.eraseIdx i) := by
  induction h generalizing i with
  | nil => simpa using LR.nil
  | cons h t ih => cases i with
    | zero => simpa using t
    | succ i => simpa using LR.cons h (ih i)

theorem AR.erase {α β : Type} {R : α → β → Prop} {xs : Array α} {ys : Array β} (h : AR R xs ys) (i : Nat) : AR R (xs.eraseIdxIfInBounds i) (ys.eraseIdxIfInBounds i) := by
  rw [AR.iff_LR] at *
  simp only [Array.toList_eraseIdxIfInBounds]
  exact h.eraseIdx i

theorem evDelete_ok {s s' : AS} {w : World} (hrel : Rel P base φ s w) {t ty : TypeId} {ts : Array TypeId} (ht : ts[0]? = some t) {m m' k k' : Value} (hm : VRel φ m m') (hk : VRel φ k k')
    (h : evDelete P s t m k = some s') : ∃ w', (Builtin.delete_ ts ty #[m', k']).run P w = .ok (.tuple #[]) w' ∧ Rel P base φ s' w' ∧ Gr φ s w φ s' w' := by
  unfold evDelete at h
  split at h
  · rename_i kt et b hu
    cases hm with
    | map _ r hb =>
    split at h
    · rename_i es clock gr hg
      cases hpl : (plain k && Nat.ble s.lock b) with
      | false => rw [hpl] at h; cases h
      | true =>
        rw [hpl, cond_true] at h
        rw [Bool.and_eq_true, Nat.ble_eq] at hpl
        obtain ⟨hp, hlk⟩ := hpl
        have ek := (plain_rel hp).2 _ hk
        subst ek
        obtain ⟨r', h1, h2, _⟩ := hrel.live _ _ hg
        rw [hb] at h1; cases h1
        obtain ⟨es', h3, h4⟩ := h2
        split at h
        · rename_i i vv hc hf
          cases h
          obtain ⟨r', q1, q2⟩ := findKey_rel (P := P) h4.keys w hf
          rcases q2 with ⟨q2, _⟩ | ⟨j, e, e', q2, q3, q4, q5⟩
          · cases q2
          · cases q4
            subst q5
            obtain ⟨k1, k2⟩ := hrel.putMap (es' := es') (c1 := clock) hg hb hlk (h4.erase (0 + j))
            refine ⟨_, ?_, k1, k2⟩
            unfold Builtin.delete_
            have hc' := pureRun_run _ hc w
            rw [← h4.isEmpty] at hc'
            simp [ht, Sem.run_bind, run_underlying hu, run_getObj_map h3, hc', q1, run_setObj_map h3]
        · rename_i hc hf
          cases h
          obtain ⟨r', q1, q2⟩ := findKey_rel (P := P) h4.keys w hf
          rcases q2 with ⟨_, rfl⟩ | ⟨j, e, e', _, _, q4, _⟩
          · obtain ⟨k1, k2⟩ := hrel.putMap (es' := es') (c1 := clock) hg hb hlk h4
            refine ⟨_, ?_, k1, k2⟩
            unfold Builtin.delete_
            have hc' := pureRun_run _ hc w
            rw [← h4.isEmpty] at hc'
            simp [ht, Sem.run_bind, run_underlying hu, run_getObj_map h3, hc', q1, run_setObj_map h3]
          · cases q4
        · cases h
    · cases h
  · cases h

def evLen (P : Program) (s : AS) (t : TypeId) (x : Value) : Option Value :=
  match P.underlying t, x with
  | some (.slice _), .slice _ n _ => some (goInt n)
  | some (.map _ _), m =>
    match s.map m with
    | some es => some (goInt es.size)
    | none => none
  | _, _ => none

theorem evLen_ok {s : AS} {w : World} (hrel : Rel P base φ s w) {t ty : TypeId} {ts : Array TypeId} (ht : ts[0]? = some t) {x x' u : Value} (hx : VRel φ x x')
    (h : evLen P s t x = some u) : (Builtin.len_ ts ty #[x']).run P w = .ok u w ∧ VRel φ u u := by
  unfold evLen at h
  split at h
  · rename_i e a n c hu
    cases h
    refine ⟨?_, .int _ _⟩
    unfold Builtin.len_
    cases hx <;> simp [ht, run_underlying hu]
  · rename_i kt et hu
    split at h
    · rename_i es hes
      cases h
      refine ⟨?_, .int _ _⟩
      unfold Builtin.len_
      rcases hrel.map hx hes with ⟨rfl, rfl⟩ | ⟨r, es', c, rfl, h1, h2⟩
      · simp [ht, run_underlying hu]
      · simp [ht, run_underlying hu, run_getObj_map h1, h2.1]
    · cases h
  · cases h

end
end Go.Aw
