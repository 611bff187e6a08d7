/- The abstract machine, part B: the tree of an operation run in abstract memory, and what that says of its run in the world. -/
import Derived.Test.YthaodoaaefhhcaaGreatDoorAwA
namespace Go.Aw
open Go Go.RowKit
set_option linter.unusedVariables false
set_option linter.unusedSimpArgs false

/-! ## The abstract run -/
def AS.cell (s : AS) (a : Addr) : Option Value :=
  match s.get a.block, a.spot with
  | some ⟨.cells c _ _, _⟩, none => c[a.off]?
  | _, _ => none

def AS.setCell (s : AS) (a : Addr) (v : Value) : Option AS :=
  match s.get a.block, a.spot with
  | some ⟨.cells c e (0, 0), g⟩, none => bif Nat.blt a.off c.size && Nat.ble s.lock a.block then some (s.put a.block ⟨.cells (c.setIfInBounds a.off v) e (0, 0), g⟩) else none
  | _, _ => none

def newOk : Obj → Bool
  | .cells _ _ (0, 0) => true
  | .map es _ => es.isEmpty
  | .stringIter .. | .mapIter .. => true
  | _ => false

def looked : Obj → Bool
  | .map .. | .stringIter .. | .mapIter .. => true
  | _ => false

def runA (P : Program) {α : Type} : Sem α → AS → Option (α × AS)
  | .pure a, s => some (a, s)
  | .load _ a k, s =>
    match s.cell a with
    | some v => runA P (k v) s
    | none => none
  | .store _ a v k, s =>
    bif v.oneCell' then
      match s.setCell a v with
      | some s' => runA P k s'
      | none => none
    else none
  | .new o k, s => bif newOk o then runA P (k s.next) (s.new ⟨o, false⟩) else none
  | .getObj r k, s =>
    match s.get r with
    | some ⟨o, _⟩ => bif looked o then runA P (k o) s else none
    | none => none
  | .setObj r o k, s =>
    match s.get r with
    | some ⟨o0, _⟩ => bif looked o0 && looked o && Nat.ble s.lock r then runA P k (s.put r ⟨o, false⟩) else none
    | none => none
  | .choose q k, s => bif q.forced then runA P (k 0) s else none
  | .program k, s => runA P (k P) s
  | .mark _ k, s => runA P k s
  | _, _ => none

section
variable {P : Program} {α β : Type}

theorem runA_bind' (x : Sem α) (f : α → Sem β) (s : AS) : runA P (x.bind f) s = (runA P x s).bind fun p => runA P (f p.1) p.2 := by
  induction x generalizing s with
  | pure a => rfl
  | load m a k ih => simp only [Sem.bind, runA]; split <;> simp [ih]
  | store m a v k ih => simp only [Sem.bind, runA]; cases v.oneCell' <;> simp only [cond_true, cond_false, Option.bind_none] <;> (split <;> simp [ih])
  | new o k ih => simp only [Sem.bind, runA]; cases newOk o <;> simp [ih]
  | shape r k ih => rfl
  | freeze a n k ih => rfl
  | frozen a k ih => rfl
  | getObj r k ih => simp only [Sem.bind, runA]; split <;> (try (rename_i o _ _; cases looked o)) <;> simp [ih]
  | setObj r o k ih => simp only [Sem.bind, runA]; split <;> (try (rename_i o0 _ _; cases (looked o0 && looked o && Nat.ble s.lock r))) <;> simp [ih]
  | choose q k ih => simp only [Sem.bind, runA]; cases q.forced <;> simp [ih]
  | sys c k ih => rfl
  | program k ih => simp [Sem.bind, runA, ih]
  | mark m k ih => simp [Sem.bind, runA, ih]
  | halt h => rfl

theorem runA_bind (x : Sem α) (f : α → Sem β) (s : AS) : runA P (x >>= f) s = (runA P x s).bind fun p => runA P (f p.1) p.2 := runA_bind' x f s
theorem runA_pure (a : α) (s : AS) : runA P (pure a : Sem α) s = some (a, s) := rfl
end

/-! ## Objects up to a renaming -/
def ObR (φ : Phi) : Obj → Obj → Prop
  | .cells c e fz, o' => ∃ c', o' = .cells c' e (0, 0) ∧ fz = (0, 0) ∧ AR (VRel φ) c c'
  | .map es clock, o' => ∃ es', o' = .map es' clock ∧ AR (MRel φ) es es'
  | .stringIter s p, o' => o' = .stringIter s p
  | .mapIter m since seen st, o' => ∃ m', o' = .mapIter m' since seen st ∧ ((m = none ∧ m' = none) ∨ ∃ b r, m = some b ∧ m' = some r ∧ φ.blk b = some r)
  | _, _ => False

theorem MRel.mono {φ ψ : Phi} (h : φ.le ψ) {e e' : MapEntry} (k : MRel φ e e') : MRel ψ e e' := ⟨k.1, k.2.1, k.2.2.1, k.2.2.2.mono h⟩

theorem ObR.mono {φ ψ : Phi} (hle : φ.le ψ) {o o' : Obj} (h : ObR φ o o') : ObR ψ o o' := by
  cases o with
  | cells c e fz => obtain ⟨c', h1, h2, h3⟩ := h; exact ⟨c', h1, h2, h3.vmono hle⟩
  | map es clock => obtain ⟨es', h1, h2⟩ := h; exact ⟨es', h1, h2.mono fun _ _ k => k.mono hle⟩
  | stringIter s p => exact h
  | mapIter m a b c =>
    obtain ⟨m', h1, h2⟩ := h
    refine ⟨m', h1, ?_⟩
    rcases h2 with h2 | ⟨b, r, h3, h4, h5⟩
    · exact .inl h2
    · exact .inr ⟨b, r, h3, h4, (hle _ _ h5).1⟩
  | _ => exact h.elim

section
variable {P : Program} {base : Nat} {φ ψ : Phi} {s : AS} {w w' : World}

theorem ORel.congr {b r : Nat} {o : AObj} (h : ORel P φ w b o r) (hw : w'.heap[r]? = w.heap[r]?) : ORel P φ w' b o r := by
  unfold ORel at *
  rw [hw]; exact h

theorem ORel.mono {b r : Nat} {o : AObj} (hle : φ.le ψ) (hb : φ.blk b = some r) (h : ORel P φ w b o r) : ORel P ψ w b o r := by
  unfold ORel at *
  split at h
  · split at h
    · rename_i hg
      obtain ⟨c', h1, h2, h3, h4, h5⟩ := h
      simp only [hg, if_true]
      exact ⟨c', h1, h2, fun i v v' a b => (h3 i v v' a b).mono hle, by rw [(hle _ _ hb).2]; exact h4, by rw [(hle _ _ hb).2]; exact h5⟩
    · rename_i hg
      obtain ⟨c', fz', h1, h2, h3⟩ := h
      rw [if_neg hg]
      exact ⟨c', fz', h1, h2.vmono hle, h3⟩
  · obtain ⟨es', h1, h2⟩ := h
    exact ⟨es', h1, h2.mono fun _ _ k => k.mono hle⟩
  · exact h
  · obtain ⟨m', h1, h2⟩ := h
    refine ⟨m', h1, ?_⟩
    rcases h2 with h2 | ⟨b, r, h3, h4, h5⟩
    · exact .inl h2
    · exact .inr ⟨b, r, h3, h4, (hle _ _ h5).1⟩
  · exact h

theorem ORel.of_ObR {b r : Nat} {o o' : Obj} (h : ObR φ o o') (hw : w.heap[r]? = some o') : ORel P φ w b ⟨o, false⟩ r := by
  unfold ORel
  cases o with
  | cells c e fz =>
    obtain ⟨c', rfl, rfl, h3⟩ := h
    simp only [Bool.false_eq_true, if_false]
    exact ⟨c', (0, 0), hw, h3, fun _ => by simp⟩
  | map es clock => obtain ⟨es', rfl, h2⟩ := h; exact ⟨es', hw, h2⟩
  | stringIter s p => cases h; exact hw
  | mapIter m a b c => obtain ⟨m', rfl, h2⟩ := h; exact ⟨m', hw, h2⟩
  | _ => exact h.elim

/-- A world that differs in draws alone. -/
theorem Rel.same (h : Rel P base φ s w) (hh : w'.heap = w.heap) : Rel P base φ s w' := {
  fresh := h.fresh
  inb b r hb := by rw [hh]; exact h.inb b r hb
  live b o ho := by
    obtain ⟨r, h1, h2, h3⟩ := h.live b o ho
    exact ⟨r, h1, h2.congr (by rw [hh]), h3⟩
  inj := h.inj
  glob := h.glob
  bas := by rw [hh]; exact h.bas
  lk := h.lk }

/-- What differs in draws alone. -/
theorem Gr.same_heap (hh : w'.heap = w.heap) (hos : w'.os = w.os) (htape : w'.tape = w.tape) (hout : w'.output = w.output) : Gr φ s w φ s w' :=
  ⟨φ.le_refl, Nat.le_refl _, fun _ _ => rfl, rfl, fun _ _ => rfl, hos, htape, hout, by rw [hh]; exact Nat.le_refl _, fun r _ _ => by rw [hh], fun b o' r h1 h2 h3 _ => ⟨b, o', h2, h1, h3⟩⟩

def Phi.ext (φ : Phi) (b r c : Nat) : Phi := ⟨fun x => if x = b then some r else φ.blk x, fun x => if x = b then c else φ.cap x⟩
theorem Phi.le_ext {b r c : Nat} (h : φ.blk b = none) : φ.le (φ.ext b r c) := fun x y hx => by
  have hne : x ≠ b := fun e => by rw [e, h] at hx; cases hx
  exact ⟨by simp [Phi.ext, hne, hx], by simp [Phi.ext, hne]⟩
theorem Phi.ext_blk {b r c : Nat} : (φ.ext b r c).blk b = some r := by simp [Phi.ext]
theorem Phi.ext_cap {b r c : Nat} : (φ.ext b r c).cap b = c := by simp [Phi.ext]

/-- A block that is written. -/
theorem Rel.update (h : Rel P base φ s w) {b r : Nat} {o o1 : AObj} (ho : s.get b = some o) (hb : φ.blk b = some r) (hlk : s.lock ≤ b)
    (hsz : w'.heap.size = w.heap.size) (hos : w'.os = w.os) (htape : w'.tape = w.tape) (hout : w'.output = w.output) (hoth : ∀ i, i ≠ r → w'.heap[i]? = w.heap[i]?) (hnew : ORel P φ w' b o1 r) :
    Rel P base φ (s.put b o1) w' ∧ Gr φ s w φ (s.put b o1) w' := by
  have hget : ∀ z t, (s.put b o1).get z = some t → ∃ t', s.get z = some t' := by
    intro z t ht
    unfold AS.put AS.get at ht
    rw [Tr.get_set] at ht
    split at ht
    · rename_i e; subst e; exact ⟨o, ho⟩
    · exact ⟨t, ht⟩
  refine ⟨⟨h.fresh, ?_, ?_, ?_, h.glob, ?_, h.lk⟩, ⟨φ.le_refl, Nat.le_refl _, fun _ _ => rfl, rfl, ?_, hos, htape, hout, by rw [hsz]; exact Nat.le_refl _, ?_, ?_⟩⟩
  · intro x y hx; rw [hsz]; exact h.inb x y hx
  · intro x p hp
    unfold AS.put AS.get at hp
    rw [Tr.get_set] at hp
    split at hp
    · rename_i e; subst e
      cases hp
      refine ⟨r, hb, hnew, fun _ => ?_⟩
      obtain ⟨r', h1, _, h3⟩ := h.live _ _ ho
      rw [hb] at h1; cases h1
      exact h3 hlk
    · rename_i hne
      obtain ⟨r', h1, h2, h3⟩ := h.live x p hp
      refine ⟨r', h1, h2.congr (hoth r' fun e => ?_), h3⟩
      subst e
      exact hne (h.inj x b p o r' hp ho h1 hb)
  · intro x y p q r' hx hy h1 h2
    obtain ⟨p', hp'⟩ := hget x p hx
    obtain ⟨q', hq'⟩ := hget y q hy
    exact h.inj x y p' q' r' hp' hq' h1 h2
  · rw [hsz]; exact h.bas
  · intro x hx
    unfold AS.put AS.get
    rw [Tr.get_set, if_neg (by omega)]
  · intro k hk hno
    exact hoth k fun e => hno b o hlk ho (by rw [e]; exact hb)
  · intro x p r' hp hl hx _
    obtain ⟨p', hp'⟩ := hget x p hp
    exact ⟨x, p', hl, hp', hx⟩

/-- A new block. -/
theorem Rel.allocG (h : Rel P base φ s w) {o : AObj} {C : Nat} {ob : Obj} (hheap : w'.heap = w.heap.push ob) (hos : w'.os = w.os) (htape : w'.tape = w.tape) (hout : w'.output = w.output)
    (ho : ORel P (φ.ext s.next w.heap.size C) w' s.next o w.heap.size) : Rel P base (φ.ext s.next w.heap.size C) (s.new o) w' ∧ Gr φ s w (φ.ext s.next w.heap.size C) (s.new o) w' := by
  have hle : φ.le (φ.ext s.next w.heap.size C) := Phi.le_ext (h.fresh _ (Nat.le_refl _))
  have hsz : w'.heap.size = w.heap.size + 1 := by rw [hheap]; simp
  have hold : ∀ r, r < w.heap.size → w'.heap[r]? = w.heap[r]? := fun r hr => by
    rw [hheap, Array.getElem?_push, if_neg (by omega)]
  refine ⟨⟨?_, ?_, ?_, ?_, ?_, ?_, ?_⟩, ⟨hle, by simp [AS.new], ?_, rfl, ?_, hos, htape, hout, by omega, fun r hr _ => hold r hr, ?_⟩⟩
  · intro b hb
    have : b ≠ s.next := fun e => by rw [e] at hb; simp only [AS.new] at hb; omega
    simp only [Phi.ext, if_neg this]
    exact h.fresh b (by simp [AS.new] at hb; omega)
  · intro b r hb
    simp only [Phi.ext] at hb
    rw [hsz]
    split at hb
    · cases hb; omega
    · have := h.inb b r hb; omega
  · intro b p hp
    unfold AS.new AS.get at hp
    rw [Tr.get_set] at hp
    split at hp
    · rename_i e; subst e
      cases hp
      exact ⟨w.heap.size, Phi.ext_blk, ho, fun _ => h.bas⟩
    · obtain ⟨r', h1, h2, h3⟩ := h.live b p hp
      exact ⟨r', (hle _ _ h1).1, (h2.congr (hold r' (h.inb _ _ h1))).mono hle h1, h3⟩
  · intro x y p q r' hx hy h1 h2
    unfold AS.new AS.get at hx hy
    rw [Tr.get_set] at hx hy
    simp only [Phi.ext] at h1 h2
    split at hx <;> split at hy <;> simp_all
    · have := h.inb _ _ h2; omega
    · have := h.inb _ _ h1; omega
    · exact h.inj x y p q r' hx hy h1 h2
  · intro g hg
    have hlt : g ≠ s.next := fun e => by
      have := h.glob g hg
      rw [h.fresh g (by omega)] at this; cases this
    simp only [Phi.ext, if_neg hlt]
    exact h.glob g hg
  · have := h.bas; omega
  · have := h.lk; simp only [AS.new]; omega
  · intro b hb
    simp only [Phi.ext]
    rw [if_neg (by omega)]
  · intro b hb
    unfold AS.new AS.get
    rw [Tr.get_set, if_neg (by have := h.lk; omega)]
  · intro b p r hp hl hb hr
    unfold AS.new AS.get at hp
    rw [Tr.get_set] at hp
    simp only [Phi.ext] at hb
    split at hp
    · rename_i e
      rw [if_pos e] at hb
      cases hb; omega
    · rename_i e
      rw [if_neg e] at hb
      exact ⟨b, p, hl, hp, hb⟩

theorem Rel.alloc (h : Rel P base φ s w) {o o' : Obj} (ho : ObR φ o o') : Rel P base (φ.ext s.next w.heap.size 0) (s.new ⟨o, false⟩) (w.alloc o') ∧ Gr φ s w (φ.ext s.next w.heap.size 0) (s.new ⟨o, false⟩) (w.alloc o') :=
  h.allocG rfl rfl rfl rfl (ORel.of_ObR (ho.mono (Phi.le_ext (h.fresh _ (Nat.le_refl _)))) (heap_alloc_new w o'))

end
end Go.Aw
