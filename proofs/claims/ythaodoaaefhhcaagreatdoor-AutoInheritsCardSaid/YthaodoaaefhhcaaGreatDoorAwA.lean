/- The abstract machine, part A: maps on numbers, values up to a renaming of blocks, abstract memory, the running of one operation's tree in it. -/
import Derived.Below
import Derived.Laws.Sem
import Derived.Orders
namespace Go.Aw
open Go Go.RowKit
set_option linter.unusedVariables false
set_option linter.unusedSimpArgs false

/-! ## Maps on numbers -/
inductive Tr (α : Type) where
  | leaf : Tr α
  | node (v : Option α) (l r : Tr α) : Tr α

namespace Tr
variable {α : Type}
def get : Tr α → Nat → Option α
  | .leaf, _ => none
  | .node v l r, n => bif Nat.beq n 0 then v else bif Nat.beq (n % 2) 1 then l.get (n / 2) else r.get (n / 2 - 1)
def top : Tr α → Option α
  | .leaf => none
  | .node v _ _ => v
def lft : Tr α → Tr α
  | .leaf => .leaf
  | .node _ l _ => l
def rgt : Tr α → Tr α
  | .leaf => .leaf
  | .node _ _ r => r
def setF (v : Option α) : Nat → Nat → Tr α → Tr α
  | 0, _, t => t
  | f + 1, n, t =>
    bif Nat.beq n 0 then .node v t.lft t.rgt
    else bif Nat.beq (n % 2) 1 then .node t.top (setF v f (n / 2) t.lft) t.rgt
    else .node t.top t.lft (setF v f (n / 2 - 1) t.rgt)
def set (t : Tr α) (n : Nat) (v : Option α) : Tr α := setF v (n + 1) n t

theorem top_node (v : Option α) (l r : Tr α) : (Tr.node v l r).top = v := rfl
theorem lft_node (v : Option α) (l r : Tr α) : (Tr.node v l r).lft = l := rfl
theorem rgt_node (v : Option α) (l r : Tr α) : (Tr.node v l r).rgt = r := rfl
theorem beq_ne {n m : Nat} (h : n ≠ m) : Nat.beq n m = false := by
  cases hb : Nat.beq n m with
  | false => rfl
  | true => exact absurd (Nat.eq_of_beq_eq_true hb) h
theorem get_leaf (n : Nat) : (Tr.leaf : Tr α).get n = none := rfl
theorem get_eq (t : Tr α) (n : Nat) : t.get n = if n = 0 then t.top else if n % 2 = 1 then t.lft.get (n / 2) else t.rgt.get (n / 2 - 1) := by
  cases t with
  | leaf => simp [get, top, lft, rgt]
  | node v l r =>
    simp only [get, top, lft, rgt]
    by_cases h : n = 0
    · subst h; simp
    · have h0 : Nat.beq n 0 = false := beq_ne h
      rw [h0, cond_false, if_neg h]
      by_cases h1 : n % 2 = 1
      · rw [if_pos h1, h1]; rfl
      · have h2 : Nat.beq (n % 2) 1 = false := by
          cases hb : Nat.beq (n % 2) 1 with
          | false => rfl
          | true => exact absurd (Nat.eq_of_beq_eq_true hb) h1
        rw [if_neg h1, h2, cond_false]

theorem get_setF (v : Option α) : ∀ (f n : Nat) (t : Tr α) (m : Nat), n < f → (setF v f n t).get m = if m = n then v else t.get m := by
  intro f
  induction f with
  | zero => intro n t m h; omega
  | succ f ih =>
    intro n t m h
    simp only [setF]
    by_cases h0 : n = 0
    · subst h0
      rw [show Nat.beq 0 0 = true from rfl, cond_true, get_eq]
      simp only [top_node, lft_node, rgt_node]
      by_cases hm : m = 0
      · simp [hm]
      · rw [if_neg hm, if_neg hm, get_eq t m, if_neg hm]
    · have hb : Nat.beq n 0 = false := beq_ne h0
      rw [hb, cond_false]
      by_cases h1 : n % 2 = 1
      · rw [h1, show Nat.beq 1 1 = true from rfl, cond_true, get_eq]
        simp only [top_node, lft_node, rgt_node]
        rw [ih _ _ _ (by omega), get_eq t m]
        by_cases hm : m = 0
        · subst hm; simp [Ne.symm h0]
        · rw [if_neg hm, if_neg hm]
          by_cases hm1 : m % 2 = 1
          · rw [if_pos hm1, if_pos hm1]
            by_cases he : m = n
            · rw [if_pos he, if_pos (by rw [he])]
            · rw [if_neg he, if_neg (by omega)]
          · rw [if_neg hm1, if_neg hm1, if_neg (by intro e; subst e; exact hm1 h1)]
      · have h2 : Nat.beq (n % 2) 1 = false := by
          exact beq_ne h1
        rw [h2, cond_false, get_eq]
        simp only [top_node, lft_node, rgt_node]
        rw [ih _ _ _ (by omega), get_eq t m]
        by_cases hm : m = 0
        · subst hm; simp [Ne.symm h0]
        · rw [if_neg hm, if_neg hm]
          by_cases hm1 : m % 2 = 1
          · rw [if_pos hm1, if_pos hm1, if_neg (by intro e; subst e; exact h1 hm1)]
          · rw [if_neg hm1, if_neg hm1]
            by_cases he : m = n
            · rw [if_pos he, if_pos (by rw [he])]
            · rw [if_neg he, if_neg (by omega)]

theorem get_set (t : Tr α) (n m : Nat) (v : Option α) : (t.set n v).get m = if m = n then v else t.get m := get_setF v (n + 1) n t m (by omega)
theorem get_set_same (t : Tr α) (n : Nat) (v : Option α) : (t.set n v).get n = v := by rw [get_set, if_pos rfl]
theorem get_set_ne (t : Tr α) {n m : Nat} (v : Option α) (h : m ≠ n) : (t.set n v).get m = t.get m := by rw [get_set, if_neg h]
end Tr

/-! ## Values up to a renaming -/
/-- Where an abstract block lies; of a block that append made: its real capacity. -/
structure Phi where
  blk : Nat → Option Nat
  cap : Nat → Nat

def Phi.le (φ ψ : Phi) : Prop := ∀ b r, φ.blk b = some r → ψ.blk b = some r ∧ ψ.cap b = φ.cap b
theorem Phi.le_refl (φ : Phi) : φ.le φ := fun _ _ h => ⟨h, rfl⟩
theorem Phi.le.trans {φ ψ χ : Phi} (h : φ.le ψ) (k : ψ.le χ) : φ.le χ := fun b r hb =>
  let ⟨h1, h2⟩ := h b r hb; let ⟨k1, k2⟩ := k b r h1; ⟨k1, k2.trans h2⟩

/-- The capacity of a slice of which it is not known. -/
def capU : Nat := 2 ^ 100
def capT : Nat := 2 ^ 80

def CapRel (φ : Phi) (b cap cap' : Nat) : Prop := (cap < capT ∧ cap' = cap) ∨ (capT ≤ cap ∧ ∃ k, cap + k = capU ∧ cap' + k = φ.cap b)

def fnOk : Fn → Bool
  | .yield _ => false
  | _ => true

inductive VRel (φ : Phi) : Value → Value → Prop
  | bool (b) : VRel φ (.bool b) (.bool b)
  | int (k n) : VRel φ (.int k n) (.int k n)
  | float (k n) : VRel φ (.float k n) (.float k n)
  | complex (k a b) : VRel φ (.complex k a b) (.complex k a b)
  | string (s) : VRel φ (.string s) (.string s)
  | ptr0 : VRel φ (.pointer none) (.pointer none)
  | ptr (b o r) : φ.blk b = some r → VRel φ (.pointer (some ⟨b, o, none⟩)) (.pointer (some ⟨r, o, none⟩))
  | slice0 (l c) : VRel φ (.slice none l c) (.slice none l c)
  | slice (b o r l c c') : φ.blk b = some r → CapRel φ b c c' → l ≤ c' → VRel φ (.slice (some ⟨b, o, none⟩) l c) (.slice (some ⟨r, o, none⟩) l c')
  | map0 : VRel φ (.map none) (.map none)
  | map (b r) : φ.blk b = some r → VRel φ (.map (some b)) (.map (some r))
  | func (fn : Fn) (f f' c c' : Array Value) : fnOk fn = true → f.size = f'.size → (∀ (i : Nat) (v v' : Value), f[i]? = some v → f'[i]? = some v' → VRel φ v v') → c.size = c'.size → (∀ (i : Nat) (v v' : Value), c[i]? = some v → c'[i]? = some v' → VRel φ v v') → VRel φ (.func fn f c) (.func fn f' c')
  | nilFunc : VRel φ .nilFunc .nilFunc
  | iface (t v v') : VRel φ v v' → VRel φ (.iface t v) (.iface t v')
  | nilIface : VRel φ .nilIface .nilIface
  | agg (c c' : Array Value) : c.size = c'.size → (∀ (i : Nat) (v v' : Value), c[i]? = some v → c'[i]? = some v' → VRel φ v v') → VRel φ (.agg c) (.agg c')
  | tuple (c c' : Array Value) : c.size = c'.size → (∀ (i : Nat) (v v' : Value), c[i]? = some v → c'[i]? = some v' → VRel φ v v') → VRel φ (.tuple c) (.tuple c')

/-- Arrays, place by place. -/
def AR {α β : Type} (R : α → β → Prop) (xs : Array α) (ys : Array β) : Prop := xs.size = ys.size ∧ ∀ (i : Nat) v v', xs[i]? = some v → ys[i]? = some v' → R v v'

theorem AR.mono {α β : Type} {R S : α → β → Prop} {xs : Array α} {ys : Array β} (h : AR R xs ys) (hrs : ∀ a b, R a b → S a b) : AR S xs ys := ⟨h.1, fun i v v' h1 h2 => hrs _ _ (h.2 i v v' h1 h2)⟩
theorem AR.empty {α β : Type} {R : α → β → Prop} : AR R #[] #[] := ⟨rfl, fun i v v' h _ => by simp at h⟩

theorem CapRel.mono {φ ψ : Phi} (h : φ.le ψ) {b r c c' : Nat} (hb : φ.blk b = some r) (k : CapRel φ b c c') : CapRel ψ b c c' := by
  rcases k with k | ⟨k1, n, k2, k3⟩
  · exact .inl k
  · exact .inr ⟨k1, n, k2, by rw [(h b r hb).2]; exact k3⟩

theorem VRel.mono {φ ψ : Phi} (h : φ.le ψ) {v v' : Value} (k : VRel φ v v') : VRel ψ v v' := by
  induction k with
  | bool b => exact .bool b
  | int k n => exact .int k n
  | float k n => exact .float k n
  | complex k a b => exact .complex k a b
  | string s => exact .string s
  | ptr0 => exact .ptr0
  | ptr b o r hb => exact .ptr b o r (h _ _ hb).1
  | slice0 l c => exact .slice0 l c
  | slice b o r l c c' hb hc hl => exact .slice b o r l c c' (h _ _ hb).1 (hc.mono h hb) hl
  | map0 => exact .map0
  | map b r hb => exact .map b r (h _ _ hb).1
  | func fn f f' c c' h0 h1 _ h2 _ i1 i2 => exact .func fn f f' c c' h0 h1 i1 h2 i2
  | nilFunc => exact .nilFunc
  | iface t v v' _ i => exact .iface t v v' i
  | nilIface => exact .nilIface
  | agg c c' h1 _ i => exact .agg c c' h1 i
  | tuple c c' h1 _ i => exact .tuple c c' h1 i

theorem AR.vmono {φ ψ : Phi} (h : φ.le ψ) {xs ys : Array Value} (k : AR (VRel φ) xs ys) : AR (VRel ψ) xs ys := k.mono fun _ _ hv => hv.mono h

theorem VRel.undef {φ : Phi} : VRel φ undef undef := .tuple #[] #[] rfl (fun i v v' h _ => by simp at h)

/-- Values without an address in them. -/
def plain0 : Value → Bool
  | .bool _ | .int .. | .float .. | .complex .. | .string _ | .pointer none | .slice none _ _ | .map none | .nilFunc | .nilIface => true
  | .func fn f c => fnOk fn && f.isEmpty && c.isEmpty
  | _ => false
def plain1 : Value → Bool
  | .iface _ v => plain0 v
  | v => plain0 v
def plainA : Value → Bool
  | .agg cs => cs.toList.all plain1
  | v => plain1 v
def plain : Value → Bool
  | .tuple cs => cs.toList.all plainA
  | v => plainA v

theorem plain0_rel {φ : Phi} {v : Value} (h : plain0 v = true) : VRel φ v v ∧ ∀ v', VRel φ v v' → v' = v := by
  cases v with
  | bool b => exact ⟨.bool b, fun v' k => by cases k; rfl⟩
  | int k n => exact ⟨.int k n, fun v' k => by cases k; rfl⟩
  | float k n => exact ⟨.float k n, fun v' k => by cases k; rfl⟩
  | complex k a b => exact ⟨.complex k a b, fun v' k => by cases k; rfl⟩
  | string s => exact ⟨.string s, fun v' k => by cases k; rfl⟩
  | pointer a => cases a with
    | none => exact ⟨.ptr0, fun v' k => by cases k; rfl⟩
    | some a => simp [plain0] at h
  | slice a l c => cases a with
    | none => exact ⟨.slice0 l c, fun v' k => by cases k; rfl⟩
    | some a => simp [plain0] at h
  | map r => cases r with
    | none => exact ⟨.map0, fun v' k => by cases k; rfl⟩
    | some a => simp [plain0] at h
  | chan r => simp [plain0] at h
  | func fn f c =>
    simp only [plain0, Bool.and_eq_true, Array.isEmpty_iff] at h
    obtain ⟨⟨h0, rfl⟩, rfl⟩ := h
    refine ⟨.func fn #[] #[] #[] #[] h0 rfl (fun i v v' h _ => by simp at h) rfl (fun i v v' h _ => by simp at h), fun v' k => ?_⟩
    cases k with
    | func _ _ f' _ c' _ h1 _ h2 _ =>
      have e1 : f' = #[] := Array.eq_empty_of_size_eq_zero (by simpa using h1.symm)
      have e2 : c' = #[] := Array.eq_empty_of_size_eq_zero (by simpa using h2.symm)
      subst e1; subst e2; rfl
  | nilFunc => exact ⟨.nilFunc, fun v' k => by cases k; rfl⟩
  | iface t v => simp [plain0] at h
  | nilIface => exact ⟨.nilIface, fun v' k => by cases k; rfl⟩
  | agg c => simp [plain0] at h
  | tuple c => simp [plain0] at h

theorem plain1_rel {φ : Phi} {v : Value} (h : plain1 v = true) : VRel φ v v ∧ ∀ v', VRel φ v v' → v' = v := by
  cases v with
  | iface t v =>
    have := plain0_rel (φ := φ) (v := v) h
    exact ⟨.iface t v v this.1, fun v' k => by cases k with | iface _ _ w hw => rw [this.2 w hw]⟩
  | _ => exact plain0_rel h

theorem AR.of_all {φ : Phi} {p : Value → Bool} (hp : ∀ v, p v = true → VRel φ v v ∧ ∀ v', VRel φ v v' → v' = v) {cs : Array Value} (h : cs.toList.all p = true) : AR (VRel φ) cs cs ∧ ∀ cs', AR (VRel φ) cs cs' → cs' = cs := by
  have hall : ∀ (i : Nat) (v : Value), cs[i]? = some v → p v = true := fun i v hv => by
    rw [List.all_eq_true] at h
    exact h v (by rw [Array.mem_toList_iff]; exact Array.mem_of_getElem? hv)
  refine ⟨⟨rfl, fun i v v' h1 h2 => ?_⟩, fun cs' k => ?_⟩
  · rw [h1] at h2; cases h2
    exact (hp v (hall i v h1)).1
  · apply Array.ext (k.1.symm)
    intro i h1 h2
    have a1 : cs[i]? = some cs[i] := Array.getElem?_eq_getElem h2
    have a2 : cs'[i]? = some cs'[i] := Array.getElem?_eq_getElem h1
    exact (hp _ (hall i _ a1)).2 _ (k.2 i _ _ a1 a2)
theorem AR.plain {φ : Phi} {cs : Array Value} (h : cs.toList.all plain1 = true) : AR (VRel φ) cs cs ∧ ∀ cs', AR (VRel φ) cs cs' → cs' = cs := AR.of_all (fun _ => plain1_rel) h

theorem plainA_rel {φ : Phi} {v : Value} (h : plainA v = true) : VRel φ v v ∧ ∀ v', VRel φ v v' → v' = v := by
  cases v with
  | agg cs =>
    have := AR.plain (φ := φ) (cs := cs) h
    exact ⟨.agg cs cs this.1.1 this.1.2, fun v' k => by cases k with | agg _ c' h1 h2 => rw [this.2 c' ⟨h1, h2⟩]⟩
  | _ => exact plain1_rel h

theorem plain_rel {φ : Phi} {v : Value} (h : plain v = true) : VRel φ v v ∧ ∀ v', VRel φ v v' → v' = v := by
  cases v with
  | tuple cs =>
    have := AR.of_all (φ := φ) (fun _ => plainA_rel) (cs := cs) h
    exact ⟨.tuple cs cs this.1.1 this.1.2, fun v' k => by cases k with | tuple _ c' h1 h2 => rw [this.2 c' ⟨h1, h2⟩]⟩
  | _ => exact plainA_rel h

/-! ## Abstract memory -/
/-- A block: what it holds; is it one that append made, of which the first cells alone are known? -/
structure AObj where
  obj : Obj
  gr : Bool

/-- Blocks below 'lock' are not written. -/
structure AS where
  next : Nat
  lock : Nat
  heap : Tr AObj

def AS.get (s : AS) (b : Nat) : Option AObj := s.heap.get b
def AS.put (s : AS) (b : Nat) (o : AObj) : AS := { s with heap := s.heap.set b (some o) }
def AS.drop (s : AS) (b : Nat) : AS := { s with heap := s.heap.set b none }
def AS.new (s : AS) (o : AObj) : AS := { next := s.next + 1, lock := s.lock, heap := s.heap.set s.next (some o) }

def MRel (φ : Phi) (e e' : MapEntry) : Prop := e'.key = e.key ∧ plain e.key = true ∧ e'.born = e.born ∧ VRel φ e.val e'.val

def ORel (P : Program) (φ : Phi) (w : World) (b : Nat) (o : AObj) (r : Nat) : Prop :=
  match o.obj with
  | .cells c e fz =>
    if o.gr then ∃ c', w.heap[r]? = some (.cells c' e (0, 0)) ∧ c.size ≤ c'.size ∧ (∀ (i : Nat) v v', c[i]? = some v → c'[i]? = some v' → VRel φ v v') ∧ c'.size = φ.cap b * P.cellsOf e ∧ φ.cap b ≤ maxLen
    else ∃ c' fz', w.heap[r]? = some (.cells c' e fz') ∧ AR (VRel φ) c c' ∧ (fz = (0, 0) → fz' = (0, 0))
  | .map es clock => ∃ es', w.heap[r]? = some (.map es' clock) ∧ AR (MRel φ) es es'
  | .stringIter s p => w.heap[r]? = some (.stringIter s p)
  | .mapIter m since seen st => ∃ m', w.heap[r]? = some (.mapIter m' since seen st) ∧ ((m = none ∧ m' = none) ∨ ∃ b r, m = some b ∧ m' = some r ∧ φ.blk b = some r)
  | _ => False

structure RelF (P : Program) (base : Nat) (φ : Phi) (g : Nat → Option AObj) (next lock : Nat) (w : World) : Prop where
  fresh : ∀ b, next ≤ b → φ.blk b = none
  inb : ∀ b r, φ.blk b = some r → r < w.heap.size
  live : ∀ b o, g b = some o → ∃ r, φ.blk b = some r ∧ ORel P φ w b o r ∧ (lock ≤ b → base ≤ r)
  inj : ∀ b b' o o' r, g b = some o → g b' = some o' → φ.blk b = some r → φ.blk b' = some r → b = b'
  glob : ∀ g, g < P.globals.size → φ.blk g = some g
  bas : base ≤ w.heap.size
  lk : lock ≤ next

abbrev Rel (P : Program) (base : Nat) (φ : Phi) (s : AS) (w : World) : Prop := RelF P base φ s.get s.next s.lock w

/-- From one state to a later one. -/
structure Gr (φ : Phi) (s : AS) (w : World) (χ : Phi) (s' : AS) (w' : World) : Prop where
  le : φ.le χ
  next : s.next ≤ s'.next
  same : ∀ b, b < s.next → χ.blk b = φ.blk b
  lock : s'.lock = s.lock
  keep : ∀ b, b < s.lock → s'.get b = s.get b
  os : w'.os = w.os
  tape : w'.tape = w.tape
  output : w'.output = w.output
  size : w.heap.size ≤ w'.heap.size
  frame : ∀ r, r < w.heap.size → (∀ b o, s.lock ≤ b → s.get b = some o → φ.blk b ≠ some r) → w'.heap[r]? = w.heap[r]?
  back : ∀ b o' r, s'.get b = some o' → s.lock ≤ b → χ.blk b = some r → r < w.heap.size → ∃ b0 o, s.lock ≤ b0 ∧ s.get b0 = some o ∧ φ.blk b0 = some r

theorem Gr.refl (φ : Phi) (s : AS) (w : World) : Gr φ s w φ s w := {
  le := φ.le_refl
  next := Nat.le_refl _
  same _ _ := rfl
  lock := rfl
  keep _ _ := rfl
  os := rfl
  tape := rfl
  output := rfl
  size := Nat.le_refl _
  frame _ _ _ := rfl
  back b o' r h1 h2 h3 _ := ⟨b, o', h2, h1, h3⟩ }

theorem Gr.trans {φ ψ χ : Phi} {s t u : AS} {w v x : World} (h : Gr φ s w ψ t v) (k : Gr ψ t v χ u x) : Gr φ s w χ u x := {
  le := h.le.trans k.le
  next := Nat.le_trans h.next k.next
  same b hb := (k.same b (Nat.lt_of_lt_of_le hb h.next)).trans (h.same b hb)
  lock := k.lock.trans h.lock
  keep b hb := (k.keep b (by rw [h.lock]; exact hb)).trans (h.keep b hb)
  os := k.os.trans h.os
  tape := k.tape.trans h.tape
  output := k.output.trans h.output
  size := Nat.le_trans h.size k.size
  frame r hr hno := by
    refine (k.frame r (Nat.lt_of_lt_of_le hr h.size) fun b o hl hg hb => ?_).trans (h.frame r hr hno)
    rw [h.lock] at hl
    obtain ⟨b0, o0, q1, q2, q3⟩ := h.back b o r hg hl hb hr
    exact hno b0 o0 q1 q2 q3
  back b o' r hg hl hb hr := by
    obtain ⟨b1, o1, q1, q2, q3⟩ := k.back b o' r hg (by rw [h.lock]; exact hl) hb (Nat.lt_of_lt_of_le hr h.size)
    rw [h.lock] at q1
    exact h.back b1 o1 r q2 q1 q3 hr }

theorem Gr.below {P : Program} {base : Nat} {φ χ : Phi} {s s' : AS} {w w' : World} (h : Gr φ s w χ s' w') (hr : Rel P base φ s w) : Below base w w' := by
  refine ⟨h.os, h.tape, h.output, h.size, fun k hk => h.frame k (Nat.lt_of_lt_of_le hk hr.bas) fun b o hl hg hb => ?_⟩
  obtain ⟨r, h1, _, h3⟩ := hr.live b o hg
  rw [hb] at h1; cases h1
  have := h3 hl
  omega

end Go.Aw
