/- The abstract machine, part U: strings.Join by its contract; a call from a start of plain arguments. -/
import Derived.Test.YthaodoaaefhhcaaGreatDoorAwT
import Derived.Lib.Join
namespace Go.Aw
open Go Go.RowKit
set_option linter.unusedVariables false
set_option linter.unusedSimpArgs false

section
variable {P : Program} {base : Nat} {φ : Phi} {s : AS} {w w' : World}

theorem Rel.grown (h : Rel P base φ s w) (hb : Below w.heap.size w w') : Rel P base φ s w' ∧ Gr φ s w φ s w' := by
  refine ⟨⟨h.fresh, fun b r hr => Nat.lt_of_lt_of_le (h.inb b r hr) hb.size, fun b o hg => ?_, h.inj, h.glob, Nat.le_trans h.bas hb.size, h.lk⟩, ⟨φ.le_refl, Nat.le_refl _, fun _ _ => rfl, rfl, fun _ _ => rfl, hb.os, hb.tape, hb.output, hb.size, fun r hr _ => hb.block r hr, fun b o' r h1 h2 h3 _ => ⟨b, o', h2, h1, h3⟩⟩⟩
  obtain ⟨r, h1, h2, h3⟩ := h.live b o hg
  exact ⟨r, h1, h2.congr (hb.block r (h.inb b r h1)), h3⟩

/-! ## strings.Join -/
def strsOf : List Value → Option (List ByteArray)
  | [] => some []
  | .string s :: r =>
    match strsOf r with
    | some l => some (s :: l)
    | none => none
  | _ :: _ => none

theorem strsOf_get : ∀ {l : List Value} {xs : List ByteArray}, strsOf l = some xs → l.length = xs.length ∧ ∀ (j : Nat) x, xs[j]? = some x → l[j]? = some (.string x) := by
  intro l
  induction l with
  | nil => intro xs h; cases h; exact ⟨rfl, fun j x h => by simp at h⟩
  | cons v r ih =>
    intro xs h
    cases v with
    | string s =>
      simp only [strsOf] at h
      split at h
      · rename_i l hl
        cases h
        obtain ⟨h1, h2⟩ := ih hl
        refine ⟨by simp [h1], fun j x hx => ?_⟩
        cases j with
        | zero => simpa using hx
        | succ j => simpa using h2 j x (by simpa using hx)
      · cases h
    | _ => cases h

def cellsAt (s : AS) (b o n : Nat) : Option (List Value) :=
  match s.get b with
  | some ⟨.cells c _ _, _⟩ => some ((c.toList.drop o).take n)
  | _ => none

def joinPrim (f0 : Nat) : CallF := fun f args s =>
  bif Nat.beq f f0 then
    match args.toList with
    | [.slice none n c, .string sep] => bif Nat.beq n 0 then some (.string ⟨#[]⟩, s) else none
    | [.slice (some ⟨b, o, none⟩) n _, .string sep] =>
      match cellsAt s b o n with
      | some l =>
        match strsOf l with
        | some xs =>
          bif Nat.beq xs.length n && Nat.ble n 140737488355328 && Nat.ble (Lib.join (xs.map (·.data.toList)) sep.data.toList).length 140737488355328
          then some (.string ⟨(Lib.join (xs.map (·.data.toList)) sep.data.toList).toArray⟩, s) else none
        | none => none
      | none => none
    | _ => none
  else none

structure JoinOk (P : Program) (f0 : Nat) : Prop where
  nil : ∀ (a : Option Addr) (c : Nat) (sep : ByteArray) (w : World), Calls P f0 #[.slice a 0 c, .string sep] w fun e w' => e = .returned (.string ⟨#[]⟩) ∧ w' = w
  many : ∀ (bk o c : Nat) (xs : List ByteArray) (sep : ByteArray) (w : World), (∀ (j : Nat) x, xs[j]? = some x → w.cell? ⟨bk, o + j, none⟩ = some (.string x)) → bk < w.heap.size → xs.length ≤ 140737488355328 → xs.length ≤ c →
    (Lib.join (xs.map (·.data.toList)) sep.data.toList).length ≤ 140737488355328 →
    Calls P f0 #[.slice (some ⟨bk, o, none⟩) xs.length c, .string sep] w fun e w' => e = .returned (.string ⟨(Lib.join (xs.map (·.data.toList)) sep.data.toList).toArray⟩) ∧ Below w.heap.size w w'

theorem args_two {args args' : Array Value} {x y : Value} (h : AR (VRel φ) args args') (hl : args.toList = [x, y]) : ∃ x' y', args' = #[x', y'] ∧ VRel φ x x' ∧ VRel φ y y' := by
  have h1 := h.toLR
  rw [hl] at h1
  obtain ⟨l⟩ := args'
  simp only at h1
  cases h1 with
  | cons h1 h2 =>
    cases h2 with
    | cons h2 h3 =>
      cases h3
      exact ⟨_, _, rfl, h1, h2⟩

theorem joinPrim_ok {f0 : Nat} (hj : JoinOk P f0) : CallOk P (joinPrim f0) := by
  intro f args s v s' h base φ w args' hrel hargs
  unfold joinPrim at h
  cases hf : Nat.beq f f0 with
  | false => rw [hf] at h; cases h
  | true =>
    rw [hf, cond_true] at h
    have hf' := Nat.eq_of_beq_eq_true hf
    subst hf'
    split at h
    · rename_i n c sep hl
      obtain ⟨x', y', rfl, hx, hy⟩ := args_two hargs hl
      cases hn : Nat.beq n 0 with
      | false => rw [hn] at h; cases h
      | true =>
        rw [hn, cond_true] at h
        cases h
        have := Nat.eq_of_beq_eq_true hn
        subst this
        cases hx
        cases hy
        refine (hj.nil none c sep w).mono ?_
        rintro e w' ⟨rfl, rfl⟩
        exact ⟨φ, _, rfl, .string _, hrel, Gr.refl _ _ _⟩
    · rename_i b o n c sep hl
      obtain ⟨x', y', rfl, hx, hy⟩ := args_two hargs hl
      split at h
      · rename_i l hc
        split at h
        · rename_i xs hxs
          cases hn : (Nat.beq xs.length n && Nat.ble n 140737488355328 && Nat.ble (Lib.join (xs.map (·.data.toList)) sep.data.toList).length 140737488355328) with
          | false => rw [hn] at h; cases h
          | true =>
            rw [hn, cond_true] at h
            cases h
            simp only [Bool.and_eq_true] at hn
            obtain ⟨⟨n1, n2⟩, n3⟩ := hn
            have e1 := Nat.eq_of_beq_eq_true n1
            subst e1
            cases hy
            cases hx with
            | slice _ _ r _ _ c' hb hcap hle =>
              refine (hj.many r o c' xs sep w (fun j x hj' => ?_) (hrel.inb b r hb) (Nat.le_of_ble_eq_true n2) hle (Nat.le_of_ble_eq_true n3)).mono ?_
              · unfold cellsAt at hc
                split at hc
                · rename_i cc ee ff gg hg
                  cases hc
                  have h1 := (strsOf_get hxs).2 j x hj'
                  have hjlt : j < xs.length := (List.getElem?_eq_some_iff.1 hj').1
                  rw [List.getElem?_take, if_pos hjlt, List.getElem?_drop] at h1
                  have h2 : s.cell ⟨b, o + j, none⟩ = some (.string x) := by
                    unfold AS.cell
                    simp only [hg]
                    rw [← Array.getElem?_toList]
                    exact h1
                  obtain ⟨v', q1, q2⟩ := hrel.cell hb h2
                  cases q2
                  exact q1
                · cases hc
              · rintro e w' ⟨rfl, hbel⟩
                obtain ⟨q1, q2⟩ := hrel.grown hbel
                exact ⟨φ, _, rfl, .string _, q1, q2⟩
        · cases h
      · cases h
    · cases h

end

/-! ## A start -/
/-- The memory at the beginning of a call: nothing is known of it, and none of it is written. -/
def start (n : Nat) : AS := { next := n, lock := n, heap := .leaf }

theorem start_ok {P : Program} {n : Nat} (hn : P.globals.size ≤ n) {w : World} (hw : P.globals.size ≤ w.heap.size) :
    Rel P w.heap.size ⟨fun b => if b < P.globals.size then some b else none, fun _ => 0⟩ (start n) w := {
  fresh b hb := by
    have : n ≤ b := hb
    show (if b < P.globals.size then some b else none) = none
    rw [if_neg (by omega)]
  inb b r h := by
    have h : (if b < P.globals.size then some b else none) = some r := h
    split at h
    · cases h; omega
    · cases h
  live b o h := by cases h
  inj b b' o o' r h := by cases h
  glob g hg := by show (if g < P.globals.size then some g else none) = some g; rw [if_pos hg]
  bas := Nat.le_refl _
  lk := Nat.le_refl _ }

/-- Did it answer true? -/
def yes : Option (Value × AS) → Bool
  | some (.bool true, _) => true
  | _ => false

/-- A call with plain arguments that the abstract machine ends with a plain value. -/
theorem call_plain {P : Program} {n : Nat} (hn : P.globals.size ≤ n) {call : CallF} (hc : CallOk P call) {f : FuncId} {args : Array Value} (ha : args.toList.all plain = true)
    (h : yes (call f args (start n)) = true) {w : World} (hw : P.globals.size ≤ w.heap.size) :
    Calls P f args w fun e w' => e = .returned (.bool true) ∧ Below w.heap.size w w' := by
  unfold yes at h
  split at h
  · rename_i s' hs
    have hrel := start_ok hn hw
    refine (hc f args (start n) _ s' hs _ _ w args hrel (AR.of_all (fun _ => plain_rel) ha).1).mono ?_
    rintro e w' ⟨χ, v', rfl, h1, h2, h3⟩
    cases h1
    exact ⟨rfl, h3.below hrel⟩
  · cases h

end Go.Aw
