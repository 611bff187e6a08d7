/- The abstract machine, part H: append. -/
import Derived.Test.YthaodoaaefhhcaaGreatDoorAwG
import Derived.Laws.AppendOwn
namespace Go.Aw
open Go Go.RowKit
set_option linter.unusedVariables false
set_option linter.unusedSimpArgs false

section
variable {P : Program} {base : Nat} {φ ψ : Phi}

/-! ## Cells that are read leave all as it is -/
theorem loadCellsFrom_read {s : AS} {w : World} (hrel : Rel P base φ s w) {a a' : Addr} (ha : AdR φ a a') : ∀ (n i : Nat) {acc acc' : Array Value}, AR (VRel φ) acc acc' →
    ∀ {c s'}, runA P (loadCellsFrom a i n acc) s = some (c, s') → s' = s ∧ ∃ c', (loadCellsFrom a' i n acc').run P w = .ok c' w ∧ AR (VRel φ) c c' := by
  intro n
  induction n with
  | zero => intro i acc acc' hacc c s' h; cases h; exact ⟨rfl, acc', rfl, hacc⟩
  | succ n ih =>
    intro i acc acc' hacc c s' h
    unfold loadCellsFrom at h ⊢
    rw [runA_bind] at h
    obtain ⟨b, o, r, e1, e2, hb⟩ := ha.add i
    rw [e1] at h
    rw [e2]
    cases hc : s.cell ⟨b, o, none⟩ with
    | none => simp [Go.load, runA, hc] at h
    | some v =>
      obtain ⟨v', h1, h2⟩ := hrel.cell hb hc
      simp only [Go.load, runA, hc, Option.bind_some] at h
      obtain ⟨k1, c', k2, k3⟩ := ih (i + 1) (hacc.push h2) h
      refine ⟨k1, c', ?_, k3⟩
      rw [Sem.run_bind, run_load, h1]
      exact k2

theorem loadCells_read {s : AS} {w : World} (hrel : Rel P base φ s w) {a a' : Addr} (ha : AdR φ a a') {n : Nat} {c s'} (h : runA P (loadCells a n) s = some (c, s')) :
    s' = s ∧ ∃ c', (loadCells a' n).run P w = .ok c' w ∧ AR (VRel φ) c c' := loadCellsFrom_read hrel ha n 0 AR.empty h

theorem firstCells_read {s : AS} {w : World} (hrel : Rel P base φ s w) {x x' : Value} (hx : VRel φ x x') {z n : Nat} {c s'} (h : runA P (Builtin.firstCells z n x) s = some (c, s')) :
    s' = s ∧ ∃ c', (Builtin.firstCells z n x').run P w = .ok c' w ∧ AR (VRel φ) c c' := by
  cases hx with
  | slice b o r l c0 c1 hb _ _ => exact loadCells_read hrel ⟨b, o, r, rfl, rfl, hb⟩ h
  | slice0 l c0 => cases h; exact ⟨rfl, #[], rfl, AR.empty⟩
  | string t =>
    cases h
    refine ⟨rfl, _, rfl, ?_⟩
    refine (AR.plain (φ := φ) ?_).1
    rw [List.all_eq_true]
    intro v hv
    simp only [Array.mem_toList_iff, Array.mem_map] at hv
    obtain ⟨u, _, rfl⟩ := hv
    rfl
  | _ => cases h

/-! ## A block under another name -/
theorem Rel.dropB {s : AS} {w : World} (h : Rel P base φ s w) (b : Nat) : Rel P base φ (s.drop b) w := {
  fresh := h.fresh
  inb := h.inb
  live x p hp := by
    unfold AS.drop AS.get at hp
    rw [Tr.get_set] at hp
    split at hp
    · cases hp
    · exact h.live x p hp
  inj x y p q r hx hy := by
    unfold AS.drop AS.get at hx hy
    rw [Tr.get_set] at hx hy
    split at hx
    · cases hx
    · split at hy
      · cases hy
      · exact h.inj x y p q r hx hy
  glob := h.glob
  bas := h.bas
  lk := h.lk }

theorem Gr.dropB (s : AS) (w : World) {b : Nat} (hb : s.lock ≤ b) : Gr φ s w φ (s.drop b) w := {
  le := φ.le_refl
  next := Nat.le_refl _
  same _ _ := rfl
  lock := rfl
  keep x hx := by
    unfold AS.drop AS.get
    rw [Tr.get_set, if_neg (by omega)]
  os := rfl
  tape := rfl
  output := rfl
  size := Nat.le_refl _
  frame _ _ _ := rfl
  back x o r h1 h2 h3 _ := by
    unfold AS.drop AS.get at h1
    rw [Tr.get_set] at h1
    split at h1
    · cases h1
    · exact ⟨x, o, h2, h1, h3⟩ }

/-- The same real block under a new name. -/
theorem Rel.reuse {s : AS} {w w' : World} (h : Rel P base φ s w) {b r C : Nat} {o o1 : AObj} (hg : s.get b = some o) (hb : φ.blk b = some r) (hlk : s.lock ≤ b)
    (hsz : w'.heap.size = w.heap.size) (hos : w'.os = w.os) (htape : w'.tape = w.tape) (hout : w'.output = w.output) (hoth : ∀ i, i ≠ r → w'.heap[i]? = w.heap[i]?) (hnew : ORel P (φ.ext s.next r C) w' s.next o1 r) :
    Rel P base (φ.ext s.next r C) ((s.drop b).new o1) w' ∧ Gr φ s w (φ.ext s.next r C) ((s.drop b).new o1) w' := by
  have hle : φ.le (φ.ext s.next r C) := Phi.le_ext (h.fresh _ (Nat.le_refl _))
  have hdrop : ∀ x p, ((s.heap.set b none).get x) = some p → x ≠ b ∧ s.get x = some p := by
    intro x p hp
    rw [Tr.get_set] at hp
    split at hp
    · cases hp
    · exact ⟨by assumption, hp⟩
  have hblt : b < s.next := by
    rcases Nat.lt_or_ge b s.next with hl | hl
    · exact hl
    · rw [h.fresh b hl] at hb; cases hb
  refine ⟨⟨?_, ?_, ?_, ?_, ?_, ?_, ?_⟩, ⟨hle, by simp [AS.new, AS.drop], ?_, rfl, ?_, hos, htape, hout, by omega, ?_, ?_⟩⟩
  · intro x hx
    have : x ≠ s.next := fun e => by rw [e] at hx; simp only [AS.new, AS.drop] at hx; omega
    simp only [Phi.ext, if_neg this]
    exact h.fresh x (by simp [AS.new, AS.drop] at hx; omega)
  · intro x y hx
    simp only [Phi.ext] at hx
    rw [hsz]
    split at hx
    · cases hx; exact h.inb _ _ hb
    · exact h.inb _ _ hx
  · intro x p hp
    unfold AS.new AS.drop AS.get at hp
    simp only at hp
    rw [Tr.get_set] at hp
    split at hp
    · rename_i e; subst e
      cases hp
      refine ⟨r, Phi.ext_blk, hnew, fun _ => ?_⟩
      obtain ⟨r', h1, _, h3⟩ := h.live _ _ hg
      rw [hb] at h1; cases h1
      exact h3 hlk
    · obtain ⟨hne, hp⟩ := hdrop x p hp
      obtain ⟨r', h1, h2, h3⟩ := h.live x p hp
      exact ⟨r', (hle _ _ h1).1, (h2.congr (hoth r' fun e => hne (by subst e; exact h.inj x b p o r' hp hg h1 hb))).mono hle h1, h3⟩
  · intro x y p q r' hx hy h1 h2
    unfold AS.new AS.drop AS.get at hx hy
    simp only at hx hy
    rw [Tr.get_set] at hx hy
    simp only [Phi.ext] at h1 h2
    split at hx
    · rename_i e1
      split at hy
      · rename_i e2; rw [e1, e2]
      · rename_i e2
        obtain ⟨hne, hy⟩ := hdrop y q hy
        rw [if_pos e1] at h1; rw [if_neg e2] at h2
        cases h1
        exact absurd (h.inj y b q o r hy hg h2 hb) hne
    · rename_i e1
      obtain ⟨hnx, hx⟩ := hdrop x p hx
      rw [if_neg e1] at h1
      split at hy
      · rename_i e2
        rw [if_pos e2] at h2
        cases h2
        exact absurd (h.inj x b p o r hx hg h1 hb) hnx
      · rename_i e2
        obtain ⟨hne, hy⟩ := hdrop y q hy
        rw [if_neg e2] at h2
        exact h.inj x y p q r' hx hy h1 h2
  · intro g hg'
    have hlt : g ≠ s.next := fun e => by
      have := h.glob g hg'
      rw [h.fresh g (by omega)] at this; cases this
    simp only [Phi.ext, if_neg hlt]
    exact h.glob g hg'
  · rw [hsz]; exact h.bas
  · have := h.lk; simp only [AS.new, AS.drop]; omega
  · intro x hx
    simp only [Phi.ext]
    rw [if_neg (by omega)]
  · intro x hx
    unfold AS.new AS.drop AS.get
    simp only
    rw [Tr.get_set, if_neg (by have := h.lk; omega), Tr.get_set, if_neg (by omega)]
  · intro k hk hno
    exact hoth k fun e => hno b o hlk hg (by rw [e]; exact hb)
  · intro x p r' hp hl hx hr'
    unfold AS.new AS.drop AS.get at hp
    simp only at hp
    rw [Tr.get_set] at hp
    simp only [Phi.ext] at hx
    split at hp
    · rename_i e
      rw [if_pos e] at hx
      cases hx
      exact ⟨b, o, hlk, hg, hb⟩
    · rename_i e
      rw [if_neg e] at hx
      obtain ⟨hne, hp⟩ := hdrop x p hp
      exact ⟨x, p, hl, hp, hx⟩

/-! ## append -/
def lenA : Value → Option Nat
  | .slice _ n _ => some n
  | .string s => some s.size
  | _ => none

def strOrSlice : TypeDesc → Bool
  | .string | .slice _ => true
  | _ => false

def bigOk (need bytes : Nat) : Bool := Nat.ble need 140737488355328 && Nat.ble (need * bytes) 140737488355328

def evAppend (P : Program) (s : AS) (ts : Array TypeId) (sv xv : Value) : Option (Value × AS) :=
  match ts[0]?, ts[1]?, sv, lenA xv with
  | some st, some xt, .slice bs sLen sCap, some n =>
    match P.underlying st, P.underlying xt with
    | some (.slice e), some xd =>
      match P.info? e with
      | some i =>
        match i.zero, runA P (Builtin.firstCells i.size n xv) s with
        | some z, some (new, _) =>
          bif !(known P st) || !(strOrSlice xd) || !(Nat.beq new.size (n * i.size)) || !(bigOk (sLen + n) i.bytes) || Nat.beq i.size 0 || !(new.toList.all Value.oneCell') then none else
          bif Nat.blt sCap capT then
            bif Nat.ble (sLen + n) sCap then
              match bs with
              | none => some (.slice none (sLen + n) sCap, s)
              | some a =>
                match runA P (storeCells (a.add (sLen * i.size)) new.toList) s with
                | some (_, s2) => some (.slice (some a) (sLen + n) sCap, s2)
                | none => none
            else
              match runA P (Builtin.firstCells i.size sLen sv) s with
              | some (old, _) =>
                bif Nat.beq old.size (sLen * i.size) then some (.slice (some ⟨s.next, 0, none⟩) (sLen + n) capU, s.new ⟨.cells (old ++ new) e (0, 0), true⟩) else none
              | none => none
          else
            match bs with
            | some ⟨b, 0, none⟩ =>
              match s.get b with
              | some ⟨.cells c e' (0, 0), true⟩ =>
                bif Nat.ble s.lock b && Nat.beq sCap capU && Nat.beq e' e && Nat.ble (sLen * i.size) c.size then
                  some (.slice (some ⟨s.next, 0, none⟩) (sLen + n) capU, (s.drop b).new ⟨.cells (c.extract 0 (sLen * i.size) ++ new) e (0, 0), true⟩)
                else none
              | _ => none
            | _ => none
        | _, _ => none
      | none => none
    | _, _ => none
  | _, _, _, _ => none

theorem run_lenOf {x x' : Value} (hx : VRel φ x x') {n : Nat} (h : lenA x = some n) (w : World) : (Builtin.lenOf x').run P w = .ok n w := by
  cases hx <;> simp [lenA] at h <;> subst h <;> rfl

theorem strOrSlice_or {xd : TypeDesc} (h : strOrSlice xd = true) : xd = .string ∨ ∃ k, xd = .slice k := by
  cases xd <;> first | exact .inl rfl | exact .inr ⟨_, rfl⟩ | cases h

section run
variable {w : World} {ts : Array TypeId} {ty st xt e : TypeId} {xd : TypeDesc} {i : TypeInfo} {z : Value} {x' : Value} {n sLen cap' : Nat} {new' : Array Value}

theorem run_append_in (h0 : ts[0]? = some st) (h1 : ts[1]? = some xt) (hst : P.underlying st = some (.slice e)) (hxt : P.underlying xt = some xd) (hx : strOrSlice xd = true) (hi : P.info? e = some i)
    (hl : (Builtin.lenOf x').run P w = .ok n w) (hn : (Builtin.firstCells i.size n x').run P w = .ok new' w) (hroom : sLen + n ≤ cap') {bs : Option Addr} {w2 : World}
    (hs : match bs with | none => w2 = w | some a => (storeCells (a.add (sLen * i.size)) new'.toList).run P w = .ok () w2) :
    (Builtin.append_ ts ty #[.slice bs sLen cap', x']).run P w = .ok (.slice bs (sLen + n) cap') w2 := by
  rcases strOrSlice_or hx with rfl | ⟨k, rfl⟩ <;> cases bs with
  | none =>
    subst hs
    simp [Builtin.append_, h0, h1, run_underlying hst, run_underlying hxt, sizeOf, run_typeInfo_of hi, hl, hn, hroom]
  | some a =>
    simp [Builtin.append_, h0, h1, run_underlying hst, run_underlying hxt, sizeOf, run_typeInfo_of hi, hl, hn, hroom, hs]

theorem run_append_out (h0 : ts[0]? = some st) (h1 : ts[1]? = some xt) (hst : P.underlying st = some (.slice e)) (hxt : P.underlying xt = some xd) (hx : strOrSlice xd = true) (hi : P.info? e = some i)
    (hz : i.zero = some z) (hl : (Builtin.lenOf x').run P w = .ok n w) (hn : (Builtin.firstCells i.size n x').run P w.drew = .ok new' w.drew) (hroom : cap' < sLen + n) {bs : Option Addr} {old' : Array Value}
    (ho : (Builtin.firstCells i.size sLen (.slice bs sLen cap')).run P w.drew = .ok old' w.drew) (hbig : bigOk (sLen + n) i.bytes = true) :
    (Builtin.append_ ts ty #[.slice bs sLen cap', x']).run P w = .ok (.slice (some ⟨w.heap.size, 0, none⟩) (sLen + n) (grownCap w (sLen + n) cap' e))
      (w.drew.alloc (.cells (old' ++ new' ++ Builtin.zeroCells z.cells (grownCap w (sLen + n) cap' e - (sLen + n))) e)) := by
  unfold bigOk at hbig
  simp only [Bool.and_eq_true, Nat.ble_eq] at hbig
  have h63 : ¬ (9223372036854775807 < ((sLen : Int) + (n : Int))) := by omega
  have h48 : ¬ (281474976710656 < Builtin.nextslicecap (sLen + n) cap' * i.bytes) := by have := growslice_fits hroom hbig.2; omega
  have hnr : ¬ (sLen + n ≤ cap') := by omega
  rcases strOrSlice_or hx with rfl | ⟨k, rfl⟩ <;>
  simp [Builtin.append_, h0, h1, run_underlying hst, run_underlying hxt, sizeOf, run_typeInfo_of hi, typeInfo, zeroValue, hi, hz, hl, hn, hnr, ho, h63, h48, Question.forced, newRow, grownCap]
end run

end
end Go.Aw
