/- The abstract machine, part J: one operation. -/
import Derived.Test.YthaodoaaefhhcaaGreatDoorAwI
namespace Go.Aw
open Go Go.RowKit
set_option linter.unusedVariables false
set_option linter.unusedSimpArgs false

section
variable {P : Program} {base : Nat} {φ ψ : Phi}

/-! ## Bytes to a string -/
def bytesOf : List Value → Option (List UInt8)
  | [] => some []
  | .int .u8 n :: r =>
    match bytesOf r with
    | some l => some (UInt8.ofNat n.toNat :: l)
    | none => none
  | _ :: _ => none

def evBytes (P : Program) (s : AS) (src dst : TypeId) (x : Value) : Option Value :=
  match P.underlying src, P.underlying dst, x with
  | some (.slice e), some .string, .slice (some a) len _ =>
    match P.underlying e, runA P (loadCells a len) s with
    | some (.int .u8), some (c, _) =>
      match bytesOf c.toList with
      | some l => some (.string ⟨l.toArray⟩)
      | none => none
    | _, _ => none
  | _, _, _ => none

theorem push_all (ns : List Int) (s : ByteArray) : ns.foldl (fun r n => r.push (UInt8.ofNat n.toNat)) s = ⟨s.data ++ (ns.map fun n => UInt8.ofNat n.toNat).toArray⟩ := by
  induction ns generalizing s with
  | nil => simp
  | cons n ns ih =>
    rw [List.foldl_cons, ih]
    congr 1
    simp only [ByteArray.push, List.map_cons]
    apply Array.ext'
    simp

theorem bytesOf_rel {xs xs' : List Value} (h : LR (VRel φ) xs xs') : ∀ {l}, bytesOf xs = some l → ∃ ns : List Int, xs' = ns.map (Value.int .u8) ∧ l = ns.map fun n => UInt8.ofNat n.toNat := by
  induction h with
  | nil => intro l h; cases h; exact ⟨[], rfl, rfl⟩
  | @cons a b as bs hab _ ih =>
    intro l h
    unfold bytesOf at h
    split at h
    · rename_i heq; cases heq
    · rename_i n r heq
      obtain ⟨rfl, rfl⟩ := List.cons.inj heq
      split at h
      · rename_i l1 hl
        cases h
        obtain ⟨ns, h1, h2⟩ := ih hl
        cases hab
        exact ⟨n :: ns, by rw [h1]; rfl, by rw [h2]; rfl⟩
      · cases h
    · cases h

theorem evBytes_ok {s : AS} {w : World} (hrel : Rel P base φ s w) {src dst : TypeId} {x x' u : Value} (hx : VRel φ x x') (h : evBytes P s src dst x = some u) :
    (convert src dst x').run P w = .ok u w ∧ VRel φ u u := by
  unfold evBytes at h
  split at h
  · rename_i e a len cap hs hd
    split at h
    · rename_i c s1 he hc
      split at h
      · rename_i l hl
        cases h
        refine ⟨?_, .string _⟩
        cases hx with
        | slice b o r _ _ c' hb _ _ =>
        obtain ⟨_, c2, k1, k2⟩ := loadCells_read hrel ⟨b, o, r, rfl, rfl, hb⟩ hc
        obtain ⟨ns, h1, h2⟩ := bytesOf_rel k2.toLR hl
        rw [run_convert_bytes_string w src dst e _ _ _ hs he hd]
        have hload : (loadCells ⟨r, o, none⟩ len).run P w = .ok (ns.map (Value.int .u8)).toArray w := by
          rw [k1, ← h1]
        rw [run_bytesToString w _ len c' ns hload, push_all, h2]
        simp
      · cases h
    · cases h
  · cases h

/-! ## Against nil; two places of one block -/
def evEq (P : Program) (t : TypeId) (x y : Value) : Option Bool :=
  match P.underlying t, x, y with
  | some (.pointer _), .pointer (some ⟨_, _, none⟩), .pointer none => some false
  | some (.pointer _), .pointer none, .pointer (some ⟨_, _, none⟩) => some false
  | some (.pointer e), .pointer (some ⟨b, o, none⟩), .pointer (some ⟨c, q, none⟩) => bif Nat.beq (P.cellsOf e) 0 || !(Nat.beq b c) then none else some (Nat.beq o q)
  | some (.interface _), .iface _ _, .nilIface => some false
  | some (.interface _), .nilIface, .iface _ _ => some false
  | some (.map _ _), .map (some _), .map none => some false
  | some (.slice _), .slice (some _) _ _, .slice none _ _ => some false
  | some (.func _ _ _), .func _ _ _, .nilFunc => some false
  | _, _, _ => none

theorem evEq_in {t : TypeId} {x x' y y' : Value} {r : Bool} (hx : VRel φ x x') (hy : VRel φ y y') (h : evEq P t x y = some r) (w : World) (d : Nat) :
    (Op.equalIn (d + 1) t x' y').run P w = .ok r w ∧ (∀ op a b, (eqGuard op t a b x' y').run P w = .ok () w) ∧ binOp .eql t x' y' = (do pure (.bool (← Op.equal t x' y'))) ∧ binOp .neq t x' y' = (do pure (.bool (!(← Op.equal t x' y')))) := by
  unfold evEq at h
  split at h
  · rename_i hu; cases h; cases hx; cases hy
    exact ⟨by rw [Op.equalIn]; simp [run_underlying hu], fun op a b => by unfold eqGuard; cases op <;> rfl, rfl, rfl⟩
  · rename_i hu; cases h; cases hx; cases hy
    exact ⟨by rw [Op.equalIn]; simp [run_underlying hu], fun op a b => by unfold eqGuard; cases op <;> rfl, rfl, rfl⟩
  · rename_i e b o c q hu
    obtain ⟨hc, h⟩ := cond_none h
    cases h
    simp only [Bool.or_eq_false_iff, Bool.not_eq_false'] at hc
    have hne : P.cellsOf e ≠ 0 := fun e1 => by rw [e1] at hc; cases hc.1
    have hbc := Nat.eq_of_beq_eq_true hc.2
    subst hbc
    cases hx with
    | ptr _ _ r1 h1 =>
    cases hy with
    | ptr _ _ r2 h2 =>
    rw [h1] at h2; cases h2
    have hoq : ((⟨r1, o, none⟩ : Addr) == ⟨r1, q, none⟩) = Nat.beq o q := by
      cases hq : Nat.beq o q with
      | true => have := Nat.eq_of_beq_eq_true hq; subst this; simp
      | false =>
        have : o ≠ q := fun e => by rw [e, Nat.beq_refl] at hq; cases hq
        simp [this]
    exact ⟨by rw [Op.equalIn]; simp [run_underlying hu, run_sizeOf_of hne, hne, sameAddr, hoq], fun op a b => by unfold eqGuard; cases op <;> rfl, rfl, rfl⟩
  · rename_i hu; cases h; cases hx; cases hy
    exact ⟨by rw [Op.equalIn]; simp [run_underlying hu], fun op a b => by unfold eqGuard; cases op <;> rfl, rfl, rfl⟩
  · rename_i hu; cases h; cases hx; cases hy
    exact ⟨by rw [Op.equalIn]; simp [run_underlying hu], fun op a b => by unfold eqGuard; cases op <;> rfl, rfl, rfl⟩
  · rename_i hu; cases h; cases hx; cases hy
    exact ⟨by rw [Op.equalIn]; simp [run_underlying hu], fun op a b => by unfold eqGuard; cases op <;> rfl, rfl, rfl⟩
  · rename_i hu; cases h; cases hx; cases hy
    exact ⟨by rw [Op.equalIn]; simp [run_underlying hu], fun op a b => by unfold eqGuard; cases op <;> rfl, rfl, rfl⟩
  · rename_i hu; cases h; cases hx; cases hy
    exact ⟨by rw [Op.equalIn]; simp [run_underlying hu], fun op a b => by unfold eqGuard; cases op <;> rfl, rfl, rfl⟩
  · cases h

theorem evEq_ok {t : TypeId} {x x' y y' : Value} {r : Bool} (hx : VRel φ x x') (hy : VRel φ y y') (h : evEq P t x y = some r) (w : World) (op : BinOp) (a b : Operand) :
    (op = .eql → (do eqGuard op t a b x' y'; binOp op t x' y' : Sem Value).run P w = .ok (.bool r) w) ∧ (op = .neq → (do eqGuard op t a b x' y'; binOp op t x' y' : Sem Value).run P w = .ok (.bool !r) w) := by
  obtain ⟨h1, h2, h3, h4⟩ := evEq_in hx hy h w 9999
  have h1' : (Op.equal t x' y').run P w = .ok r w := h1
  constructor
  · rintro rfl
    rw [h3]
    simp [h2, h1']
  · rintro rfl
    rw [h4]
    simp [h2, h1']

/-! ## Trees of small operations -/
theorem sim_extract {v v' : Value} (h : VRel φ v v') (i : Nat) : Sim P base φ VRel (Instr.extract v i) (Instr.extract v' i) := by
  unfold Instr.extract
  cases h with
  | tuple c c' h1 h2 =>
    cases hc : c[i]? with
    | none => simp only [hc]; exact Sim.stuck
    | some u =>
      obtain ⟨u', k1, k2⟩ := AR.some (R := VRel φ) ⟨h1, h2⟩ hc
      simp only [hc, k1]
      exact Sim.pure fun ψ hψ => k2.mono hψ
  | _ => exact Sim.stuck

theorem sim_field {t : TypeId} {v v' : Value} (h : VRel φ v v') (i : Nat) : Sim P base φ VRel (Instr.field t v i) (Instr.field t v' i) := by
  unfold Instr.field
  refine Sim.bind Sim.underlying ?_
  rintro ψ hψ d _ ⟨rfl, hd⟩
  cases d with
  | struct fs =>
    simp only
    cases hf : fs[i]? with
    | none => exact Sim.stuck
    | some f =>
      simp only
      cases h with
      | agg c c' h1 h2 =>
        refine Sim.bind (R := fun χ => AR (VRel χ)) (Sim.pure fun χ hχ => ⟨h1, fun i v v' a b => (h2 i v v' a b).mono (hψ.trans hχ)⟩) ?_
        intro χ hχ c c' hc
        exact Sim.part hc _
      | _ => exact Sim.bind (R := fun χ => AR (VRel χ)) Sim.stuck (fun χ hχ c c' hc => Sim.part hc _)
  | _ => exact Sim.stuck

theorem sim_index {t : TypeId} {x x' i i' : Value} (hx : VRel φ x x') (hi : VRel φ i i') : Sim P base φ VRel (Instr.index t x i) (Instr.index t x' i') := by
  unfold Instr.index
  cases hi with
  | int k n =>
    refine Sim.bind (R := fun _ (p q : IntKind × Int) => p = q ∧ p = (k, n)) (Sim.pure fun _ _ => ⟨rfl, rfl⟩) ?_
    rintro ψ hψ _ _ ⟨rfl, rfl⟩
    refine Sim.bind Sim.underlying ?_
    rintro χ hχ d _ ⟨rfl, hd⟩
    cases d with
    | array len e =>
      cases hx with
      | agg c c' h1 h2 =>
        simp only
        split
        · refine Sim.bind Sim.sizeOf ?_
          rintro ξ hξ m _ ⟨rfl, rfl⟩
          exact Sim.part ⟨h1, fun i v v' a b => (h2 i v v' a b).mono ((hψ.trans hχ).trans hξ)⟩ _
        · exact Sim.boundsPanic
      | _ => exact Sim.stuck
    | string =>
      cases hx with
      | string s =>
        simp only
        cases (if 0 ≤ n then s[n.toNat]? else none) with
        | none => exact Sim.boundsPanic
        | some b => exact Sim.pure fun _ _ => .int _ _
      | _ => exact Sim.stuck
    | _ => exact Sim.stuck
  | ptr b o r hb => exact Sim.bind (R := fun _ (p q : IntKind × Int) => False) Sim.unsupported (fun ψ hψ p q hpq => hpq.elim)
  | _ => exact Sim.bind (R := fun _ (p q : IntKind × Int) => False) Sim.stuck (fun ψ hψ p q hpq => hpq.elim)

end
end Go.Aw
