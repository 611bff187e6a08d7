/- PROVED: for every choice of its three truth values, anvil's law AutoInherits returns true, and what its arguments read is as before. CONDITIONS: the package variables that the row lists start as the program's text lays them (the card ties them to the pruned copy); nothing else. Here: the row and the card, once the walk is given. -/
import Derived.Test.YthaodoaaefhhcaaGreatDoorJoin
import Derived.Test.YthaodoaaefhhcaaGreatDoorCards
import Derived.Test.YthaodoaaefhhcaaGreatDoorTie
import Derived.WalkKit
import Derived.ProofKit
import Derived.OpenShut
import Derived.LaidHandle
import Derived.Deep.DeepHandedRow
namespace Go.Proofs.YthaodoaaefhhcaaGreatDoor
open Go Go.Proofs Go.ChangeShapes Go.WideShapes Go.ChangeAt Go.RowKit

theorem own : ownKnob Tryz.prog.godebug = none := by kernel_rfl

/-- What the walk has to show. -/
def Walks : Prop := ∀ (a b c : Bool) (w : World), Tryz.prog.globals.size ≤ w.heap.size →
  Calls Tryz.prog 3 #[.bool a, .bool b, .bool c] w fun e w' => e = .returned (.bool true) ∧ Below w.heap.size w w'

theorem rowThree : (((begin Tryz.prog (fun _ _ => 0) default).world.heap[3]?).bind Obj.row?).isSome = true := by kernel_rfl
theorem four : Tryz.prog.globals.size = 4 := by kernel_rfl

/-- A shaped world has room for the package variables. -/
theorem room {W : World} (h : W.ShapedOpen Tryz.prog) : Tryz.prog.globals.size ≤ W.heap.size := by
  obtain ⟨⟨zero, t⟩, hx⟩ := Option.isSome_iff_exists.1 rowThree
  obtain ⟨cs, hc, _⟩ := h.1 3 zero t (by rw [four]; decide) hx
  have := (Array.getElem?_eq_some_iff.1 hc).1
  rw [four]
  omega

set_option maxRecDepth 100000 in
/-- What the walk gives, for every argument and every world. -/
theorem contract (hwalk : Walks) (H : Type) (enc : TypeId × Value → H) (W : World) (base : Nat) (args : Array Value) (ds gs : List (DataW H)) (before : List MemPlace)
    (hval : ∀ (j : Nat) t v, Tryz.f3.params[j]? = some t → args[j]? = some v → Value.okWide Tryz.prog W .any base t v)
    (hW : DataW.Whole enc Tryz.prog Tryz.f3.params.toList Rows.autoInheritsSpec.vars false W args.toList ds gs before) (hS : W.ShapedOpen Tryz.prog) :
    Calls Tryz.prog 3 args W fun e W' => ∃ v, e = .returned v ∧ Rows.autoInheritsSpec.post enc Tryz.prog Tryz.f3 false true false false W args v W' := by
  have hW' := hW
  obtain ⟨p, q, hA0, hV, rfl, hfz, hnd⟩ := hW
  have hA : DataW.TrodAll enc Tryz.prog W 0 (fun _ => true) true Tryz.f3.params.toList args.toList ds p := hA0
  rw [Tryz.params3] at hA hval
  obtain ⟨v0, vs0, d0, ds0, p0, q0, hargs, rfl, rfl, h0, r0⟩ := trodAll_cons hA
  obtain ⟨v1, vs1, d1, ds1, p1, q1, rfl, rfl, rfl, h1, r1⟩ := trodAll_cons r0
  obtain ⟨v2, vs2, d2, ds2, p2, q2, rfl, rfl, rfl, h2, r2⟩ := trodAll_cons r1
  obtain ⟨rfl, rfl, rfl⟩ := trodAll_nil r2
  obtain rfl : args = #[v0, v1, v2] := by cases args; simp_all
  obtain ⟨rfl, rfl⟩ := trodVars_none hV
  obtain ⟨a0, rfl, rfl, rfl⟩ := open_bool Tryz.underlying4 (hval 0 4 v0 rfl rfl) h0
  obtain ⟨a1, rfl, rfl, rfl⟩ := open_bool Tryz.underlying4 (hval 1 4 v1 rfl rfl) h1
  obtain ⟨a2, rfl, rfl, rfl⟩ := open_bool Tryz.underlying4 (hval 2 4 v2 rfl rfl) h2
  clear hA0
  simp only [List.append_nil] at hW'
  refine (hwalk a0 a1 a2 W (room hS)).mono fun e W' ⟨he, hg⟩ => ?_
  subst he
  refine ⟨_, rfl, _, _, _, [], [], [], hW', ?_, ?_, ?_, hg.frame _, fun h => by cases h⟩
  · exact trodAll_cons_mk (shut_bool Tryz.underlying4 _) trodAll_mk0
  · exact trodAll_cons_mk (shut_bool Tryz.underlying4 _) (trodAll_cons_mk (shut_bool Tryz.underlying4 _) (trodAll_cons_mk (shut_bool Tryz.underlying4 _) trodAll_mk0))
  · rfl

/-- A world for the witness: the settled one, the three listed variables laid. -/
def u8 (n : Int) : Value := .int .u8 n
noncomputable def firstCells : Array Value :=
  match Rows.laid_unicode_utf8_first with
  | .agg l => (l.map fun d => match d with | .lit (.int k n) => Value.int k n | _ => .bool false).toArray
  | _ => #[]
noncomputable def laidWorld (os : Os) : World :=
  let w0 := World.holding Tryz.prog os ⟨#[], #[], []⟩
  { w0 with heap := ((w0.heap.modify 0 fun
      | .cells _ t frozen => .cells #[.iface 115 (.agg #[.pointer (some ⟨4, 67, none⟩)])] t frozen
      | o => o).modify 2 fun
      | .cells _ t frozen => .cells firstCells t frozen
      | o => o).modify 3 fun
      | .cells _ t frozen => .cells #[u8 128, u8 191, u8 160, u8 191, u8 128, u8 159, u8 144, u8 191, u8 128, u8 143, u8 0, u8 0, u8 0, u8 0, u8 0, u8 0, u8 0, u8 0, u8 0, u8 0, u8 0, u8 0, u8 0, u8 0, u8 0, u8 0, u8 0, u8 0, u8 0, u8 0, u8 0, u8 0] t frozen
      | o => o }
theorem laid_met (os : Os) : laidMetH Tryz.prog Rows.autoInheritsRow.laid ((laidWorld os).forCall (fun _ _ => 0) ⟨#[], #[.bool false, .bool false, .bool false], []⟩).memory :=
  laidMetH_of_parts (laidMet_of_run' 8 (by kernel_rfl) (by kernel_rfl)) (by kernel_rfl)
theorem reads (os : Os) {H : Type} (enc : TypeId × Value → H) : ∃ places, DataW.whole enc Tryz.prog ((laidWorld os).forCall (fun _ _ => 0) ⟨#[], #[.bool false, .bool false, .bool false], []⟩).memory Tryz.f3.params.toList Rows.autoInheritsSpec.vars false #[Value.bool false, .bool false, .bool false].toList 8 = some ([.lit (.bool false), .lit (.bool false), .lit (.bool false)], [], places) :=
  ⟨[], by kernel_rfl⟩

set_option maxRecDepth 100000 in
theorem lifted (hwalk : Walks) (os : Os) (started : os.Started) (H : Type) (enc : TypeId × Value → H) (F : Stop.Interp) :
    ReturnsInHanded {} Tryz.checked os 3 .any ((OpenSpec.ofChange Rows.autoInheritsSpec).preRow enc Tryz.prog Tryz.f3 Rows.autoInheritsRow.domain false Rows.autoInheritsRow.laid) (((OpenSpec.ofChange Rows.autoInheritsSpec).at F).post enc Tryz.prog Tryz.f3 false true false false) := by
  obtain ⟨places, hx⟩ := reads os enc
  refine returnsInHanded_of_row (C := Tryz.checked) (s := OpenSpec.ofChange Rows.autoInheritsSpec) own started (by kernel_rfl) Tryz.func3
    (witness_row_at (enc := enc) (C := Tryz.checked) false (laidWorld os) #[.bool false, .bool false, .bool false] rfl (by kernel_rfl) (by kernel_rfl) (by kernel_rfl)
      (OpenSpec.preRow_of_cond 8 hx (by kernel_rfl) (fun k hk => by cases hk) (by kernel_rfl) (laid_met os))) ?_
  intro W base args ds gs before hval hW _ _ _ _ hS _
  exact contract hwalk H enc W base args ds gs before hval hW hS

theorem said (hwalk : Walks) : Rows.AutoInheritsSaid :=
  OpenClaim.holds_of_cond 3 Tryz.f3 rfl rfl rfl rfl rfl rfl rfl ⟨rfl, rfl, rfl, rfl, rfl⟩ rfl rfl rfl rfl rfl (by kernel_rfl) Tryz.func3 (by kernel_rfl)
    (of_decide_eq_true (by kernel_rfl)) (by unfold Func.isWrapper; first | (rw [if_pos (by decide +kernel)]; kernel_rfl) | (rw [if_neg (by decide +kernel)]; exact ⟨rfl, rfl⟩))
    (fun os started H enc _ F => by rw [OpenClaim.pre_eq_preRow]; exact lifted hwalk os started H enc F)

/-- No parameter wants a stand-in; the program's own looks are on: what the card asks. -/
theorem plainParams (f : FuncId) (fn : Func) (hf : Tryz.pinned.checked.prog.funcNamed "anvil/anvillaw23.AutoInherits" = some f) (hfn : Tryz.pinned.checked.prog.funcs[f]? = some fn) :
    true = Tryz.pinned.checked.prog.looks [] ∧ ∀ (j : Nat) t, fn.params[j]? = some t → Tryz.pinned.checked.prog.wantsStandIn t = false := by
  obtain rfl : f = 3 := Option.some.inj ((show Tryz.prog.funcNamed "anvil/anvillaw23.AutoInherits" = some 3 by kernel_rfl).symm.trans hf) |>.symm
  obtain rfl : fn = Tryz.f3 := (Option.some.inj (Tryz.func3.symm.trans hfn)).symm
  refine ⟨by kernel_rfl, fun j t ht => ?_⟩
  rw [Tryz.params3] at ht
  obtain rfl : t = 4 := by simpa using Array.mem_of_getElem? ht
  exact (show Tryz.prog.wantsStandIn 4 = false by kernel_rfl)

/-- The card, the walk being given. -/
theorem card_of (hwalk : Walks) : Rows.AutoInheritsCardSaid :=
  Claim7.holds_tied_plain_at .later [] _ _ _ _ (said hwalk) (fun _ h => by cases h) (by kernel_rfl) (fun _ h => by cases h) autoInherits_row_tie rfl ⟨rfl, rfl⟩ (by kernel_rfl) rfl plainParams (by kernel_rfl)
end Go.Proofs.YthaodoaaefhhcaaGreatDoor
