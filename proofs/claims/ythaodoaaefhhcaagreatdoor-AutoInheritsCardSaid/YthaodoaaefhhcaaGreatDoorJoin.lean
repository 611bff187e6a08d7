/- strings.Join and the tables of this program, for the abstract machine. -/
import Derived.Test.YthaodoaaefhhcaaGreatDoorAwU
import Derived.Shelf.Strings.OnBuilder
import Derived.Test.YthaodoaaefhhcaaGreatDoorProg
import Derived.KernelRfl
namespace Go.Proofs.YthaodoaaefhhcaaGreatDoor
open Go Go.Shelf Go.Proofs Go.Aw
set_option maxRecDepth 100000
def Tryz.laysJoin_ren : Go.Shelf.Ren := ⟨fun | 156 => 39 | 165 => 53 | 166 => 54 | 169 => 55 | 240 => 68 | 241 => 69 | 276 => 81 | 277 => 82 | n => n, fun | 31 => 33 | 9 => 9 | 3 => 3 | 4 => 4 | 0 => 0 | 20 => 20 | 72 => 137 | 76 => 139 | 70 => 135 | 37 => 99 | 75 => 67 | 127 => 160 | 164 => 125 | 5 => 5 | 80 => 141 | n => n, fun | n => n⟩
theorem Tryz.laysJoin : Go.Proofs.Lays.n156 Tryz.prog Tryz.laysJoin_ren := {
  mixed := by kernel_rfl
  f156 := Tryz.func39.trans (congrArg some (by kernel_rfl))
  f165 := Tryz.func53.trans (congrArg some (by kernel_rfl))
  f166 := Tryz.func54.trans (congrArg some (by kernel_rfl))
  f169 := Tryz.func55.trans (congrArg some (by kernel_rfl))
  f240 := Tryz.func68.trans (congrArg some (by kernel_rfl))
  f241 := Tryz.func69.trans (congrArg some (by kernel_rfl))
  f276 := Tryz.func81.trans (congrArg some (by kernel_rfl))
  f277 := Tryz.func82.trans (congrArg some (by kernel_rfl))
  t0 := Tryz.underlying0
  a0 := Tryz.isAgg0
  z0 := Tryz.sizeOf0
  v0 := Tryz.zeroValue0
  t3 := Tryz.underlying3
  a3 := Tryz.isAgg3
  z3 := Tryz.sizeOf3
  v3 := Tryz.zeroValue3
  t4 := Tryz.underlying4
  a4 := Tryz.isAgg4
  z4 := Tryz.sizeOf4
  v4 := Tryz.zeroValue4
  t9 := Tryz.underlying9
  a9 := Tryz.isAgg9
  z9 := Tryz.sizeOf9
  v9 := Tryz.zeroValue9
  t20 := Tryz.underlying20
  a20 := Tryz.isAgg20
  z20 := Tryz.sizeOf20
  v20 := Tryz.zeroValue20
  t31 := Tryz.underlying33
  a31 := Tryz.isAgg33
  z31 := Tryz.sizeOf33
  v31 := Tryz.zeroValue33
  t37 := Tryz.underlying99
  a37 := Tryz.isAgg99
  z37 := Tryz.sizeOf99
  v37 := Tryz.zeroValue99
  t70 := Tryz.underlying135
  a70 := Tryz.isAgg135
  z70 := Tryz.sizeOf135
  v70 := Tryz.zeroValue135
  t72 := Tryz.underlying137
  a72 := Tryz.isAgg137
  z72 := Tryz.sizeOf137
  v72 := Tryz.zeroValue137
  t75 := Tryz.underlying67
  a75 := Tryz.isAgg67
  z75 := Tryz.sizeOf67
  v75 := Tryz.zeroValue67
  t76 := Tryz.underlying139
  a76 := Tryz.isAgg139
  z76 := Tryz.sizeOf139
  v76 := Tryz.zeroValue139
  t127 := Tryz.underlying160
  a127 := Tryz.isAgg160
  z127 := Tryz.sizeOf160
  v127 := Tryz.zeroValue160
  t164 := Tryz.underlying125
  a164 := Tryz.isAgg125
  z164 := Tryz.sizeOf125
  v164 := Tryz.zeroValue125 }
theorem joinExtra : Builder.Extra Tryz.prog Tryz.laysJoin_ren := {
  sizeBuilder := by kernel_rfl
  liesBuilder := by kernel_rfl
  t5 := Tryz.underlying5
  a5 := Tryz.isAgg5
  z5 := Tryz.sizeOf5
  v5 := Tryz.zeroValue5
  infoByte := by kernel_rfl
  cellsByte := by kernel_rfl
  sizeByte := by kernel_rfl
  neB5 := by decide }
theorem joinOk : JoinOk Tryz.prog 39 := {
  nil a c sep w := Any.strings_Join_none Tryz.laysJoin joinExtra a c sep w
  many bk o c xs sep w h1 h2 h3 h4 h5 := Any.strings_Join Tryz.laysJoin joinExtra bk o c xs sep w h1 h2 h3 h4 h5 }

theorem zeros : (List.range Tryz.prog.types.size).all (fun t => match Tryz.prog.info? t with | some i => (match i.zero with | some z => plain z | none => true) | none => true) = true := by kernel_rfl
theorem elems : (List.range Tryz.prog.types.size).all (fun t => match Tryz.prog.underlying t with | some (.slice e) => (match Tryz.prog.info? e with | some i => (match i.zero with | some z => z.cells.toList.all plain1 && Nat.beq z.cells.size i.size | none => true) | none => true) | _ => true) = true := by kernel_rfl
theorem mixed : Tryz.prog.follows .mixedOrders = true := by kernel_rfl
theorem globs : Nat.ble Tryz.prog.globals.size 1000 = true := by kernel_rfl
theorem pok : POk Tryz.prog := {
  zero t i z h0 h1 h2 := by
    have := List.all_eq_true.1 zeros t (List.mem_range.2 (blt_iff.1 h0))
    rw [h1] at this
    simp only [h2] at this
    exact this
  elem t e i z h0 h1 h2 h3 := by
    have := List.all_eq_true.1 elems t (List.mem_range.2 (blt_iff.1 h0))
    rw [h1] at this
    simp only [h2, h3, Bool.and_eq_true] at this
    exact ⟨this.1, Nat.eq_of_beq_eq_true this.2⟩
  mixed := mixed }
noncomputable def machine : CallF := (evBoth Tryz.prog (joinPrim 39) 300).1
theorem machine_ok : CallOk Tryz.prog machine := (evBoth_ok mixed pok (joinPrim_ok joinOk) 300).1
theorem run_of {args : Array Value} (ha : args.toList.all plain = true) (h : yes (machine 3 args (Aw.start 1000)) = true) {w : World} (hw : Tryz.prog.globals.size ≤ w.heap.size) :
    Calls Tryz.prog 3 args w fun e w' => e = .returned (.bool true) ∧ Go.RowKit.Below w.heap.size w w' :=
  call_plain (Nat.le_of_ble_eq_true globs) machine_ok ha h hw
end Go.Proofs.YthaodoaaefhhcaaGreatDoor
