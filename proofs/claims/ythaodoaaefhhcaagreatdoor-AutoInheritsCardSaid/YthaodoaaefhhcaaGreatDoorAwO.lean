/- The abstract machine, part O: thunks made into values, for the kernel's sake. -/
import Derived.Test.YthaodoaaefhhcaaGreatDoorAwM
namespace Go.Aw
open Go Go.RowKit
set_option linter.unusedVariables false
set_option linter.unusedSimpArgs false

section
variable {α β : Type}

def fN (n : Nat) (k : Nat → β) : β :=
  match n with
  | 0 => k 0
  | m + 1 => k (Nat.succ m)
theorem fN_eq (n : Nat) (k : Nat → β) : fN n k = k n := by cases n <;> rfl

def fI (n : Int) (k : Int → β) : β :=
  match n with
  | .ofNat m => fN m fun m => k (.ofNat m)
  | .negSucc m => fN m fun m => k (.negSucc m)
theorem fI_eq (n : Int) (k : Int → β) : fI n k = k n := by cases n <;> simp [fI, fN_eq]

def fB (b : Bool) (k : Bool → β) : β :=
  match b with
  | true => k true
  | false => k false
theorem fB_eq (n : Bool) (k : Bool → β) : fB n k = k n := by cases n <;> rfl

def fK (b : IntKind) (k : IntKind → β) : β :=
  match b with
  | .i8 => k .i8 | .i16 => k .i16 | .i32 => k .i32 | .i64 => k .i64 | .u8 => k .u8 | .u16 => k .u16 | .u32 => k .u32 | .u64 => k .u64
theorem fK_eq (n : IntKind) (k : IntKind → β) : fK n k = k n := by cases n <;> rfl

def fL (f : α → (α → β) → β) : List α → (List α → β) → β
  | [], k => k []
  | a :: r, k => f a fun a' => fL f r fun r' => k (a' :: r')
theorem fL_eq {f : α → (α → β) → β} (h : ∀ a k, f a k = k a) : ∀ (l : List α) (k : List α → β), fL f l k = k l := by
  intro l
  induction l with
  | nil => intro k; rfl
  | cons a r ih => intro k; simp [fL, h, ih]

def fR (f : α → (α → β) → β) (a : Array α) (k : Array α → β) : β := fL f a.toList fun l => k ⟨l⟩
theorem fR_eq {f : α → (α → β) → β} (h : ∀ a k, f a k = k a) (a : Array α) (k : Array α → β) : fR f a k = k a := by
  unfold fR; rw [fL_eq h]

def fO (f : α → (α → β) → β) : Option α → (Option α → β) → β
  | none, k => k none
  | some a, k => f a fun a => k (some a)
theorem fO_eq {f : α → (α → β) → β} (h : ∀ a k, f a k = k a) : ∀ (o : Option α) (k : Option α → β), fO f o k = k o := by
  intro o k; cases o <;> simp [fO, h]

def fAddr (a : Addr) (k : Addr → β) : β :=
  match a with
  | ⟨b, o, s⟩ => fN b fun b => fN o fun o => fO fN s fun s => k ⟨b, o, s⟩
theorem fAddr_eq (a : Addr) (k : Addr → β) : fAddr a k = k a := by
  cases a; simp [fAddr, fN_eq, fO_eq fN_eq]

def fId (a : α) (k : α → β) : β := k a

def fV : Nat → Value → (Value → β) → β
  | 0, v, k => k v
  | f + 1, v, k =>
    match v with
    | .bool b => fB b fun b => k (.bool b)
    | .int κ n => fK κ fun κ => fI n fun n => k (.int κ n)
    | .string ⟨s⟩ => fR fId s fun s => k (.string ⟨s⟩)
    | .pointer a => fO fAddr a fun a => k (.pointer a)
    | .slice a l c => fO fAddr a fun a => fN l fun l => fN c fun c => k (.slice a l c)
    | .map r => fO fN r fun r => k (.map r)
    | .func fn a b => fR (fV f) a fun a => fR (fV f) b fun b => k (.func fn a b)
    | .iface t v => fN t fun t => fV f v fun v => k (.iface t v)
    | .agg c => fR (fV f) c fun c => k (.agg c)
    | .tuple c => fR (fV f) c fun c => k (.tuple c)
    | v => k v
theorem fV_eq : ∀ (f : Nat) (v : Value) (k : Value → β), fV f v k = k v := by
  intro f
  induction f with
  | zero => intro v k; rfl
  | succ f ih =>
    intro v k
    cases v with
    | string s => cases s; simp [fV, fR_eq (f := fId) (fun _ _ => rfl)]
    | bool | int | pointer | slice | map | func | iface | agg | tuple => simp [fV, fB_eq, fK_eq, fI_eq, fO_eq fAddr_eq, fN_eq, fO_eq fN_eq, fR_eq ih, ih]
    | _ => rfl

def fE (e : MapEntry) (k : MapEntry → β) : β :=
  match e with
  | ⟨x, v, b⟩ => fV 9 x fun x => fV 9 v fun v => fN b fun b => k ⟨x, v, b⟩
theorem fE_eq (e : MapEntry) (k : MapEntry → β) : fE e k = k e := by cases e; simp [fE, fV_eq, fN_eq]

def fObj (o : Obj) (k : Obj → β) : β :=
  match o with
  | .cells c e (x, y) => fR (fV 9) c fun c => fN e fun e => fN x fun x => fN y fun y => k (.cells c e (x, y))
  | .pending c e => fR (fV 9) c fun c => fN e fun e => k (.pending c e)
  | .map c e => fR fE c fun c => fN e fun e => k (.map c e)
  | o => k o
theorem fObj_eq (o : Obj) (k : Obj → β) : fObj o k = k o := by
  cases o <;> simp [fObj, fR_eq (fV_eq 9), fN_eq, fR_eq fE_eq]

def fAO (o : AObj) (k : AObj → β) : β :=
  match o with
  | ⟨o, g⟩ => fObj o fun o => fB g fun g => k ⟨o, g⟩
theorem fAO_eq (o : AObj) (k : AObj → β) : fAO o k = k o := by cases o; simp [fAO, fObj_eq, fB_eq]

def fT (f : α → (α → β) → β) : Tr α → (Tr α → β) → β
  | .leaf, k => k .leaf
  | .node v l r, k => fO f v fun v => fT f l fun l => fT f r fun r => k (.node v l r)
theorem fT_eq {f : α → (α → β) → β} (h : ∀ a k, f a k = k a) : ∀ (t : Tr α) (k : Tr α → β), fT f t k = k t := by
  intro t
  induction t with
  | leaf => intro k; rfl
  | node v l r ihl ihr => intro k; simp [fT, fO_eq h, ihl, ihr]

def fS (s : AS) (k : AS → β) : β :=
  match s with
  | ⟨n, l, h⟩ => fN n fun n => fN l fun l => fT fAO h fun h => k ⟨n, l, h⟩
theorem fS_eq (s : AS) (k : AS → β) : fS s k = k s := by cases s; simp [fS, fN_eq, fT_eq fAO_eq]

def fA (a : AAct) (k : AAct → β) : β :=
  match a with
  | ⟨n, t, d⟩ => fN n fun n => fT (fV 9) t fun t => fL fId d fun d => k ⟨n, t, d⟩
theorem fA_eq (a : AAct) (k : AAct → β) : fA a k = k a := by cases a; simp [fA, fN_eq, fT_eq (fV_eq 9), fL_eq (f := fId) (fun _ _ => rfl)]

end

end Go.Aw
