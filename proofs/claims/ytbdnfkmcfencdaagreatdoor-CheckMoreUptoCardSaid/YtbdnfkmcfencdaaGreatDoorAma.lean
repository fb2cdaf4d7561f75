/- The abstract machine: its values, its heaps, and its interpreter, generic in what it answers. No condition: definitions alone. -/
import GoSem.Dispatch
import Derived.Calls
import Derived.Defers
import Derived.Laws.Sem
import Derived.Laws.Cells
import Derived.Laws.World
import Derived.Laws.Tables
import Derived.Laws.Build
import Derived.Laws.StructEq
import Derived.Laws.AppendOwn
import Derived.Laws.MakeOwn
namespace Go.Proofs.YtbdnfkmcfencdaaGreatDoor
namespace Am
open Go

/-- An abstract value. v: a value without an address · agg: a struct's or an array's cells · imm: a slice that is never written again, as a list of elements, each its cells · own, omap: in a box's cell, from outside: an array or a map that nobody else has · mt: a slice without length and room · eptr: a pointer into an element of an imm · ref: into box k · aptr: into element e of array k · ar: the whole of array k · sl: a part of it · mp, it: map, iterator k · fn: a function and what it has captured · glob: a package-level variable. -/
inductive AV where
  | v (x : Value)
  | agg (cs : List AV)
  | tup (vs : List AV)
  | imm (z : Nat) (es : List (List AV))
  | own (z : Nat) (es : List (List AV))
  | omap (kv : List (Value × AV))
  | mt
  | eptr (cs : List AV) (off : Nat)
  | ref (k off : Nat)
  | aptr (k e off : Nat)
  | ar (k : Nat)
  | sl (k lo len : Nat)
  | mp (k : Nat)
  | it (k : Nat)
  | fn (f : Nat) (caps : List AV)
  | iface (t : Nat) (x : AV)
  | glob (g off : Nat)
  | undef
  deriving Inhabited

inductive AObj where
  | box (cs : List AV)
  | arr (z : Nat) (es : List (List AV))
  | map (kv : List (Value × AV))
  | siter (s : ByteArray) (pos : Nat)
  | dead
  deriving Inhabited

/-- Registers: the newest ones first. -/
inductive Regs where
  | nil
  | cons (r : Nat) (x : AV) (l : Regs)
  deriving Inhabited
abbrev Heap := List AObj
/-- Deferred calls, the last one first. -/
abbrev Dx := List (Nat × List AV)

/-- What a type is. -/
inductive UT where
  | bool
  | int (k : IntKind)
  | float (k : FloatKind)
  | string
  | ptr (e : Nat)
  | slice (e : Nat)
  | array (n e : Nat)
  | struct (fs : List (Nat × Nat))
  | map (k e : Nat)
  | func
  | iface
  | other
  deriving Inhabited, DecidableEq

/-- What is known of a type: its cells, its bytes, is it a struct or an array, what it is, its nought's cells. -/
structure TI where
  size : Nat
  bytes : Nat
  agg : Bool
  flat : List UT
  und : UT
  zero : List AV
  deriving Inhabited

/-- How code ends. -/
inductive Ex where
  | normal
  | exit (id : Nat)
  | ret
  | panic (x : AV)
  deriving Inhabited

/-- How a call ends. -/
inductive Out where
  | ret (x : AV)
  | panic (x : AV)
  deriving Inhabited

abbrev SK (β : Type) := Regs → Heap → Dx → β
abbrev EK (β : Type) := Ex → Regs → Heap → Dx → β
abbrev VK (β : Type) := AV → Regs → Heap → Dx → β

/-- What the interpreter is over: failure, a choice, a side condition, an element, a number at rest, a call, a deferred call, a loop (its body; what is done at its head). -/
structure Sig (β : Type) where
  fail : β
  cond : Bool → β → β → β
  need : (c : Prop) → [Decidable c] → β → β
  elem : List (List AV) → Nat → (List AV → β) → β
  num : Int → (Int → β) → β
  call : Nat → List AV → Heap → (Out → Heap → β) → β
  defer : Nat → List AV → Heap → Option AV → (Heap → Option AV → β) → β
  loop : (EK β → SK β) → (SK β → SK β) → EK β → SK β

/-- What is known of the program, and of one of its functions. -/
structure Ctx where
  T : Nat → Option TI
  G : Nat → Option (List Value)
  byref : Nat → Bool
  live : Nat → List Nat
  ord : Nat → Option (List (Nat × Option (List Nat)) × List Nat)
  results : List ResultVar

section lists
variable {α β γ : Type}
noncomputable def dropK (n : Nat) (l : List α) (K : List α → β) : β :=
  List.rec (motive := fun _ => Nat → β) (fun _ => K []) (fun x l ih n => Nat.casesOn n (K (x :: l)) ih) l n
noncomputable def takeK (n : Nat) (l : List α) : (List α → β) → β :=
  List.rec (motive := fun _ => Nat → (List α → β) → β) (fun _ K => K []) (fun x _ ih n K => Nat.casesOn n (K []) fun n => ih n fun r => K (x :: r)) l n
noncomputable def setK (l : List α) (n : Nat) (y : α) : (List α → β) → β :=
  List.rec (motive := fun _ => Nat → (List α → β) → β) (fun _ K => K []) (fun x l ih n K => Nat.casesOn n (K (y :: l)) fun n => ih n fun r => K (x :: r)) l n
noncomputable def getK (l : List α) (n : Nat) (F : β) (K : α → β) : β :=
  List.rec (motive := fun _ => Nat → β) (fun _ => F) (fun x _ ih n => Nat.casesOn n (K x) ih) l n
noncomputable def appK (l r : List α) : (List α → β) → β :=
  List.rec (motive := fun _ => (List α → β) → β) (fun K => K r) (fun x _ ih K => ih fun q => K (x :: q)) l
noncomputable def mapK (f : α → (γ → β) → β) (l : List α) : (List γ → β) → β :=
  List.rec (motive := fun _ => (List γ → β) → β) (fun K => K []) (fun x _ ih K => f x fun y => ih fun r => K (y :: r)) l
/-- Writes a part over a list from a place on; nought, if it does not fit. -/
noncomputable def pasteK (l : List α) (n : Nat) (p : List α) (F : β) : (List α → β) → β :=
  List.rec (motive := fun _ => Nat → List α → (List α → β) → β)
    (fun _ p K => List.casesOn p (K []) fun _ _ => F)
    (fun x l ih n p K => List.casesOn p (K (x :: l)) fun y q => Nat.casesOn n (ih 0 q fun r => K (y :: r)) fun n => ih n p fun r => K (x :: r)) l n p
end lists

noncomputable def Regs.getK {β : Type} (ρ : Regs) (n : Nat) (K : AV → β) : β :=
  Regs.rec (motive := fun _ => β) (K .undef) (fun r x _ ih => Bool.rec ih (K x) (Nat.beq r n)) ρ
noncomputable def Regs.findK {β : Type} (ρ : Regs) (n : Nat) (F : β) (K : AV → β) : β :=
  Regs.rec (motive := fun _ => β) F (fun r x _ ih => Bool.rec ih (K x) (Nat.beq r n)) ρ

def Regs.put (ρ : Regs) (d : Option Nat) (x : AV) : Regs :=
  match d with
  | some r => .cons r x ρ
  | none => ρ

/-- A value with no address in it. -/
def plain : Value → Bool
  | .bool _ | .int _ _ | .float _ _ | .string _ | .nilFunc | .nilIface => true
  | .pointer none | .map none => true
  | .slice none 0 0 => true
  | .iface _ x => plain x
  | _ => false
def plains : List Value → Bool
  | [] => true
  | x :: l => plain x && plains l

/- A value of no object: it may lie in an array. -/
mutual
def pureAV : AV → Bool
  | .v _ => true
  | .imm _ _ => true
  | .mt => true
  | .agg cs => pureAVs cs
  | .iface _ x => pureAV x
  | .fn _ cs => cs.isEmpty
  | _ => false
def pureAVs : List AV → Bool
  | [] => true
  | x :: l => pureAV x && pureAVs l
end

/-! ### Numbers -/
/-- The greatest number of a kind. -/
def topOf : IntKind → Nat
  | .i8 => 127 | .i16 => 32767 | .i32 => 2147483647 | .i64 => 9223372036854775807
  | .u8 => 255 | .u16 => 65535 | .u32 => 4294967295 | .u64 => 18446744073709551615
/-- 'k.wrap n', at once where n is of the kind. -/
def fwrap (k : IntKind) (n : Int) : Int :=
  match n with
  | .ofNat a => cond (Nat.ble a (topOf k)) (.ofNat a) (k.wrap (.ofNat a))
  | .negSucc a => cond (k.signed && Nat.ble a (topOf k)) (.negSucc a) (k.wrap (.negSucc a))
def sameBytes : List UInt8 → List UInt8 → Bool
  | [], [] => true
  | a :: l, b :: r => cond (Nat.beq a.toNat b.toNat) (sameBytes l r) false
  | _, _ => false

/-! ### Renaming, freezing -/
def look : List (Nat × Nat) → Nat → Option Nat
  | [], _ => none
  | (a, b) :: l, k => cond (Nat.beq a k) (some b) (look l k)
mutual
def renAV (r : List (Nat × Nat)) : AV → AV
  | .ref k off => match look r k with | some j => .ref j off | none => .undef
  | .ar k => match look r k with | some j => .ar j | none => .undef
  | .sl k lo len => match look r k with | some j => .sl j lo len | none => .undef
  | .mp k => match look r k with | some j => .mp j | none => .undef
  | .it k => match look r k with | some j => .it j | none => .undef
  | .aptr k e off => match look r k with | some j => .aptr j e off | none => .undef
  | .agg cs => .agg (renAVs r cs)
  | .tup cs => .tup (renAVs r cs)
  | .iface t x => .iface t (renAV r x)
  | .fn f cs => .fn f (renAVs r cs)
  | x => x
def renAVs (r : List (Nat × Nat)) : List AV → List AV
  | [] => []
  | x :: l => renAV r x :: renAVs r l
end
/-- A pointer into an element of a pure list. -/
def elemPtr (z : Nat) (es : List (List AV)) (e off : Nat) : AV :=
  match es[e]? with
  | some cs => .eptr cs off
  | none => .eptr [] (e * z + off)
mutual
def substAV (k z : Nat) (es : List (List AV)) : AV → AV
  | .ar j => cond (Nat.beq j k) (.imm z es) (.ar j)
  | .sl j lo len => cond (Nat.beq j k) (.imm z ((es.drop lo).take len)) (.sl j lo len)
  | .aptr j e off => cond (Nat.beq j k) (elemPtr z es e off) (.aptr j e off)
  | .agg cs => .agg (substAVs k z es cs)
  | .tup cs => .tup (substAVs k z es cs)
  | .iface t x => .iface t (substAV k z es x)
  | .fn f cs => .fn f (substAVs k z es cs)
  | x => x
def substAVs (k z : Nat) (es : List (List AV)) : List AV → List AV
  | [] => []
  | x :: l => substAV k z es x :: substAVs k z es l
end
/- The local arrays that a value shows. -/
mutual
def arrsAV : AV → List Nat
  | .ar k => [k]
  | .sl k _ _ => [k]
  | .agg cs => arrsAVs cs
  | .tup cs => arrsAVs cs
  | .iface _ x => arrsAV x
  | _ => []
def arrsAVs : List AV → List Nat
  | [] => []
  | x :: l => arrsAV x ++ arrsAVs l
end
/- The objects that a value shows. -/
mutual
def idsAV : AV → List Nat
  | .ref k _ => [k]
  | .ar k => [k]
  | .sl k _ _ => [k]
  | .mp k => [k]
  | .it k => [k]
  | .aptr k _ _ => [k]
  | .agg cs => idsAVs cs
  | .tup cs => idsAVs cs
  | .iface _ x => idsAV x
  | .fn _ cs => idsAVs cs
  | _ => []
def idsAVs : List AV → List Nat
  | [] => []
  | x :: l => idsAV x ++ idsAVs l
end

section force
variable {β : Type}
/-- A value brought to its form. -/
def force1 (x : AV) (K : AV → β) : β :=
  match x with
  | .v a => K (.v a)
  | .agg cs => K (.agg cs)
  | .tup cs => K (.tup cs)
  | .imm z es => K (.imm z es)
  | .own z es => K (.own z es)
  | .omap kv => K (.omap kv)
  | .mt => K .mt
  | .eptr cs off => K (.eptr cs off)
  | .ref k off => K (.ref k off)
  | .aptr k e off => K (.aptr k e off)
  | .ar k => K (.ar k)
  | .sl k lo len => K (.sl k lo len)
  | .mp k => K (.mp k)
  | .it k => K (.it k)
  | .fn f cs => K (.fn f cs)
  | .iface t x => K (.iface t x)
  | .glob g off => K (.glob g off)
  | .undef => K .undef
noncomputable def force (x : AV) (K : AV → β) : β :=
  match x with
  | .agg cs => mapK force1 cs fun cs => K (.agg cs)
  | .tup cs => mapK force1 cs fun cs => K (.tup cs)
  | .fn f cs => mapK force1 cs fun cs => K (.fn f cs)
  | x => force1 x K
noncomputable def forces (l : List AV) : (List AV → β) → β := mapK force l
/-- A list of numbers brought to its form. -/
noncomputable def spineK {α : Type} (l : List α) : (List α → β) → β := mapK (fun x K => K x) l
end force

def memb (k : Nat) : List Nat → Bool
  | [] => false
  | j :: l => cond (Nat.beq j k) true (memb k l)
def idsObj : AObj → List Nat
  | .box cs => idsAVs cs
  | _ => []
def idsAt (H : Heap) (k : Nat) : List Nat :=
  match H[k]? with
  | some o => idsObj o
  | none => []
/-- The objects that can be reached, in the order in which they are met. -/
def reach (H : Heap) : Nat → List Nat → List Nat → List Nat
  | 0, _, seen => seen
  | _ + 1, [], seen => seen
  | n + 1, k :: todo, seen => cond (memb k seen) (reach H n todo seen) (reach H n (idsAt H k ++ todo) (seen ++ [k]))
def idsAll (H : Heap) : List Nat → List Nat
  | [] => []
  | k :: l => idsAt H k ++ idsAll H l
/-- What can be reached from some objects and values: those objects first. -/
def reachB (H : Heap) (n : Nat) (base : List Nat) (xs : List AV) : List Nat := reach H n (idsAll H base ++ idsAVs xs) base
def numbered : Nat → List Nat → List (Nat × Nat)
  | _, [] => []
  | n, k :: l => (k, n) :: numbered (n + 1) l
def backward : Nat → List Nat → List (Nat × Nat)
  | _, [] => []
  | n, k :: l => (n, k) :: backward (n + 1) l
/-- 'n, n + 1, ..', as many as there are. -/
def upFrom : Nat → Nat → List Nat
  | _, 0 => []
  | n, m + 1 => n :: upFrom (n + 1) m

section
variable {β : Type} (σ : Sig β) (X : Ctx)

noncomputable def constK (c : Value) (K : AV → β) : β :=
  match c with
  | .int k n => K (.v (.int k n))
  | .bool b => K (.v (.bool b))
  | .string s => K (.v (.string s))
  | .agg cs => cond (plains cs.toList) (mapK (fun x K => K (.v x)) cs.toList fun l => K (.agg l)) σ.fail
  | c => cond (plain c) (K (.v c)) σ.fail
noncomputable def evalK (ρ : Regs) (x : Operand) (K : AV → β) : β :=
  match x with
  | .tmp t => Regs.getK ρ t K
  | .const c => constK σ c K
  | .global g => K (.glob g 0)
  | .func f => K (.fn f [])
noncomputable def tiK (t : Nat) (K : TI → β) : β :=
  match X.T t with
  | some i => K i
  | none => σ.fail
noncomputable def objK (H : Heap) (k : Nat) (K : AObj → β) : β := getK H k σ.fail K
noncomputable def boxK (H : Heap) (k : Nat) (K : List AV → β) : β := objK σ H k fun
  | .box cs => K cs
  | _ => σ.fail
noncomputable def arrK (H : Heap) (k : Nat) (K : Nat → List (List AV) → β) : β := objK σ H k fun
  | .arr z es => K z es
  | _ => σ.fail
noncomputable def mapObjK (H : Heap) (k : Nat) (K : List (Value × AV) → β) : β := objK σ H k fun
  | .map kv => K kv
  | _ => σ.fail

def cellsOf : AV → List AV
  | .agg cs => cs
  | x => [x]
/-- May it be a cell of a box? -/
def okCell : AV → Bool
  | .agg _ | .tup _ | .undef | .own .. | .omap _ => false
  | _ => true
def okCells : List AV → Bool
  | [] => true
  | x :: l => okCell x && okCells l
/-- A value's cells, if they may lie in memory. -/
noncomputable def cellsK (x : AV) (K : List AV → β) : β := cond (okCells (cellsOf x)) (K (cellsOf x)) σ.fail
/-- A variable of a type, out of cells. -/
noncomputable def partK (i : TI) (cs : List AV) (off : Nat) (K : AV → β) : β :=
  cond i.agg (dropK off cs fun r => takeK i.size r fun p => cond (Nat.beq p.length i.size) (K (.agg p)) σ.fail) (getK cs off σ.fail K)

/-! ### Freezing: a local array becomes a pure list, everywhere. -/
noncomputable def substObjK (k z : Nat) (es : List (List AV)) (o : AObj) (K : AObj → β) : β :=
  match o with
  | .box cs => forces (substAVs k z es cs) fun cs => K (.box cs)
  | .arr z es => K (.arr z es)
  | .map kv => K (.map kv)
  | .siter s p => K (.siter s p)
  | .dead => K .dead
noncomputable def substRegsK (k z : Nat) (es : List (List AV)) (ρ : Regs) : (Regs → β) → β :=
  Regs.rec (motive := fun _ => (Regs → β) → β) (fun K => K .nil) (fun r x _ ih K => force (substAV k z es x) fun x => ih fun q => K (.cons r x q)) ρ
noncomputable def frzK (ρ : Regs) (H : Heap) (ks : List Nat) : List AV → (List AV → Regs → Heap → β) → β :=
  List.rec (motive := fun _ => Regs → Heap → List AV → (List AV → Regs → Heap → β) → β)
    (fun ρ H xs K => K xs ρ H)
    (fun k _ ih ρ H xs K => objK σ H k fun
      | .arr z es => setK H k .dead fun H => mapK (substObjK k z es) H fun H => substRegsK k z es ρ fun ρ =>
          forces (substAVs k z es xs) fun xs => ih ρ H xs K
      | .dead => ih ρ H xs K
      | _ => σ.fail) ks ρ H
/-- The arrays that some values show are frozen. -/
noncomputable def freezeK (ρ : Regs) (H : Heap) (xs : List AV) (K : List AV → Regs → Heap → β) : β :=
  frzK σ ρ H (arrsAVs xs) xs K

/-! ### Boundaries: arrays and maps lie in the cells outside, and are objects inside. -/
/-- One cell of a box, its array drawn in: the array is used up. -/
noncomputable def inCellK (x : AV) (H : Heap) (K : AV → Heap → β) : β :=
  match x with
  | .ar k => arrK σ H k fun z es => setK H k .dead fun H => K (.own z es) H
  | .sl k lo len => Nat.casesOn lo (arrK σ H k fun z es => setK H k .dead fun H => K (.own z (es.take len)) H) fun _ => σ.fail
  | .mp k => mapObjK σ H k fun kv => setK H k .dead fun H => K (.omap kv) H
  | x => K x H
noncomputable def inCellsK (cs : List AV) : Heap → (List AV → Heap → β) → β :=
  List.rec (motive := fun _ => Heap → (List AV → Heap → β) → β) (fun H K => K [] H)
    (fun x _ ih H K => inCellK σ x H fun y H => ih H fun l H => K (y :: l) H) cs
/-- The boxes of these numbers are drawn in. -/
noncomputable def inBoxesK (ks : List Nat) : Heap → (Heap → β) → β :=
  List.rec (motive := fun _ => Heap → (Heap → β) → β) (fun H K => K H)
    (fun k _ ih H K => objK σ H k fun
      | .box cs => inCellsK σ cs H fun cs H => setK H k (.box cs) fun H => ih H K
      | _ => ih H K) ks
/-- Laying out: a box's arrays made objects, from number n on; what is new. -/
noncomputable def outCellK (x : AV) (n : Nat) (os : List AObj) (K : AV → Nat → List AObj → β) : β :=
  match x with
  | .own z es => appK os [.arr z es] fun os => K (.ar n) (n + 1) os
  | .omap kv => appK os [.map kv] fun os => K (.mp n) (n + 1) os
  | x => K x n os
noncomputable def outCellsK (cs : List AV) : Nat → List AObj → (List AV → Nat → List AObj → β) → β :=
  List.rec (motive := fun _ => Nat → List AObj → (List AV → Nat → List AObj → β) → β) (fun n os K => K [] n os)
    (fun x _ ih n os K => outCellK x n os fun y n os => ih n os fun l n os => K (y :: l) n os) cs
noncomputable def outObjK (o : AObj) (n : Nat) (os : List AObj) (K : AObj → Nat → List AObj → β) : β :=
  match o with
  | .box cs => outCellsK cs n os fun cs n os => K (.box cs) n os
  | o => K o n os
noncomputable def outBoxesK (H : Heap) : Nat → List AObj → (Heap → Nat → List AObj → β) → β :=
  List.rec (motive := fun _ => Nat → List AObj → (Heap → Nat → List AObj → β) → β) (fun n os K => K [] n os)
    (fun o _ ih n os K => outObjK o n os fun p n os => ih n os fun l n os => K (p :: l) n os) H
noncomputable def layOutK (H : Heap) (K : Heap → β) : β := outBoxesK H H.length [] fun H _ os => appK H os K

/-- May it be a cell of a box, from outside? -/
def okCellO : AV → Bool
  | .agg _ | .tup _ | .undef => false
  | _ => true
def okCellsO : List AV → Bool
  | [] => true
  | x :: l => okCellO x && okCellsO l
noncomputable def renObjK (r : List (Nat × Nat)) (o : AObj) (K : AObj → β) : β :=
  match o with
  | .box cs => forces (renAVs r cs) fun cs => cond (okCellsO cs) (K (.box cs)) σ.fail
  | .arr z es => K (.arr z es)
  | .map kv => K (.map kv)
  | .siter s p => K (.siter s p)
  | .dead => K .dead
noncomputable def gatherK (H : Heap) (r : List (Nat × Nat)) (ks : List Nat) : (Heap → β) → β :=
  mapK (fun k K => objK σ H k fun o => renObjK σ r o K) ks
/-- Puts objects back to their places; what is new goes behind. -/
noncomputable def putBackK (ks : List Nat) : Heap → Heap → (Heap → β) → β :=
  List.rec (motive := fun _ => Heap → Heap → (Heap → β) → β) (fun H Hc K => appK H Hc K)
    (fun k _ ih H Hc K => List.casesOn Hc σ.fail fun o Hc => setK H k o fun H => ih H Hc K) ks
/-- What values reach is taken out: the numbers, the heap with those boxes drawn in, the piece, the values in it. -/
noncomputable def pieceK (H : Heap) (base : List Nat) (xs : List AV) (K : List Nat → Heap → Heap → List AV → β) : β :=
  spineK (reachB H (H.length + 100) base xs) fun ks => inBoxesK σ ks H fun H =>
  spineK (reachB H (H.length + 100) base xs) fun ks =>
  spineK (numbered 0 ks) fun r =>
  forces (renAVs r xs) fun xs => gatherK σ H r ks fun P => K ks H P xs
/-- And back. -/
noncomputable def backK (ks : List Nat) (H P : Heap) (x : AV) (K : AV → Heap → β) : β :=
  spineK (backward 0 ks ++ backward ks.length (upFrom H.length (P.length - ks.length))) fun r =>
  mapK (renObjK σ r) P fun P => putBackK σ ks H P fun H => layOutK H fun H => force (renAV r x) fun x => K x H

/-- A call. -/
noncomputable def callK' (f : Nat) (args : List AV) (ρ : Regs) (H : Heap) (K : Out → Regs → Heap → β) : β :=
  pieceK σ H [] args fun ks H P args => σ.call f args P fun out P => match out with
    | .ret x => backK σ ks H P x fun x H => K (.ret x) ρ H
    | .panic x => backK σ ks H P x fun x H => K (.panic x) ρ H
noncomputable def callK (f : Nat) (args : List AV) (ρ : Regs) (H : Heap) (K : Out → Regs → Heap → β) : β :=
  cond (X.byref f) (callK' σ f args ρ H K) (freezeK σ ρ H args fun args ρ H => callK' σ f args ρ H K)

/-! ### The operations -/
noncomputable def asNat (x : AV) (K : Nat → β) : β :=
  match x with
  | .v (.int _ n) => σ.need (0 ≤ n) (K n.toNat)
  | _ => σ.fail

noncomputable def numK (k : IntKind) (n : Int) (K : Value → β) : β := σ.num n fun n => K (.int k n)
noncomputable def intK (op : BinOp) (k : IntKind) (a b : Int) (K : Value → β) : β :=
  match op with
  | .add => numK σ k (fwrap k (a + b)) K
  | .sub => numK σ k (fwrap k (a - b)) K
  | .mul => numK σ k (fwrap k (a * b)) K
  | .quo => σ.need (b ≠ 0) (numK σ k (fwrap k (a.tdiv b)) K)
  | .rem => σ.need (b ≠ 0) (numK σ k (a.tmod b) K)
  | .and => numK σ k (fwrap k (BitVec.ofInt k.bits a &&& BitVec.ofInt k.bits b).toNat) K
  | .or => numK σ k (fwrap k (BitVec.ofInt k.bits a ||| BitVec.ofInt k.bits b).toNat) K
  | .xor => numK σ k (fwrap k (BitVec.ofInt k.bits a ^^^ BitVec.ofInt k.bits b).toNat) K
  | .andNot => numK σ k (fwrap k (BitVec.ofInt k.bits a &&& ~~~ BitVec.ofInt k.bits b).toNat) K
  | .eql => K (.bool (a == b))
  | .neq => K (.bool (a != b))
  | .lss => K (.bool (decide (a < b)))
  | .leq => K (.bool (decide (a ≤ b)))
  | .gtr => K (.bool (decide (a > b)))
  | .geq => K (.bool (decide (a ≥ b)))
  | _ => σ.fail
noncomputable def shiftK (op : BinOp) (k : IntKind) (a b : Int) (K : Value → β) : β :=
  match op with
  | .shl => σ.need (0 ≤ b) (numK σ k (fwrap k (a * Int.ofNat (2 ^ (min b.toNat k.bits)))) K)
  | _ => σ.need (0 ≤ b) (numK σ k (a.fdiv (Int.ofNat (2 ^ (min b.toNat k.bits)))) K)
def isShift : BinOp → Bool
  | .shl | .shr => true
  | _ => false
noncomputable def stringK (op : BinOp) (a b : ByteArray) (K : Value → β) : β :=
  match op with
  | .add => σ.need (a.size + b.size < 9223372036854775808) (K (.string (a ++ b)))
  | .eql => K (.bool (sameBytes a.data.toList b.data.toList))
  | .neq => K (.bool (!(sameBytes a.data.toList b.data.toList)))
  | .lss => K (.bool (Op.bytesLess a.toList b.toList))
  | .geq => K (.bool (!Op.bytesLess a.toList b.toList))
  | .leq => K (.bool (Op.bytesLess a.toList b.toList || a.toList == b.toList))
  | .gtr => K (.bool (!(Op.bytesLess a.toList b.toList || a.toList == b.toList)))
  | _ => σ.fail
/-- '==', '!=' where the answer is known. -/
def eqIs (op : BinOp) (t : Bool) (K : Value → β) : β :=
  match op with
  | .eql => K (.bool t)
  | .neq => K (.bool (!t))
  | _ => σ.fail
/-- Are two rows of cells the same, cell by cell (numbers, bools, strings)? -/
def sameCells : List UT → List AV → List AV → Option Bool
  | [], [], [] => some true
  | .int _ :: us, .v (.int k a) :: l, .v (.int k' b) :: r => if k = k' then cond (a == b) (sameCells us l r) (some false) else none
  | .bool :: us, .v (.bool a) :: l, .v (.bool b) :: r => cond (a == b) (sameCells us l r) (some false)
  | .string :: us, .v (.string a) :: l, .v (.string b) :: r => cond (sameBytes a.data.toList b.data.toList) (sameCells us l r) (some false)
  | _, _, _ => none
/-- Is '==' at a type and at two values known without a look into them? 'nil': one of both is written 'nil'. -/
def eqKnown (u : UT) (nil : Bool) (x y : AV) : Option Bool :=
  match u, x, y with
  | .bool, .v (.bool a), .v (.bool b) => some (a == b)
  | .iface, .v .nilIface, .v .nilIface => cond nil (some true) none
  | .iface, .v .nilIface, .v (.iface _ _) => some false
  | .iface, .v (.iface _ _), .v .nilIface => some false
  | .iface, .v .nilIface, .iface _ _ => some false
  | .iface, .iface _ _, .v .nilIface => some false
  | .slice _, .v (.slice none _ _), .v (.slice none _ _) => some true
  | .ptr _, .v (.pointer none), .v (.pointer none) => some true
  | .func, .v .nilFunc, .v .nilFunc => some true
  | .func, .v .nilFunc, .fn _ _ => some false
  | .func, .fn _ _, .v .nilFunc => some false
  | _, _, _ => none
def isConst : Operand → Bool
  | .const _ => true
  | _ => false
noncomputable def eqV (op : BinOp) (t : Nat) (nil : Bool) (x y : AV) (K : Value → β) : β := tiK σ X t fun i =>
  match eqKnown i.und nil x y with
  | some b => eqIs σ op b K
  | none => match x, y with
    | .agg a, .agg b => cond i.flat.isEmpty σ.fail (match sameCells i.flat a b with
      | some s => eqIs σ op s K
      | none => σ.fail)
    | _, _ => σ.fail
noncomputable def binV (op : BinOp) (t : Nat) (nil : Bool) (x y : Value) (K : Value → β) : β :=
  match x with
  | .int k a => match y with
    | .int k' b => cond (isShift op) (shiftK σ op k a b K) (if k = k' then intK σ op k a b K else σ.fail)
    | _ => σ.fail
  | .string a => match y with
    | .string b => stringK σ op a b K
    | _ => σ.fail
  | x => eqV σ X op t nil (.v x) (.v y) K
noncomputable def binK (op : BinOp) (t : Nat) (nil : Bool) (x y : AV) (K : AV → β) : β :=
  match x with
  | .v a => match y with
    | .v b => binV σ X op t nil a b fun c => K (.v c)
    | y => eqV σ X op t nil (.v a) y fun c => K (.v c)
  | x => eqV σ X op t nil x y fun c => K (.v c)
noncomputable def unK (op : UnOp) (x : AV) (K : AV → β) : β :=
  match op, x with
  | .neg, .v (.int k n) => numK σ k (fwrap k (0 - n)) fun c => K (.v c)
  | .xor, .v (.int k n) => numK σ k (fwrap k (BitVec.ofInt k.bits (if k.signed then -1 else k.max) ^^^ BitVec.ofInt k.bits n).toNat) fun c => K (.v c)
  | .not, .v (.bool b) => K (.v (.bool (!b)))
  | _, _ => σ.fail

/-- The bytes of an array of bytes. -/
def bytesOf : List (List AV) → Option (List UInt8)
  | [] => some []
  | [.v (.int .u8 n)] :: l => (bytesOf l).map (UInt8.ofNat n.toNat :: ·)
  | _ => none
def byteCells (s : ByteArray) : List (List AV) := s.data.toList.map fun b => [.v (.int .u8 b.toNat)]
noncomputable def lenK (H : Heap) (x : AV) (K : Nat → β) : β :=
  match x with
  | .v (.slice none _ _) => K 0
  | .mt => K 0
  | .imm _ es => K es.length
  | .ar k => arrK σ H k fun _ es => K es.length
  | .sl _ _ len => K len
  | _ => σ.fail
/-- Of 'z' cells. -/
noncomputable def sizedK {α : Type} (z size : Nat) (x : α) (K : α → β) : β := cond (Nat.beq z size) (K x) σ.fail
/-- The elements of a slice, of so many cells each, or the bytes of a string. -/
noncomputable def elemsK (size : Nat) (H : Heap) (x : AV) (K : List (List AV) → β) : β :=
  match x with
  | .v (.string s) => sizedK σ 1 size (byteCells s) K
  | .v (.slice none _ _) => K []
  | .mt => K []
  | .imm z es => sizedK σ z size es K
  | .ar k => arrK σ H k fun z es => sizedK σ z size es K
  | .sl k lo len => arrK σ H k fun z es => sizedK σ z size ((es.drop lo).take len) K
  | _ => σ.fail
/-- A new object: its number. -/
noncomputable def newK (H : Heap) (o : AObj) (K : Nat → Heap → β) : β := appK H [o] fun H' => K H.length H'

def roomy : Nat := 2 ^ 45
noncomputable def growK (z bytes : Nat) (es ys : List (List AV)) (H : Heap) (K : AV → Heap → β) : β :=
  σ.need ((es.length + ys.length) * (bytes + 1) ≤ roomy) (newK H (.arr z (es ++ ys)) fun k H => K (.ar k) H)
noncomputable def appendK (z bytes : Nat) (x y : AV) (H : Heap) (K : AV → Heap → β) : β :=
  elemsK σ z H y fun ys => match x with
  | .v (.slice none _ _) => growK σ z bytes [] ys H K
  | .mt => growK σ z bytes [] ys H K
  | .ar k => arrK σ H k fun z' es => sizedK σ z' z es fun es => setK H k .dead fun H => growK σ z bytes es ys H K
  | .sl k lo len => Nat.casesOn lo (arrK σ H k fun z' es => sizedK σ z' z (es.take len) fun es => setK H k .dead fun H => growK σ z bytes es ys H K) fun _ => σ.fail
  | _ => σ.fail

noncomputable def loadK (t : Nat) (a : AV) (H : Heap) (K : AV → β) : β :=
  tiK σ X t fun i => match a with
  | .ref k off => boxK σ H k fun cs => partK σ i cs off K
  | .aptr k e off => arrK σ H k fun _ es => σ.elem es e fun cs => partK σ i cs off K
  | .eptr cs off => partK σ i cs off K
  | .glob g off => match X.G g with
    | some vs => partK σ i (vs.map .v) off K
    | none => σ.fail
  | _ => σ.fail
noncomputable def storeArrK (size k e off : Nat) (x : AV) (H : Heap) (K : Heap → β) : β :=
  cond (pureAV x) (cellsK σ x fun xs => sizedK σ xs.length size xs fun xs => arrK σ H k fun z es => σ.elem es e fun cs => pasteK cs off xs σ.fail fun cs =>
    setK H k (.arr z (es.set e cs)) K) σ.fail
noncomputable def storeK (t : Nat) (a x : AV) (ρ : Regs) (H : Heap) (K : Regs → Heap → β) : β :=
  tiK σ X t fun i => match a with
  | .ref k off => boxK σ H k fun cs => cellsK σ x fun xs => sizedK σ xs.length i.size xs fun xs => pasteK cs off xs σ.fail fun cs => setK H k (.box cs) fun H => K ρ H
  | .aptr k e off => freezeK σ ρ H [x] fun xs ρ H => List.casesOn xs σ.fail fun x _ => storeArrK σ i.size k e off x H fun H => K ρ H
  | _ => σ.fail

noncomputable def fillK (place : Nat → Option (Nat × Nat)) (l : List (Nat × AV)) : List AV → (List AV → β) → β :=
  List.rec (motive := fun _ => List AV → (List AV → β) → β) (fun cs K => K cs)
    (fun p _ ih cs K => Prod.casesOn p fun i x => match place i with
      | some (off, size) => cellsK σ x fun xs => sizedK σ xs.length size xs fun xs => List.casesOn xs σ.fail fun _ _ => pasteK cs off xs σ.fail fun cs => ih cs K
      | none => σ.fail) l
noncomputable def partsK (ρ : Regs) (l : List (Nat × Operand)) : (List (Nat × AV) → β) → β :=
  mapK (fun p K => Prod.casesOn p fun i x => evalK σ ρ x fun a => K (i, a)) l
def fieldOff (i : TI) (f : Nat) : Option Nat :=
  match i.und with
  | .struct fs => (fs[f]?).map (·.1)
  | _ => none
def placeOf (i : TI) (f : Nat) : Option (Nat × Nat) :=
  match i.und with
  | .struct fs => match fs[f]? with
    | some (off, u) => match X.T u with
      | some j => some (off, j.size)
      | none => none
    | none => none
  | .array _ e => match X.T e with
    | some j => some (f * j.size, j.size)
    | none => none
  | _ => none

def sameKey : UT → Value → Value → Option Bool
  | .int _, .int k a, .int k' b => if k = k' then some (a == b) else none
  | .string, .string a, .string b => some (sameBytes a.data.toList b.data.toList)
  | _, _, _ => none
noncomputable def keyK (u : UT) (a b : Value) (K : Bool → β) : β :=
  match sameKey u a b with
  | some t => K t
  | none => σ.fail
noncomputable def findK (u : UT) (key : Value) (l : List (Value × AV)) (F : β) (K : AV → β) : β :=
  List.rec (motive := fun _ => β) F (fun p _ ih => Prod.casesOn p fun k x => keyK σ u key k fun t => σ.cond t (K x) ih) l
noncomputable def putKeyK (u : UT) (key : Value) (y : AV) (l : List (Value × AV)) : (List (Value × AV) → β) → β :=
  List.rec (motive := fun _ => (List (Value × AV) → β) → β) (fun K => K [(key, y)])
    (fun p l ih K => Prod.casesOn p fun k x => keyK σ u key k fun t => σ.cond t (K ((key, y) :: l)) (ih fun r => K ((k, x) :: r))) l
noncomputable def dropKeyK (u : UT) (key : Value) (l : List (Value × AV)) : (List (Value × AV) → β) → β :=
  List.rec (motive := fun _ => (List (Value × AV) → β) → β) (fun K => K [])
    (fun p l ih K => Prod.casesOn p fun k x => keyK σ u key k fun t => σ.cond t (K l) (ih fun r => K ((k, x) :: r))) l
/-- Of a map's type: what its keys are, and its elements' type. -/
noncomputable def mapT (t : Nat) (K : UT → Nat → β) : β := tiK σ X t fun i => match i.und with
  | .map k e => tiK σ X k fun j => match j.und with
    | .int k => K (.int k) e
    | .string => K .string e
    | _ => σ.fail
  | _ => σ.fail

noncomputable def boundK (ρ : Regs) (x : Option Operand) (d : Nat) (K : Nat → β) : β :=
  match x with
  | none => K d
  | some o => evalK σ ρ o fun a => asNat σ a K
def aggOf (i : TI) : AV := cond i.agg (.agg i.zero) (match i.zero with | [x] => x | _ => .undef)
def pickInt (isMax : Bool) (a b : Int) : Int := cond isMax (if b > a then b else a) (if b < a then b else a)
noncomputable def minmaxK (isMax : Bool) (l : List AV) : AV → (AV → β) → β :=
  List.rec (motive := fun _ => AV → (AV → β) → β) (fun x K => K x)
    (fun y _ ih x K => match x, y with
      | .v (.int k a), .v (.int k' b) => if k = k' then numK σ k (pickInt isMax a b) fun c => ih (.v c) K else σ.fail
      | _, _ => σ.fail) l

noncomputable def elemT (t : Nat) (F : TI → β) : β := tiK σ X t fun i => match i.und with
  | .slice e => tiK σ X e F
  | _ => σ.fail

section ops
variable (ρ : Regs) (H : Heap) (d : Dx) (K : VK β)
noncomputable def moveO (x : Operand) : β := evalK σ ρ x fun a => K a ρ H d
noncomputable def pickV (c a b : AV) : β :=
  match c with
  | .v (.bool t) => match a, b with
    | .v (.bool p), .v (.bool q) => K (.v (.bool (cond t p q))) ρ H d
    | _, _ => σ.cond t (K a ρ H d) (K b ρ H d)
  | _ => σ.fail
noncomputable def pickO (c a b : Operand) : β := evalK σ ρ c fun c => evalK σ ρ a fun a => evalK σ ρ b fun b => pickV σ ρ H d K c a b
noncomputable def allocO (t : Nat) : β := tiK σ X t fun i => newK H (.box i.zero) fun k H => K (.ref k 0) ρ H d
noncomputable def boxO (x : Operand) : β := evalK σ ρ x fun a => cellsK σ a fun cs => newK H (.box cs) fun k H => K (.ref k 0) ρ H d
noncomputable def builtT (i : TI) (b : β) : β := match i.und with
  | .struct _ => b
  | .array _ e => tiK σ X e fun _ => b
  | _ => σ.fail
noncomputable def buildO (t : Nat) (ps : List (Nat × Operand)) : β :=
  tiK σ X t fun i => builtT σ X i (partsK σ ρ ps fun l => fillK σ (placeOf X i) l i.zero fun cs => K (.agg cs) ρ H d)
noncomputable def buildSliceO (t n : Nat) (ps : List (Nat × Operand)) : β :=
  elemT σ X t fun j => partsK σ ρ ps fun l =>
  if l.map (·.1) = List.range n then
    spineK (l.map (·.2)) fun xs => freezeK σ ρ H xs fun xs ρ H =>
    cond (pureAVs xs && Nat.ble (n * j.size) 16777216) (mapK (fun x K => cellsK σ x fun cs => sizedK σ cs.length j.size cs K) xs fun es => newK H (.arr j.size es) fun k H => K (.ar k) ρ H d) σ.fail
  else σ.fail
noncomputable def loadO (t : Nat) (a : Operand) : β := evalK σ ρ a fun a => loadK σ X t a H fun x => K x ρ H d
noncomputable def storeO (t : Nat) (a x : Operand) : β := evalK σ ρ a fun a => evalK σ ρ x fun x => storeK σ X t a x ρ H fun ρ H => K .undef ρ H d
noncomputable def nilCheckV (a : AV) : β := match a with
  | .ref .. => K a ρ H d
  | .aptr .. => K a ρ H d
  | .eptr .. => K a ρ H d
  | .glob .. => K a ρ H d
  | .fn .. => K a ρ H d
  | _ => σ.fail
noncomputable def nilCheckO (x : Operand) : β := evalK σ ρ x fun a => nilCheckV σ ρ H d K a
noncomputable def binO (op : BinOp) (t : Nat) (x y : Operand) : β := evalK σ ρ x fun a => evalK σ ρ y fun b => binK σ X op t (isConst x || isConst y) a b fun c => K c ρ H d
noncomputable def unO (op : UnOp) (x : Operand) : β := evalK σ ρ x fun a => unK σ op a fun c => K c ρ H d
noncomputable def bytesV (i : TI) (x : AV) : β := match i.und with
  | .slice e => tiK σ X e fun k => match k.und with
    | .int .u8 => elemsK σ 1 H x fun es => match bytesOf es with
      | some bs => K (.v (.string ⟨bs.toArray⟩)) ρ H d
      | none => σ.fail
    | _ => σ.fail
  | _ => σ.fail
noncomputable def convV (i j : TI) (x : AV) : β :=
  match j.und with
  | .int k => match x with
    | .v (.int _ n) => numK σ k (fwrap k n) fun c => K (.v c) ρ H d
    | _ => σ.fail
  | .string => match x with
    | .v (.string b) => K (.v (.string b)) ρ H d
    | x => bytesV σ X ρ H d K i x
  | _ => σ.fail
noncomputable def convertO (src dst : Nat) (x : Operand) : β := tiK σ X src fun i => tiK σ X dst fun j => evalK σ ρ x fun a => convV σ X ρ H d K i j a
noncomputable def ifaceV (t : Nat) (a : AV) : β := match a with
  | .v c => K (.v (.iface t c)) ρ H d
  | a => K (.iface t a) ρ H d
noncomputable def ifaceO (t : Nat) (x : Operand) : β := tiK σ X t fun i => match i.und with
  | .iface => σ.fail
  | _ => evalK σ ρ x fun a => ifaceV ρ H d K t a
noncomputable def funcO (f : Nat) (caps : List Operand) : β := mapK (evalK σ ρ) caps fun cs => K (.fn f cs) ρ H d
noncomputable def makeSliceO (t : Nat) (l c : Operand) : β :=
  elemT σ X t fun j => evalK σ ρ l fun l => evalK σ ρ c fun c => asNat σ l fun n => asNat σ c fun m =>
  σ.need (n ≤ m ∧ m * (j.bytes + 1) ≤ roomy) (newK H (.arr j.size (List.replicate n j.zero)) fun k H => K (.ar k) ρ H d)
noncomputable def cutV (size : Nat) (a : AV) (l h : Nat) : β := match a with
  | .imm z es => sizedK σ z size ((es.drop l).take (h - l)) fun es => K (.imm z es) ρ H d
  | .ar k => arrK σ H k fun z _ => sizedK σ z size k fun k => K (.sl k l (h - l)) ρ H d
  | .sl k b _ => arrK σ H k fun z _ => sizedK σ z size k fun k => K (.sl k (b + l) (h - l)) ρ H d
  | .v (.slice none _ _) => K a ρ H d
  | .mt => K a ρ H d
  | _ => σ.fail
noncomputable def sliceV (size : Nat) (a : AV) (lo hi mx : Option Operand) : β :=
  lenK σ H a fun n => boundK σ ρ lo 0 fun l => boundK σ ρ hi n fun h => match mx with
  | some m => cond hi.isSome (evalK σ ρ m fun m => asNat σ m fun m => σ.need (l = 0 ∧ h = 0 ∧ m = 0) (K .mt ρ H d)) σ.fail
  | none => σ.need (l ≤ h ∧ h ≤ n) (cutV σ ρ H d K size a l h)
noncomputable def cutString (b : ByteArray) (lo hi : Option Operand) : β :=
  boundK σ ρ lo 0 fun l => boundK σ ρ hi b.size fun h => σ.need (l ≤ h ∧ h ≤ b.size) (K (.v (.string (b.extract l h))) ρ H d)
noncomputable def sliceO (t : Nat) (x : Operand) (lo hi mx : Option Operand) : β := evalK σ ρ x fun a => match a with
  | .v (.string b) => tiK σ X t fun i => match i.und with
    | .string => cond mx.isNone (cutString σ ρ H d K b lo hi) σ.fail
    | _ => σ.fail
  | a => elemT σ X t fun j => sliceV σ ρ H d K j.size a lo hi mx
/-- A pointer moved on by some cells. -/
noncomputable def moved (a : AV) (n : Nat) : β := match a with
  | .ref k off => K (.ref k (off + n)) ρ H d
  | .aptr k e off => K (.aptr k e (off + n)) ρ H d
  | .eptr cs off => K (.eptr cs (off + n)) ρ H d
  | .glob g off => K (.glob g (off + n)) ρ H d
  | _ => σ.fail
noncomputable def fieldAddrO (t : Nat) (x : Operand) (f : Nat) : β := tiK σ X t fun i => evalK σ ρ x fun a => match fieldOff i f with
  | some n => moved σ ρ H d K a n
  | none => σ.fail
noncomputable def fieldO (t : Nat) (x : Operand) (f : Nat) : β := tiK σ X t fun i => evalK σ ρ x fun a => match i.und, a with
  | .struct fs, .agg cs => match fs[f]? with
    | some (off, u) => tiK σ X u fun j => partK σ j cs off fun p => K p ρ H d
    | none => σ.fail
  | _, _ => σ.fail
noncomputable def indexV (size : Nat) (a : AV) (n : Nat) : β := match a with
  | .imm z es => sizedK σ z size es fun es => σ.elem es n fun cs => K (.eptr cs 0) ρ H d
  | .ar k => arrK σ H k fun z es => sizedK σ z size k fun k => σ.need (n < es.length) (K (.aptr k n 0) ρ H d)
  | .sl k lo len => arrK σ H k fun z _ => sizedK σ z size k fun k => σ.need (n < len) (K (.aptr k (lo + n) 0) ρ H d)
  | _ => σ.fail
noncomputable def indexAddrO (t : Nat) (x ix : Operand) : β :=
  tiK σ X t fun i => evalK σ ρ x fun a => evalK σ ρ ix fun b => asNat σ b fun n => match i.und with
  | .array len e => tiK σ X e fun j => σ.need (n < len) (moved σ ρ H d K a (n * j.size))
  | .slice e => tiK σ X e fun j => indexV σ ρ H d K j.size a n
  | _ => σ.fail
noncomputable def byteV (b : ByteArray) (n : Nat) : β := σ.need (n < b.size) (K (.v (.int .u8 (b.get! n).toNat)) ρ H d)
noncomputable def indexO (t : Nat) (x ix : Operand) : β :=
  tiK σ X t fun i => evalK σ ρ x fun a => evalK σ ρ ix fun b => asNat σ b fun n => match a with
  | .v (.string bs) => match i.und with
    | .string => byteV σ ρ H d K bs n
    | _ => σ.fail
  | .agg cs => match i.und with
    | .array len e => tiK σ X e fun j => σ.need (n < len) (partK σ j cs (n * j.size) fun p => K p ρ H d)
    | _ => σ.fail
  | _ => σ.fail
noncomputable def foundV (u : UT) (j : TI) (ok : Bool) (key : Value) (kv : List (Value × AV)) : β :=
  findK σ u key kv (K (cond ok (.tup [aggOf j, .v (.bool false)]) (aggOf j)) ρ H d)
    fun y => K (cond ok (.tup [y, .v (.bool true)]) y) ρ H d
noncomputable def lookupV (u : UT) (j : TI) (ok : Bool) (a b : AV) : β := match b with
  | .v key => match a with
    | .mp k => mapObjK σ H k fun kv => foundV σ ρ H d K u j ok key kv
    | .v (.map none) => foundV σ ρ H d K u j ok key []
    | _ => σ.fail
  | _ => σ.fail
noncomputable def lookupO (t : Nat) (x ix : Operand) (ok : Bool) : β :=
  mapT σ X t fun u e => tiK σ X e fun j => evalK σ ρ x fun a => evalK σ ρ ix fun b => lookupV σ ρ H d K u j ok a b
noncomputable def putV (u : UT) (m k x : AV) : β := match m, k with
  | .mp j, .v key => freezeK σ ρ H [x] fun xs ρ H => List.casesOn xs σ.fail fun x _ =>
      cond (pureAV x) (mapObjK σ H j fun kv => putKeyK σ u key x kv fun kv => setK H j (.map kv) fun H => K .undef ρ H d) σ.fail
  | _, _ => σ.fail
noncomputable def mapUpdateO (t : Nat) (m k x : Operand) : β := mapT σ X t fun u _ => evalK σ ρ m fun m => evalK σ ρ k fun k => evalK σ ρ x fun x => putV σ ρ H d K u m k x
noncomputable def rangeO (t : Nat) (x : Operand) : β := tiK σ X t fun i => evalK σ ρ x fun a => match i.und with
  | .string => match a with
    | .v (.string b) => newK H (.siter b 0) fun k H => K (.it k) ρ H d
    | _ => σ.fail
  | _ => σ.fail
noncomputable def nextV (k : Nat) (b : ByteArray) (pos : Nat) : β :=
  σ.cond (decide (pos < b.size))
    (setK H k (.siter b (pos + (Utf8.decode b pos).2)) fun H => K (.tup [.v (.bool true), .v (.int .i64 pos), .v (.int .i32 (Utf8.decode b pos).1)]) ρ H d)
    (K (.tup [.v (.bool false)]) ρ H d)
noncomputable def nextO (x : Operand) (isString : Bool) : β := cond isString (evalK σ ρ x fun a => match a with
  | .it k => objK σ H k fun
    | .siter b pos => nextV σ ρ H d K k b pos
    | _ => σ.fail
  | _ => σ.fail) σ.fail
noncomputable def noAssert (j : TI) (ok : Bool) : β := cond ok (K (.tup [aggOf j, .v (.bool false)]) ρ H d) σ.fail
noncomputable def assertV (j : TI) (t u : Nat) (ok : Bool) (y : AV) : β :=
  cond (Nat.beq t u) (K (cond ok (.tup [y, .v (.bool true)]) y) ρ H d) (noAssert σ ρ H d K j ok)
noncomputable def typeAssertO (x : Operand) (u : Nat) (ok : Bool) : β := evalK σ ρ x fun a => tiK σ X u fun j =>
  if j.und = .iface then σ.fail else match a with
  | .iface t y => assertV σ ρ H d K j t u ok y
  | .v (.iface t y) => assertV σ ρ H d K j t u ok (.v y)
  | .v .nilIface => noAssert σ ρ H d K j ok
  | _ => σ.fail
noncomputable def extractO (x : Operand) (n : Nat) : β := evalK σ ρ x fun a => match a with
  | .tup vs => getK vs n σ.fail fun y => K y ρ H d
  | _ => σ.fail

noncomputable def lenO (t : Nat) (x : AV) : β := tiK σ X t fun i => match i.und with
  | .array n _ => K (.v (.int .i64 n)) ρ H d
  | .slice _ => lenK σ H x fun n => K (.v (.int .i64 n)) ρ H d
  | .string => match x with
    | .v (.string s) => K (.v (.int .i64 s.size)) ρ H d
    | _ => σ.fail
  | .map _ _ => match x with
    | .v (.map none) => K (.v (.int .i64 0)) ρ H d
    | .mp k => mapObjK σ H k fun kv => K (.v (.int .i64 kv.length)) ρ H d
    | _ => σ.fail
  | _ => σ.fail
noncomputable def copyO (size : Nat) (x y : AV) : β := elemsK σ size H y fun ys => match x with
  | .ar k => arrK σ H k fun z es => sizedK σ z size es fun es => setK H k (.arr z (ys.take es.length ++ es.drop ys.length)) fun H => K (.v (.int .i64 (min ys.length es.length : Nat))) ρ H d
  | _ => σ.fail
noncomputable def deleteO (t : Nat) (m k : AV) : β := mapT σ X t fun u _ => match m, k with
  | .mp j, .v key => mapObjK σ H j fun kv => dropKeyK σ u key kv fun kv => setK H j (.map kv) fun H => K (.tup []) ρ H d
  | _, _ => σ.fail
noncomputable def panicV (P : VK β) (a : AV) : β := match a with
  | .iface .. => P a ρ H d
  | .v (.iface ..) => P a ρ H d
  | _ => σ.fail
noncomputable def notIntT (t : Nat) (b : β) : β := tiK σ X t fun i => match i.und with
  | .slice _ => b
  | .string => b
  | _ => σ.fail
noncomputable def builtinO (b : Builtin) (ts : List Nat) (args : List AV) (P : VK β) : β :=
  match b, args, ts with
  | .len, [x], t :: _ => lenO σ X ρ H d K t x
  | .append, [x, y], t :: u :: _ => elemT σ X t fun j => notIntT σ X u (appendK σ j.size j.bytes x y H fun a H => K a ρ H d)
  | .copy, [x, y], t :: _ => elemT σ X t fun j => copyO σ ρ H d K j.size x y
  | .delete, [m, k], t :: _ => deleteO σ X ρ H d K t m k
  | .max, x :: l, _ => minmaxK σ true l x fun r => K r ρ H d
  | .min, x :: l, _ => minmaxK σ false l x fun r => K r ρ H d
  | .panic, [x], _ => panicV σ ρ H d P x
  | _, _, _ => σ.fail
noncomputable def applyO (f : AV) (args : List AV) (P : VK β) : β := match f with
  | .fn g caps => appK args caps fun args => callK σ X g args ρ H fun out ρ H => match out with
    | .ret x => K x ρ H d
    | .panic x => P x ρ H d
  | _ => σ.fail
noncomputable def callO (c : Call) (P : VK β) : β := mapK (evalK σ ρ) c.args.toList fun args => match c.callee with
  | .builtin b => builtinO σ X ρ H d K b c.argTypes.toList args P
  | .value f => evalK σ ρ f fun f => applyO σ X ρ H d K f args P
  | .invoke .. => σ.fail
noncomputable def deferV (f : AV) : β := match f with
  | .fn g caps => K .undef ρ H ((g, caps) :: d)
  | _ => σ.fail
noncomputable def deferO (c : Call) : β := match c.callee with
  | .value f => cond c.args.toList.isEmpty (evalK σ ρ f fun f => deferV σ ρ H d K f) σ.fail
  | _ => σ.fail
noncomputable def makeFuncO (f : Fn) (first caps : List Operand) : β := match f with
  | .func f => cond first.isEmpty (funcO σ ρ H d K f caps) σ.fail
  | _ => σ.fail
noncomputable def makeMapO (t : Nat) (r : Option Operand) : β := match r with
  | none => newK H (.map []) fun k H => K (.mp k) ρ H d
  | some x => mapT σ X t fun _ _ => evalK σ ρ x fun n => asNat σ n fun _ => newK H (.map []) fun k H => K (.mp k) ρ H d
end ops

/-- One operation. 'K': its value and the state behind it; 'P': it panics. -/
noncomputable def opK (o : Op) (K P : VK β) (ρ : Regs) (H : Heap) (d : Dx) : β :=
  match o with
  | .move x => moveO σ ρ H d K x
  | .assign x => moveO σ ρ H d K x
  | .pick c a b => pickO σ ρ H d K c a b
  | .alloc t => allocO σ X ρ H d K t
  | .box _ x => boxO σ ρ H d K x
  | .build t ps => buildO σ X ρ H d K t ps.toList
  | .buildSlice t n ps => buildSliceO σ X ρ H d K t n ps.toList
  | .load t a => loadO σ X ρ H d K t a
  | .store t a x => storeO σ X ρ H d K t a x
  | .nilCheck x => nilCheckO σ ρ H d K x
  | .binOp op t x y _ => binO σ X ρ H d K op t x y
  | .unOp op _ x => unO σ ρ H d K op x
  | .convert src dst x => convertO σ X ρ H d K src dst x
  | .makeInterface t x => ifaceO σ X ρ H d K t x
  | .makeFunc f first caps => makeFuncO σ ρ H d K f first.toList caps.toList
  | .makeMap t r => makeMapO σ X ρ H d K t r
  | .makeSlice t l c => makeSliceO σ X ρ H d K t l c
  | .slice t x lo hi mx => sliceO σ X ρ H d K t x lo hi mx
  | .fieldAddr t x f => fieldAddrO σ X ρ H d K t x f
  | .field t x f => fieldO σ X ρ H d K t x f
  | .indexAddr t x ix => indexAddrO σ X ρ H d K t x ix
  | .index t x ix => indexO σ X ρ H d K t x ix
  | .lookup t x ix ok => lookupO σ X ρ H d K t x ix ok
  | .mapUpdate t m k x => mapUpdateO σ X ρ H d K t m k x
  | .insert t m k x => mapUpdateO σ X ρ H d K t m k x
  | .range t x => rangeO σ X ρ H d K t x
  | .next x s => nextO σ ρ H d K x s
  | .typeAssert x _ u ok => typeAssertO σ X ρ H d K x u ok
  | .extract x n => extractO σ ρ H d K x n
  | .call c => callO σ X ρ H d K c P
  | .defer c => deferO σ ρ H d K c
  | .panic x => evalK σ ρ x fun a => panicV σ ρ H d P a
  | _ => σ.fail

/-- A string's bytes, as a slice that is not written again. -/
noncomputable def bytesO (i k : TI) (x : Operand) (ρ : Regs) (H : Heap) (d : Dx) (K : VK β) : β := match i.und, k.und with
  | .string, .int .u8 => evalK σ ρ x fun a => match a with
    | .v (.string s) => spineK (byteCells s) fun es => K (.imm 1 es) ρ H d
    | _ => σ.fail
  | _, _ => σ.fail
/-- One operation, where its region has the order of its text. -/
noncomputable def opK1 (o : Op) (K P : VK β) (ρ : Regs) (H : Heap) (d : Dx) : β :=
  match o with
  | .convert src dst x => tiK σ X dst fun j => match j.und with
    | .slice e => tiK σ X src fun i => tiK σ X e fun k => bytesO σ i k x ρ H d K
    | _ => opK σ X (.convert src dst x) K P ρ H d
  | o => opK σ X o K P ρ H d
/-- The register of operation number j. -/
noncomputable def dstK (ops : List Oper) (j : Nat) (F : β) (K : Nat → β) : β :=
  getK ops j F fun o => match o.dst with
  | some r => K r
  | none => F
/-- Is the operation wanted? -/
noncomputable def guardK (ops : List Oper) (g : Option (Nat × Bool)) (yes no : Regs → β) (ρ : Regs) : β :=
  match g with
  | none => yes ρ
  | some (j, want) => dstK ops j (no ρ) fun r => Regs.getK ρ r fun a => match a with
    | .v (.bool b) => σ.cond b (Bool.rec (no (.cons r (.v (.bool true)) ρ)) (yes (.cons r (.v (.bool true)) ρ)) want)
        (Bool.rec (yes (.cons r (.v (.bool false)) ρ)) (no (.cons r (.v (.bool false)) ρ)) want)
    | .tup _ => no ρ
    | _ => σ.fail
/-- The operations of a region, in an order. -/
noncomputable def opsK (ops : List Oper) (K : EK β) (l : List Oper) : SK β :=
  List.rec (motive := fun _ => SK β) (K .normal) (fun o _ ih ρ H d =>
    guardK σ ops o.guard (fun ρ => opK1 σ X o.op (fun x ρ => ih (ρ.put o.dst x)) (fun x => K (.panic x)) ρ H d)
      (fun ρ => ih (ρ.put o.dst (.tup [])) H d) ρ) l

/-- The registers that a loop keeps. -/
noncomputable def keepK (ρ : Regs) (l : List Nat) : (Regs → β) → β :=
  List.rec (motive := fun _ => (Regs → β) → β) (fun K => K .nil)
    (fun r _ ih K => Regs.findK ρ r (ih K) fun x => ih fun q => K (.cons r x q)) l
def keysOf : Regs → List Nat
  | .nil => []
  | .cons r _ l => r :: keysOf l
def valsOf : Regs → List AV
  | .nil => []
  | .cons _ x l => x :: valsOf l
noncomputable def zipK (l : List Nat) : List AV → (Regs → β) → β :=
  List.rec (motive := fun _ => List AV → (Regs → β) → β) (fun _ K => K .nil)
    (fun r _ ih xs K => List.casesOn xs (K .nil) fun x xs => ih xs fun q => K (.cons r x q)) l
/-- The head of a loop: what it keeps of the registers, and what these reach, in a fixed form. -/
noncomputable def headK (foot : Nat) (live : List Nat) (K : SK β) : SK β := fun ρ H d => List.casesOn d
  (keepK ρ live fun ρ => spineK (reachB H (H.length + 200) (List.range foot) (valsOf ρ)) fun ks =>
  spineK (numbered 0 ks) fun r => forces (renAVs r (valsOf ρ)) fun xs => zipK (keysOf ρ) xs fun ρ =>
  gatherK σ H r ks fun H => K ρ H []) fun _ _ => σ.fail
noncomputable def condK (c : Operand) (x y : SK β) : SK β := fun ρ H d => evalK σ ρ c fun a => match a with
  | .v (.bool b) => match c with
    | .tmp r => σ.cond b (x (.cons r (.v (.bool true)) ρ) H d) (y (.cons r (.v (.bool false)) ρ) H d)
    | _ => σ.cond b (x ρ H d) (y ρ H d)
  | _ => σ.fail
noncomputable def blockK (id : Nat) (K : EK β) : EK β := fun e ρ H d => match e with
  | .exit j => cond (Nat.beq j id) (K .normal ρ H d) (K (.exit j) ρ H d)
  | e => K e ρ H d
noncomputable def seqK (b : SK β) (K : EK β) : EK β := fun e ρ H d => match e with
  | .normal => b ρ H d
  | e => K e ρ H d
/-! ### Regions that draw their order: one order; what may be late is not touched. -/
inductive Cls where
  | quiet (reads : Bool)
  | alloc
  | assign
  | call
  | store
  | other
def clsOf : Op → Cls
  | .move _ => .quiet false
  | .pick .. => .quiet false
  | .build .. => .quiet false
  | .nilCheck _ => .quiet false
  | .binOp .. => .quiet false
  | .unOp .. => .quiet false
  | .makeInterface .. => .quiet false
  | .makeFunc .. => .quiet false
  | .fieldAddr .. => .quiet false
  | .field .. => .quiet false
  | .index .. => .quiet false
  | .typeAssert .. => .quiet false
  | .extract .. => .quiet false
  | .load .. => .quiet true
  | .lookup .. => .quiet true
  | .indexAddr .. => .quiet true
  | .slice .. => .quiet true
  | .convert .. => .quiet true
  | .alloc _ => .alloc
  | .box .. => .alloc
  | .buildSlice .. => .alloc
  | .assign _ => .assign
  | .store .. => .store
  | .call c => match c.callee with
    | .builtin .len => .quiet true
    | .builtin .max => .quiet true
    | .builtin .min => .quiet true
    | .value _ => .call
    | _ => .other
  | _ => .other
def subB : List Nat → List Nat → Bool
  | [], _ => true
  | k :: l, m => cond (memb k m) (subB l m) false
def apartB : List Nat → List Nat → Bool
  | [], _ => true
  | k :: l, m => cond (memb k m) false (apartB l m)
def Regs.val : Regs → Nat → AV
  | .nil, _ => .undef
  | .cons r x l, n => cond (Nat.beq r n) x (l.val n)
def flIds (ρ : Regs) : List Nat → List Nat
  | [] => []
  | r :: l => idsAV (ρ.val r) ++ flIds ρ l
noncomputable def chkK (o : Op) (fl : List Nat) (ρ : Regs) (H : Heap) (b : β) : β :=
  match o with
  | .call c => mapK (evalK σ ρ) c.args.toList fun args => match c.callee with
    | .value f => evalK σ ρ f fun f => match f with
      | .fn g caps => appK args caps fun args => spineK (reachB H (H.length + 200) [] args) fun ks =>
          cond (((arrsAVs args).isEmpty || X.byref g) && (subB (idsAVs args) ks && (subB (idsAll H ks) ks && apartB (flIds ρ fl) ks))) b σ.fail
      | _ => σ.fail
    | _ => σ.fail
  | .store _ a _ => evalK σ ρ a fun a => match a with
    | .ref k _ => cond (apartB (flIds ρ fl) [k]) b σ.fail
    | _ => σ.fail
  | .assign _ => b
  | _ => σ.fail
def tmpsIn : List Operand → List Nat
  | [] => []
  | x :: l => match x with
    | .tmp t => t :: tmpsIn l
    | _ => tmpsIn l
def belowB (n : Nat) : List Nat → Bool
  | [] => true
  | k :: l => cond (Nat.ble (k + 1) n) (belowB n l) false
/-- What an operation that may be late shows: no array, where it makes an object; objects that are there, where it reads. -/
noncomputable def seeK (o : Op) (ρ : Regs) (H : Heap) (b : β) : β :=
  match clsOf o with
  | .alloc => mapK (evalK σ ρ) o.operands.toList fun xs => cond (arrsAVs xs).isEmpty b σ.fail
  | .quiet true => cond (belowB H.length (flIds ρ (tmpsIn o.operands.toList))) b σ.fail
  | _ => b
noncomputable def preK (o : Op) (fl : Option (List Nat)) (ρ : Regs) (H : Heap) (b : β) : β :=
  match fl with
  | some l => chkK σ X o l ρ H b
  | none => seeK σ o ρ H b
noncomputable def drawK (ops : List Oper) (K : EK β) (l : List (Nat × Option (List Nat))) : SK β :=
  List.rec (motive := fun _ => SK β) (K .normal) (fun p _ ih ρ H d => Prod.casesOn p fun i fl => getK ops i σ.fail fun o =>
    guardK σ ops o.guard (fun ρ => preK σ X o.op fl ρ H (opK σ X o.op (fun x ρ => ih (ρ.put o.dst x)) (fun x _ => K (.panic x) .nil) ρ H d))
      (fun ρ => ih (ρ.put o.dst (.tup [])) H d) ρ) l
/-- The last three operations, where Go leaves the order of two stores open: an element's address, a store there, a store into a box. -/
noncomputable def tail3K (ops : List Oper) (K : EK β) (oi oj ok : Oper) : SK β := fun ρ H d =>
  match oi.op, oj.op, ok.op with
  | .indexAddr _ x y, .store _ _ v, .store _ p _ => evalK σ ρ p fun p => match p with
    | .ref b _ => evalK σ ρ x fun x => evalK σ ρ y fun y => evalK σ ρ v fun v => cond (apartB (idsAV x ++ idsAV y) [b] && (arrsAV v).isEmpty)
        (opK σ X oi.op (fun y ρ H d => match y with
          | .aptr .. => opsK σ X ops K [oj, ok] (ρ.put oi.dst y) H d
          | _ => σ.fail) (fun _ _ _ _ => σ.fail) ρ H d) σ.fail
    | _ => σ.fail
  | _, _, _ => σ.fail
noncomputable def tailK (ops : List Oper) (K : EK β) (tail : List Nat) : SK β :=
  match tail with
  | [] => K .normal
  | [i, j, k] => fun ρ H d => getK ops i σ.fail fun oi => getK ops j σ.fail fun oj => getK ops k σ.fail fun ok => tail3K σ X ops K oi oj ok ρ H d
  | _ => fun _ _ _ => σ.fail
noncomputable def tailsK (ops : List Oper) (K : EK β) (tail : List Nat) : EK β := fun e => match e with
  | .normal => tailK σ X ops K tail
  | e => K e
noncomputable def regionK (id : Nat) (ops : List Oper) (draw : Bool) (K : EK β) : SK β := fun ρ H d =>
  cond draw (match X.ord id with
    | some p => drawK σ X ops (tailsK σ X ops K p.2) p.1 ρ H d
    | none => σ.fail) (opsK σ X ops K ops ρ H d)
/-- The code. 'foot': how many objects came in; 'at': the block around. -/
noncomputable def codeK (foot : Nat) (c : Code) : Nat → EK β → SK β :=
  Code.rec (motive := fun _ => Nat → EK β → SK β)
    (fun _ K => K .normal)
    (fun id ops draw _ K => regionK σ X id ops.toList draw K)
    (fun _ _ iha ihb n K => iha n (seqK (ihb n K) K))
    (fun c _ _ ihx ihy n K => condK σ c (ihx n K) (ihy n K))
    (fun id _ ih _ K => ih id (blockK id K))
    (fun _ ih n K => σ.loop (ih n) (headK σ foot (X.live n)) K)
    (fun _ _ _ _ _ _ _ _ _ _ _ => σ.fail)
    (fun id _ K => K (.exit id))
    (fun _ _ _ _ _ _ _ => σ.fail)
    (fun _ _ K => K .normal)
    (fun _ _ _ _ _ _ => σ.fail)
    (fun _ K => K .ret)
    (fun _ _ _ _ _ _ => σ.fail) c

noncomputable def resultsK (ρ : Regs) (H : Heap) : List ResultVar → (List AV → β) → β :=
  mapK fun r K => match r with
  | .tmp t => Regs.getK ρ t K
  | .cell a t => Regs.getK ρ a fun a => loadK σ X t a H K
def single : List AV → AV
  | [x] => x
  | vs => .tup vs
/-- The end: what is handed back, and the footprint. -/
noncomputable def endK' (foot : Nat) (vs : List AV) (H : Heap) (K : AV → Heap → β) : β :=
  pieceK σ H (List.range foot) vs fun _ _ P vs => force1 (single vs) fun x => K x P
noncomputable def endK (keep : Bool) (foot : Nat) (vs : List AV) (ρ : Regs) (H : Heap) (K : AV → Heap → β) : β :=
  cond keep (endK' σ foot vs H K) (freezeK σ ρ H vs fun vs _ H => endK' σ foot vs H K)
def curAV : Option AV → AV
  | some x => x
  | none => .undef
def curOf : Option AV → AV → Option AV
  | some _, y => some y
  | none, _ => none
/-- The deferred calls, one by one. 'cur': what is panicking. -/
noncomputable def defersK (K : Heap → β) (P : AV → Heap → β) (D : Dx) : Option AV → Heap → β :=
  List.rec (motive := fun _ => Option AV → Heap → β)
    (fun cur H => match cur with
      | some x => P x H
      | none => K H)
    (fun p _ ih cur H => Prod.casesOn p fun f caps => pieceK σ H [] (curAV cur :: caps) fun ks H Pc vs => List.casesOn vs σ.fail fun c caps => σ.defer f caps Pc (curOf cur c) fun Pc cur' =>
      backK σ ks H Pc (curAV cur') fun y H => ih (curOf cur' y) H) D
noncomputable def finK (keep : Bool) (foot : Nat) (K : Out → Heap → β) (cur : Option AV) (ρ : Regs) (H : Heap) (d : Dx) : β :=
  defersK σ
    (fun H => resultsK σ X ρ H X.results fun vs => endK σ keep foot vs ρ H fun x H => K (.ret x) H)
    (fun x H => endK σ true foot [x] ρ H fun x H => K (.panic x) H) d cur H
noncomputable def exitK (keep : Bool) (foot : Nat) (K : Out → Heap → β) : EK β := fun e ρ H d => match e with
  | .normal => finK σ X keep foot K none ρ H d
  | .ret => finK σ X keep foot K none ρ H d
  | .panic x => finK σ X keep foot K (some x) ρ H d
  | .exit _ => σ.fail
def numberedA : Nat → List AV → Regs
  | _, [] => .nil
  | n, x :: l => .cons n x (numberedA (n + 1) l)
noncomputable def forceRegs {β : Type} (ρ : Regs) : (Regs → β) → β :=
  Regs.rec (motive := fun _ => (Regs → β) → β) (fun K => K .nil) (fun r x _ ih K => ih fun q => K (.cons r x q)) ρ
/-- A function's body. -/
noncomputable def bodyK (keep : Bool) (c : Code) (args : List AV) (H : Heap) (K : Out → Heap → β) : β :=
  layOutK H fun H' => forceRegs (numberedA 0 args) fun ρ => codeK σ X H.length c 0 (exitK σ X keep H.length K) ρ H' []
end

/-- A loop, so many rounds at the most. -/
noncomputable def loopN {β : Type} (F : β) (body : EK β → SK β) (head : SK β → SK β) (K : EK β) (n : Nat) : SK β :=
  Nat.rec (motive := fun _ => SK β) (fun _ _ _ => F) (fun _ ih => head (body (seqK ih K))) n

/-! ### Closed runs -/
structure FI where
  code : Code
  keep : Bool
  X : Ctx
abbrev Ans := Option (Out × Heap)
def numO {β : Type} (n : Int) (K : Int → β) : β :=
  match n with
  | .ofNat 0 => K (.ofNat 0)
  | .ofNat (a + 1) => K (.ofNat (a + 1))
  | .negSucc 0 => K (.negSucc 0)
  | .negSucc (a + 1) => K (.negSucc (a + 1))
noncomputable def optSig (rounds : Nat) (call : Nat → List AV → Heap → Ans) (defer : Nat → List AV → Heap → Option AV → Option (Heap × Option AV)) : Sig Ans where
  fail := none
  cond b x y := Bool.rec y x b
  need c _ x := if c then x else none
  elem es n K := getK es n none K
  num := numO
  call f xs H K := match call f xs H with
    | some (o, H) => K o H
    | none => none
  defer f xs H pan K := match defer f xs H pan with
    | some (H, p) => K H p
    | none => none
  loop body head K := loopN none body head K rounds
noncomputable def evN (F : Nat → Option FI) (prim : Nat → List AV → Option AV) (defer : Nat → List AV → Heap → Option AV → Option (Heap × Option AV)) (rounds : Nat) (n : Nat) : Nat → List AV → Heap → Ans :=
  Nat.rec (motive := fun _ => Nat → List AV → Heap → Ans) (fun _ _ _ => none) (fun _ ih f xs H => match prim f xs with
    | some x => some (.ret x, H)
    | none => match F f with
      | none => none
      | some fi => bodyK (optSig rounds ih defer) fi.X fi.keep fi.code xs H fun o H => some (o, H)) n
/-- A tree of numbers. -/
inductive Tr (α : Type) where
  | leaf
  | node (l : Tr α) (k : Nat) (x : α) (r : Tr α)
noncomputable def Tr.get {α : Type} (t : Tr α) (n : Nat) : Option α :=
  Tr.rec (motive := fun _ => Option α) none (fun _ k x _ l r => Bool.rec (Bool.rec r l (Nat.ble n k)) (some x) (Nat.beq n k)) t
end Am
end Go.Proofs.YtbdnfkmcfencdaaGreatDoor
/- The abstract machine: what its list functions do, said without continuations. No condition. -/
namespace Go.Proofs.YtbdnfkmcfencdaaGreatDoor
namespace Am
open Go
section lists
variable {α β γ : Type}
@[simp] theorem dropK_eq (n : Nat) (l : List α) (K : List α → β) : dropK n l K = K (l.drop n) := by
  unfold dropK
  induction l generalizing n with
  | nil => simp
  | cons x l ih => cases n with
    | zero => rfl
    | succ n => simpa using ih n
@[simp] theorem takeK_eq (n : Nat) (l : List α) (K : List α → β) : takeK n l K = K (l.take n) := by
  unfold takeK
  induction l generalizing n K with
  | nil => simp
  | cons x l ih => cases n with
    | zero => rfl
    | succ n => simpa using ih n fun r => K (x :: r)
@[simp] theorem setK_eq (l : List α) (n : Nat) (y : α) (K : List α → β) : setK l n y K = K (l.set n y) := by
  unfold setK
  induction l generalizing n K with
  | nil => simp
  | cons x l ih => cases n with
    | zero => rfl
    | succ n => simpa using ih n fun r => K (x :: r)
theorem getK_eq (l : List α) (n : Nat) (F : β) (K : α → β) : getK l n F K = match l[n]? with | some x => K x | none => F := by
  unfold getK
  induction l generalizing n with
  | nil => simp
  | cons x l ih => cases n with
    | zero => rfl
    | succ n => simpa using ih n
@[simp] theorem appK_eq (l r : List α) (K : List α → β) : appK l r K = K (l ++ r) := by
  unfold appK
  induction l generalizing K with
  | nil => rfl
  | cons x l ih => simpa using ih fun q => K (x :: q)
theorem mapK_eq (f : α → (γ → β) → β) (g : α → γ) (h : ∀ x K, f x K = K (g x)) (l : List α) (K : List γ → β) : mapK f l K = K (l.map g) := by
  unfold mapK
  induction l generalizing K with
  | nil => rfl
  | cons x l ih => exact (h x _).trans (ih fun r => K (g x :: r))
theorem mapK_id (f : α → (α → β) → β) (h : ∀ x K, f x K = K x) (l : List α) (K : List α → β) : mapK f l K = K l := by
  rw [mapK_eq f (fun x => x) h]; simp
@[simp] theorem mapK_nil (f : α → (γ → β) → β) (K : List γ → β) : mapK f [] K = K [] := rfl
@[simp] theorem mapK_cons (f : α → (γ → β) → β) (x : α) (l : List α) (K : List γ → β) : mapK f (x :: l) K = f x fun y => mapK f l fun r => K (y :: r) := rfl
@[simp] theorem spineK_eq (l : List α) (K : List α → β) : spineK l K = K l := by
  unfold spineK
  exact mapK_id _ (fun _ _ => rfl) _ _
/-- 'p' over 'l' from 'n' on, where it fits. -/
def paste (l : List α) (n : Nat) (p : List α) : List α := l.take n ++ p ++ l.drop (n + p.length)
theorem pasteK_some (l : List α) (n : Nat) (p : List α) (F : β) (K : List α → β) (h : n + p.length ≤ l.length) : pasteK l n p F K = K (paste l n p) := by
  induction l generalizing n p K with
  | nil =>
    obtain rfl : n = 0 := by simp at h; omega
    obtain rfl : p = [] := by simpa using h
    rfl
  | cons x l ih =>
    cases p with
    | nil =>
      show K (x :: l) = _
      simp [paste]
    | cons y q => cases n with
      | zero =>
        show pasteK l 0 q F (fun r => K (y :: r)) = _
        rw [ih]
        · simp [paste]
        · simpa using h
      | succ n =>
        show pasteK l n (y :: q) F (fun r => K (x :: r)) = _
        rw [ih]
        · simp only [paste, List.take_succ_cons, List.cons_append, List.length_cons]
          rw [show n + 1 + (q.length + 1) = (n + (q.length + 1)) + 1 from by omega, List.drop_succ_cons]
        · simp only [List.length_cons] at h ⊢; omega
theorem pasteK_none (l : List α) (n : Nat) (p : List α) (F : β) (K : List α → β) (h : l.length < n + p.length) (hp : p ≠ []) : pasteK l n p F K = F := by
  induction l generalizing n p K with
  | nil => cases p with
    | nil => exact absurd rfl hp
    | cons y q => rfl
  | cons x l ih => cases p with
    | nil => exact absurd rfl hp
    | cons y q => cases n with
      | zero =>
        show pasteK l 0 q F (fun r => K (y :: r)) = _
        cases q with
        | nil => simp at h
        | cons z q => exact ih _ _ _ (by simpa using h) (by simp)
      | succ n =>
        show pasteK l n (y :: q) F (fun r => K (x :: r)) = _
        exact ih _ _ _ (by simp only [List.length_cons] at h ⊢; omega) (by simp)
theorem paste_set (l : List α) (n : Nat) (v : α) (vs : List α) (h : n < l.length) : paste (l.set n v) (n + 1) vs = paste l n (v :: vs) := by
  simp only [paste, List.length_cons]
  rw [List.take_add_one, List.getElem?_set_self h, List.take_set_of_le (Nat.le_refl n), List.drop_set_of_lt (by omega), show n + (vs.length + 1) = n + 1 + vs.length from by omega]
  simp
theorem paste_length (l : List α) (n : Nat) (p : List α) (h : n + p.length ≤ l.length) : (paste l n p).length = l.length := by
  simp [paste]; omega
theorem pasteK_nil (l : List α) (n : Nat) (F : β) (K : List α → β) : pasteK l n [] F K = K l := by cases l <;> rfl
end lists

/-- A register's value. -/
def Regs.get : Regs → Nat → AV
  | .nil, _ => .undef
  | .cons r x l, n => if r = n then x else l.get n
def Regs.find? : Regs → Nat → Option AV
  | .nil, _ => none
  | .cons r x l, n => if r = n then some x else l.find? n
section
variable {β : Type}
@[simp] theorem Regs.getK_eq (ρ : Regs) (n : Nat) (K : AV → β) : Regs.getK ρ n K = K (ρ.get n) := by
  unfold Regs.getK
  induction ρ with
  | nil => rfl
  | cons r x l ih =>
    simp only [Regs.get]
    by_cases h : r = n
    · subst h; simp
    · rw [if_neg h, ← ih]
      have : Nat.beq r n = false := by rw [← Bool.not_eq_true, Nat.beq_eq]; exact h
      simp [this]
theorem Regs.findK_eq (ρ : Regs) (n : Nat) (F : β) (K : AV → β) : Regs.findK ρ n F K = match ρ.find? n with | some x => K x | none => F := by
  unfold Regs.findK
  induction ρ with
  | nil => rfl
  | cons r x l ih =>
    simp only [Regs.find?]
    by_cases h : r = n
    · subst h; simp
    · rw [if_neg h, ← ih]
      have : Nat.beq r n = false := by rw [← Bool.not_eq_true, Nat.beq_eq]; exact h
      simp [this]
theorem Regs.get_of_find {ρ : Regs} {n : Nat} {x : AV} (h : ρ.find? n = some x) : ρ.get n = x := by
  induction ρ with
  | nil => simp [Regs.find?] at h
  | cons r y l ih =>
    simp only [Regs.find?] at h
    simp only [Regs.get]
    split at h
    · rename_i e; simp [e]; simpa using h
    · rename_i e; simp [e]; exact ih h
@[simp] theorem force1_eq (x : AV) (K : AV → β) : force1 x K = K x := by cases x <;> rfl
@[simp] theorem force_eq (x : AV) (K : AV → β) : force x K = K x := by
  cases x <;> simp only [force, force1_eq] <;> exact mapK_id _ (fun _ _ => force1_eq _ _) _ _
@[simp] theorem forces_eq (l : List AV) (K : List AV → β) : forces l K = K l := by
  unfold forces
  exact mapK_id _ (fun _ _ => force_eq _ _) _ _
theorem substObjK_eq (k z : Nat) (es : List (List AV)) (o : AObj) (K : AObj → β) :
    substObjK k z es o K = K (match o with | .box cs => .box (substAVs k z es cs) | o => o) := by
  cases o <;> simp [substObjK]
/-- The array frozen in the registers. -/
def substRegs (k z : Nat) (es : List (List AV)) : Regs → Regs
  | .nil => .nil
  | .cons r x l => .cons r (substAV k z es x) (substRegs k z es l)
def substObj (k z : Nat) (es : List (List AV)) : AObj → AObj
  | .box cs => .box (substAVs k z es cs)
  | o => o
@[simp] theorem substObjK_eq' (k z : Nat) (es : List (List AV)) (o : AObj) (K : AObj → β) : substObjK k z es o K = K (substObj k z es o) := by
  cases o <;> simp [substObjK, substObj]
@[simp] theorem substRegsK_eq (k z : Nat) (es : List (List AV)) (ρ : Regs) (K : Regs → β) : substRegsK k z es ρ K = K (substRegs k z es ρ) := by
  unfold substRegsK
  induction ρ generalizing K with
  | nil => rfl
  | cons r x l ih => exact (force_eq _ _).trans (ih fun q => K (.cons r _ q))
def renObj (r : List (Nat × Nat)) : AObj → AObj
  | .box cs => .box (renAVs r cs)
  | o => o
@[simp] theorem forceRegs_eq (ρ : Regs) (K : Regs → β) : forceRegs ρ K = K ρ := by
  unfold forceRegs
  induction ρ generalizing K with
  | nil => rfl
  | cons r x l ih => exact ih fun q => K (.cons r x q)
end
end Am
end Go.Proofs.YtbdnfkmcfencdaaGreatDoor
/- The abstract machine: what its values and heaps stand for. No condition: definitions, and what stays when the world goes on. -/
namespace Go.Proofs.YtbdnfkmcfencdaaGreatDoor
namespace Am
open Go

/-- Where an object lies: nowhere (yet); an array without a block; a block. -/
inductive Place where
  | absent
  | void
  | blk (b : Nat)

/-- How abstract values stand for values: the memory that is not written, the part of it that pure lists may lie in, the objects' places, and of arrays: how many elements, room for how many, how many cells an element has. -/
structure Env where
  Γ : Nat → Option Obj
  im : Nat → Prop
  loc : Nat → Place
  n : Nat → Nat
  tot : Nat → Nat
  z : Nat → Nat

def pureEs : List (List AV) → Bool
  | [] => true
  | e :: es => pureAVs e && okCells e && pureEs es

mutual
def RepV (E : Env) : AV → Value → Prop
  | .v x, c => plain x = true ∧ c = x
  | .agg cs, c => ∃ xs : List Value, c = .agg xs.toArray ∧ RepVs E cs xs
  | .tup cs, c => ∃ xs : List Value, c = .tuple xs.toArray ∧ RepVs E cs xs
  | .imm z es, c => ∃ a cap, c = .slice a es.length cap ∧ es.length ≤ cap ∧
      (es = [] ∨ ∃ b off arr T fr, a = some ⟨b, off, none⟩ ∧ E.im b ∧ E.Γ b = some (.cells arr T fr) ∧ pureEs es = true ∧ RepEs E z es (arr.toList.drop off))
  | .mt, c => ∃ a, c = .slice a 0 0
  | .eptr cs off, c => ∃ b o arr T fr, c = .pointer (some ⟨b, o + off, none⟩) ∧ E.im b ∧ E.Γ b = some (.cells arr T fr) ∧ pureAVs cs = true ∧
      RepVs E cs ((arr.toList.drop o).take cs.length)
  | .ref k off, c => ∃ b, E.loc k = .blk b ∧ c = .pointer (some ⟨b, off, none⟩)
  | .aptr k e off, c => ∃ b, E.loc k = .blk b ∧ c = .pointer (some ⟨b, e * E.z k + off, none⟩)
  | .ar k, c => (∃ b, E.loc k = .blk b ∧ c = .slice (some ⟨b, 0, none⟩) (E.n k) (E.tot k)) ∨ (E.loc k = .void ∧ ∃ a, c = .slice a 0 0)
  | .sl k lo len, c => (∃ b o, E.loc k = .blk b ∧ lo + len ≤ E.n k ∧ c = .slice (some ⟨b, o, none⟩) len (E.tot k - lo) ∧ (o = lo * E.z k ∨ lo = E.tot k)) ∨
      (E.loc k = .void ∧ lo = 0 ∧ len = 0 ∧ ∃ a, c = .slice a 0 0)
  | .mp k, c => ∃ b, E.loc k = .blk b ∧ c = .map (some b)
  | .it k, c => ∃ b, E.loc k = .blk b ∧ c = .pointer (some ⟨b, 0, none⟩)
  | .fn f cs, c => ∃ xs : List Value, c = .func (.func f) #[] xs.toArray ∧ RepVs E cs xs
  | .iface t x, c => ∃ y, c = .iface t y ∧ RepV E x y
  | .glob g off, c => c = .pointer (some ⟨g, off, none⟩)
  | .undef, _ => True
  | .own _ _, _ => False
  | .omap _, _ => False
def RepVs (E : Env) : List AV → List Value → Prop
  | [], [] => True
  | x :: l, y :: m => RepV E x y ∧ RepVs E l m
  | _, _ => False
def RepEs (E : Env) (z : Nat) : List (List AV) → List Value → Prop
  | [], _ => True
  | e :: es, xs => e.length = z ∧ RepVs E e (xs.take z) ∧ RepEs E z es (xs.drop z)
end

theorem RepVs.length {E : Env} : ∀ {l : List AV} {m : List Value}, RepVs E l m → l.length = m.length
  | [], [], _ => rfl
  | _ :: _, _ :: _, h => by simp only [RepVs] at h; simp [RepVs.length h.2]
  | [], _ :: _, h => by simp [RepVs] at h
  | _ :: _, [], h => by simp [RepVs] at h
theorem RepVs.cons_inv {E : Env} {x : AV} {l : List AV} {m : List Value} (h : RepVs E (x :: l) m) : ∃ y r, m = y :: r ∧ RepV E x y ∧ RepVs E l r := by
  cases m with
  | nil => simp [RepVs] at h
  | cons y r => simp only [RepVs] at h; exact ⟨y, r, rfl, h⟩
theorem RepVs.nil_inv {E : Env} {m : List Value} (h : RepVs E [] m) : m = [] := by
  cases m with
  | nil => rfl
  | cons y r => simp [RepVs] at h
theorem RepVs.append {E : Env} : ∀ {a b : List AV} {x y : List Value}, RepVs E a x → RepVs E b y → RepVs E (a ++ b) (x ++ y)
  | [], _, [], _, _, h => h
  | _ :: _, _, _ :: _, _, h, k => by simp only [RepVs, List.cons_append] at h ⊢; exact ⟨h.1, RepVs.append h.2 k⟩
  | [], _, _ :: _, _, h, _ => by simp [RepVs] at h
  | _ :: _, _, [], _, h, _ => by simp [RepVs] at h
theorem RepVs.get {E : Env} : ∀ {l : List AV} {m : List Value} {i : Nat} {x : AV}, RepVs E l m → l[i]? = some x → ∃ y, m[i]? = some y ∧ RepV E x y
  | [], [], _, _, _, h => by simp at h
  | a :: l, b :: m, 0, x, h, k => by simp only [RepVs] at h; simp at k; subst k; exact ⟨b, rfl, h.1⟩
  | a :: l, b :: m, i + 1, x, h, k => by simp only [RepVs] at h; simp at k ⊢; exact RepVs.get h.2 k
  | [], _ :: _, _, _, h, _ => by simp [RepVs] at h
  | _ :: _, [], _, _, h, _ => by simp [RepVs] at h
theorem RepVs.drop {E : Env} : ∀ {l : List AV} {m : List Value} (n : Nat), RepVs E l m → RepVs E (l.drop n) (m.drop n)
  | _, _, 0, h => h
  | [], [], _ + 1, h => h
  | _ :: _, _ :: _, n + 1, h => by simp only [RepVs] at h; exact RepVs.drop n h.2
  | [], _ :: _, _ + 1, h => by simp [RepVs] at h
  | _ :: _, [], _ + 1, h => by simp [RepVs] at h
theorem RepVs.take {E : Env} : ∀ {l : List AV} {m : List Value} (n : Nat), RepVs E l m → RepVs E (l.take n) (m.take n)
  | _, _, 0, _ => by simp [RepVs]
  | [], [], _ + 1, h => h
  | _ :: _, _ :: _, n + 1, h => by simp only [RepVs, List.take_succ_cons] at h ⊢; exact ⟨h.1, RepVs.take n h.2⟩
  | [], _ :: _, _ + 1, h => by simp [RepVs] at h
  | _ :: _, [], _ + 1, h => by simp [RepVs] at h
theorem RepVs.set {E : Env} : ∀ {l : List AV} {m : List Value} (n : Nat) {x : AV} {y : Value}, RepVs E l m → RepV E x y → RepVs E (l.set n x) (m.set n y)
  | [], [], _, _, _, h, _ => by simpa using h
  | _ :: _, _ :: _, 0, _, _, h, k => by simp only [RepVs, List.set_cons_zero] at h ⊢; exact ⟨k, h.2⟩
  | _ :: _, _ :: _, n + 1, _, _, h, k => by simp only [RepVs, List.set_cons_succ] at h ⊢; exact ⟨h.1, RepVs.set n h.2 k⟩
  | [], _ :: _, _, _, _, h, _ => by simp [RepVs] at h
  | _ :: _, [], _, _, _, h, _ => by simp [RepVs] at h

/-- What E tells, E' tells too. -/
structure Env.Le (E E' : Env) : Prop where
  Γ : ∀ b o, E.Γ b = some o → E'.Γ b = some o
  im : ∀ b, E.im b → E'.im b
  loc : ∀ k, E.loc k ≠ .absent → E'.loc k = E.loc k ∧ E'.n k = E.n k ∧ E'.tot k = E.tot k ∧ E'.z k = E.z k
theorem Env.Le.refl (E : Env) : E.Le E := ⟨fun _ _ h => h, fun _ h => h, fun _ _ => ⟨rfl, rfl, rfl, rfl⟩⟩
theorem Env.Le.trans {A B C : Env} (h : A.Le B) (k : B.Le C) : A.Le C :=
  ⟨fun b o e => k.Γ b o (h.Γ b o e), fun b e => k.im b (h.im b e), fun i e => by
    have h1 := h.loc i e
    have h2 := k.loc i (by rw [h1.1]; exact e)
    exact ⟨h2.1.trans h1.1, h2.2.1.trans h1.2.1, h2.2.2.1.trans h1.2.2.1, h2.2.2.2.trans h1.2.2.2⟩⟩

mutual
theorem RepV.mono {E E' : Env} (h : E.Le E') : ∀ {x : AV} {c : Value}, RepV E x c → RepV E' x c
  | .v _, _, r => r
  | .agg cs, _, r => by obtain ⟨xs, e, k⟩ := r; exact ⟨xs, e, RepVs.mono h k⟩
  | .tup cs, _, r => by obtain ⟨xs, e, k⟩ := r; exact ⟨xs, e, RepVs.mono h k⟩
  | .imm z es, _, r => by
    obtain ⟨a, cap, e, hc, k⟩ := r
    refine ⟨a, cap, e, hc, ?_⟩
    rcases k with k | ⟨b, off, arr, T, fr, ha, hi, hg, hp, k⟩
    · exact .inl k
    · exact .inr ⟨b, off, arr, T, fr, ha, h.im b hi, h.Γ b _ hg, hp, RepEs.mono h k⟩
  | .mt, _, r => r
  | .eptr cs off, _, r => by
    obtain ⟨b, o, arr, T, fr, e, hi, hg, hp, k⟩ := r
    exact ⟨b, o, arr, T, fr, e, h.im b hi, h.Γ b _ hg, hp, RepVs.mono h k⟩
  | .ref k off, _, r => by
    obtain ⟨b, hb, e⟩ := r
    exact ⟨b, ((h.loc k (by rw [hb]; simp)).1).trans hb, e⟩
  | .aptr k i off, _, r => by
    obtain ⟨b, hb, e⟩ := r
    have q := h.loc k (by rw [hb]; simp)
    exact ⟨b, q.1.trans hb, by rw [q.2.2.2]; exact e⟩
  | .ar k, _, r => by
    rcases r with ⟨b, hb, e⟩ | ⟨hb, e⟩
    · have q := h.loc k (by rw [hb]; simp)
      exact .inl ⟨b, q.1.trans hb, by rw [q.2.1, q.2.2.1]; exact e⟩
    · have q := h.loc k (by rw [hb]; simp)
      exact .inr ⟨q.1.trans hb, e⟩
  | .sl k lo len, _, r => by
    rcases r with ⟨b, o, hb, hl, e, ho⟩ | ⟨hb, e⟩
    · have q := h.loc k (by rw [hb]; simp)
      exact .inl ⟨b, o, q.1.trans hb, by rw [q.2.1]; exact hl, by rw [q.2.2.1]; exact e, by rw [q.2.2.1, q.2.2.2]; exact ho⟩
    · have q := h.loc k (by rw [hb]; simp)
      exact .inr ⟨q.1.trans hb, e⟩
  | .mp k, _, r => by
    obtain ⟨b, hb, e⟩ := r
    exact ⟨b, ((h.loc k (by rw [hb]; simp)).1).trans hb, e⟩
  | .it k, _, r => by
    obtain ⟨b, hb, e⟩ := r
    exact ⟨b, ((h.loc k (by rw [hb]; simp)).1).trans hb, e⟩
  | .fn f cs, _, r => by obtain ⟨xs, e, k⟩ := r; exact ⟨xs, e, RepVs.mono h k⟩
  | .iface t x, _, r => by obtain ⟨y, e, k⟩ := r; exact ⟨y, e, RepV.mono h k⟩
  | .glob _ _, _, r => r
  | .undef, _, _ => trivial
  | .own _ _, _, r => r.elim
  | .omap _, _, r => r.elim
theorem RepVs.mono {E E' : Env} (h : E.Le E') : ∀ {l : List AV} {m : List Value}, RepVs E l m → RepVs E' l m
  | [], [], _ => trivial
  | _ :: _, _ :: _, r => by simp only [RepVs] at r ⊢; exact ⟨RepV.mono h r.1, RepVs.mono h r.2⟩
  | [], _ :: _, r => by simp [RepVs] at r
  | _ :: _, [], r => by simp [RepVs] at r
theorem RepEs.mono {E E' : Env} (h : E.Le E') {z : Nat} : ∀ {es : List (List AV)} {xs : List Value}, RepEs E z es xs → RepEs E' z es xs
  | [], _, _ => by simp [RepEs]
  | e :: es, xs, r => by simp only [RepEs] at r ⊢; exact ⟨r.1, RepVs.mono h r.2.1, RepEs.mono h r.2.2⟩
end

/-- Of pure values only the pure memory counts. -/
structure Env.PLe (E E' : Env) : Prop where
  Γ : ∀ b o, E.im b → E.Γ b = some o → E'.Γ b = some o
  im : ∀ b, E.im b → E'.im b
theorem Env.Le.pure {E E' : Env} (h : E.Le E') : E.PLe E' := ⟨fun b o _ e => h.Γ b o e, h.im⟩
mutual
theorem RepV.pmono {E E' : Env} (h : E.PLe E') : ∀ {x : AV} {c : Value}, pureAV x = true → RepV E x c → RepV E' x c
  | .v _, _, _, r => r
  | .agg cs, _, p, r => by obtain ⟨xs, e, k⟩ := r; exact ⟨xs, e, RepVs.pmono h p k⟩
  | .imm z es, _, _, r => by
    obtain ⟨a, cap, e, hc, k⟩ := r
    refine ⟨a, cap, e, hc, ?_⟩
    rcases k with k | ⟨b, off, arr, T, fr, ha, hi, hg, hp, k⟩
    · exact .inl k
    · exact .inr ⟨b, off, arr, T, fr, ha, h.im b hi, h.Γ b _ hi hg, hp, RepEs.pmono h hp k⟩
  | .mt, _, _, r => r
  | .fn f cs, _, p, r => by
    obtain ⟨xs, e, k⟩ := r
    have hc : cs = [] := by simpa [pureAV] using p
    subst hc
    exact ⟨xs, e, by rw [RepVs.nil_inv k]; trivial⟩
  | .iface t x, _, p, r => by obtain ⟨y, e, k⟩ := r; exact ⟨y, e, RepV.pmono h p k⟩
  | .tup _, _, p, _ => by simp [pureAV] at p
  | .eptr _ _, _, p, _ => by simp [pureAV] at p
  | .ref _ _, _, p, _ => by simp [pureAV] at p
  | .aptr _ _ _, _, p, _ => by simp [pureAV] at p
  | .ar _, _, p, _ => by simp [pureAV] at p
  | .sl _ _ _, _, p, _ => by simp [pureAV] at p
  | .mp _, _, p, _ => by simp [pureAV] at p
  | .it _, _, p, _ => by simp [pureAV] at p
  | .glob _ _, _, p, _ => by simp [pureAV] at p
  | .undef, _, p, _ => by simp [pureAV] at p
  | .own _ _, _, p, _ => by simp [pureAV] at p
  | .omap _, _, p, _ => by simp [pureAV] at p
theorem RepVs.pmono {E E' : Env} (h : E.PLe E') : ∀ {l : List AV} {m : List Value}, pureAVs l = true → RepVs E l m → RepVs E' l m
  | [], [], _, _ => trivial
  | x :: l, _ :: _, p, r => by
    simp only [RepVs] at r ⊢
    simp only [pureAVs, Bool.and_eq_true] at p
    exact ⟨RepV.pmono h p.1 r.1, RepVs.pmono h p.2 r.2⟩
  | [], _ :: _, _, r => by simp [RepVs] at r
  | _ :: _, [], _, r => by simp [RepVs] at r
theorem RepEs.pmono {E E' : Env} (h : E.PLe E') {z : Nat} : ∀ {es : List (List AV)} {xs : List Value}, pureEs es = true → RepEs E z es xs → RepEs E' z es xs
  | [], _, _, _ => by simp [RepEs]
  | e :: es, xs, p, r => by
    simp only [RepEs] at r ⊢
    simp only [pureEs, Bool.and_eq_true] at p
    exact ⟨r.1, RepVs.pmono h p.1.1 r.2.1, RepEs.pmono h p.2 r.2.2⟩
end

/-- The elements of an array. -/
def RepEl (E : Env) (z : Nat) (es : List (List AV)) (arr : Array Value) : Prop := pureEs es = true ∧ RepEs E z es arr.toList
theorem RepEl.pmono {E E' : Env} (h : E.PLe E') {z : Nat} {es : List (List AV)} {arr : Array Value} (r : RepEl E z es arr) : RepEl E' z es arr :=
  ⟨r.1, RepEs.pmono h r.1 r.2⟩
/-- The entries of a map. -/
def RepKv (E : Env) : List (Value × AV) → List MapEntry → Prop
  | [], [] => True
  | (k, x) :: l, e :: m => e.key = k ∧ plain k = true ∧ pureAV x = true ∧ RepV E x e.val ∧ RepKv E l m
  | _, _ => False
theorem RepKv.pmono {E E' : Env} (h : E.PLe E') : ∀ {l : List (Value × AV)} {m : List MapEntry}, RepKv E l m → RepKv E' l m
  | [], [], _ => trivial
  | (k, x) :: l, e :: m, r => by simp only [RepKv] at r ⊢; exact ⟨r.1, r.2.1, r.2.2.1, RepV.pmono h r.2.2.1 r.2.2.2.1, RepKv.pmono h r.2.2.2.2⟩
  | [], _ :: _, r => by simp [RepKv] at r
  | _ :: _, [], r => by simp [RepKv] at r

/-- A cell of a box; the blocks that it alone has. -/
def RepC (E : Env) (w : World) (x : AV) (c : Value) (B : List Nat) : Prop :=
  match x with
  | .own z es => (∃ b arr T tot, B = [b] ∧ w.heap[b]? = some (.cells arr T (0, 0)) ∧ arr.size = tot * z ∧ es.length ≤ tot ∧
      c = .slice (some ⟨b, 0, none⟩) es.length tot ∧ RepEl E z es arr) ∨ (B = [] ∧ es = [] ∧ ∃ a, c = .slice a 0 0)
  | .omap kv => ∃ b ents clock, B = [b] ∧ w.heap[b]? = some (.map ents clock) ∧ c = .map (some b) ∧ RepKv E kv ents.toList
  | x => B = [] ∧ RepV E x c
def RepCs (E : Env) (w : World) : List AV → List Value → List Nat → Prop
  | [], [], B => B = []
  | x :: l, y :: m, B => ∃ B1 B2, B = B1 ++ B2 ∧ RepC E w x y B1 ∧ RepCs E w l m B2
  | _, _, _ => False
theorem RepC.frame {E E' : Env} {w w' : World} (h : E.Le E') {x : AV} {c : Value} {B : List Nat} (hw : ∀ b ∈ B, w'.heap[b]? = w.heap[b]?)
    (r : RepC E w x c B) : RepC E' w' x c B := by
  cases x with
  | own z es =>
    rcases r with ⟨b, arr, T, tot, hB, h1, h2, h3, h4, h5⟩ | r
    · exact .inl ⟨b, arr, T, tot, hB, by rw [hw b (by simp [hB])]; exact h1, h2, h3, h4, h5.pmono h.pure⟩
    · exact .inr r
  | omap kv =>
    obtain ⟨b, ents, clock, hB, h1, h2, h3⟩ := r
    exact ⟨b, ents, clock, hB, by rw [hw b (by simp [hB])]; exact h1, h2, h3.pmono h.pure⟩
  | _ => exact ⟨r.1, RepV.mono h r.2⟩
theorem RepCs.frame {E E' : Env} {w w' : World} (h : E.Le E') : ∀ {l : List AV} {m : List Value} {B : List Nat}, (∀ b ∈ B, w'.heap[b]? = w.heap[b]?) →
    RepCs E w l m B → RepCs E' w' l m B
  | [], [], _, _, r => r
  | _ :: _, _ :: _, B, hw, r => by
    obtain ⟨B1, B2, rfl, r1, r2⟩ := r
    exact ⟨B1, B2, rfl, r1.frame h fun b hb => hw b (by simp [hb]), RepCs.frame h (fun b hb => hw b (by simp [hb])) r2⟩
  | [], _ :: _, _, _, r => r.elim
  | _ :: _, [], _, _, r => r.elim
theorem RepCs.length {E : Env} {w : World} : ∀ {l : List AV} {m : List Value} {B : List Nat}, RepCs E w l m B → l.length = m.length
  | [], [], _, _ => rfl
  | _ :: _, _ :: _, _, r => by obtain ⟨B1, B2, _, _, r2⟩ := r; simp [RepCs.length r2]
  | [], _ :: _, _, r => r.elim
  | _ :: _, [], _, r => r.elim

/-- An object; the blocks that it alone has. -/
def RepO (E : Env) (w : World) (k : Nat) (o : AObj) (B : List Nat) : Prop :=
  match o with
  | .dead => B = []
  | .box cs => okCellsO cs = true ∧ match E.loc k with
    | .absent => B = []
    | .void => False
    | .blk b => ∃ arr T B', B = b :: B' ∧ w.heap[b]? = some (.cells arr T (0, 0)) ∧ RepCs E w cs arr.toList B'
  | .arr z es => match E.loc k with
    | .absent => B = []
    | .void => B = [] ∧ es = [] ∧ E.n k = 0
    | .blk b => ∃ arr T, B = [b] ∧ w.heap[b]? = some (.cells arr T (0, 0)) ∧ arr.size = E.tot k * z ∧ es.length = E.n k ∧ E.n k ≤ E.tot k ∧ E.z k = z ∧ RepEl E z es arr
  | .map kv => match E.loc k with
    | .absent => B = []
    | .void => False
    | .blk b => ∃ ents clock, B = [b] ∧ w.heap[b]? = some (.map ents clock) ∧ RepKv E kv ents.toList
  | .siter s pos => match E.loc k with
    | .absent => B = []
    | .void => False
    | .blk b => B = [b] ∧ w.heap[b]? = some (.stringIter s pos)
theorem RepO.frame {E E' : Env} {w w' : World} (h : E.Le E') {k : Nat} (hk : E.loc k ≠ .absent) {o : AObj} {B : List Nat} (hw : ∀ b ∈ B, w'.heap[b]? = w.heap[b]?)
    (r : RepO E w k o B) : RepO E' w' k o B := by
  have q := h.loc k hk
  cases o with
  | dead => exact r
  | box cs =>
    simp only [RepO] at r ⊢
    rw [q.1]
    cases hl : E.loc k with
    | absent => exact absurd hl hk
    | void => rw [hl] at r; exact r
    | blk b =>
      rw [hl] at r
      obtain ⟨ho, arr, T, B', hB, h1, h2⟩ := r
      refine ⟨ho, arr, T, B', hB, by rw [hw b (by simp [hB])]; exact h1, h2.frame h fun b hb => hw b (by simp [hB, hb])⟩
  | arr z es =>
    simp only [RepO] at r ⊢
    rw [q.1, q.2.1, q.2.2.1, q.2.2.2]
    cases hl : E.loc k with
    | absent => exact absurd hl hk
    | void => rw [hl] at r; exact r
    | blk b =>
      rw [hl] at r
      obtain ⟨arr, T, hB, h1, h2, h3, h4, h5, h6⟩ := r
      exact ⟨arr, T, hB, by rw [hw b (by simp [hB])]; exact h1, h2, h3, h4, h5, h6.pmono h.pure⟩
  | map kv =>
    simp only [RepO] at r ⊢
    rw [q.1]
    cases hl : E.loc k with
    | absent => exact absurd hl hk
    | void => rw [hl] at r; exact r
    | blk b =>
      rw [hl] at r
      obtain ⟨ents, clock, hB, h1, h2⟩ := r
      exact ⟨ents, clock, hB, by rw [hw b (by simp [hB])]; exact h1, h2.pmono h.pure⟩
  | siter s pos =>
    simp only [RepO] at r ⊢
    rw [q.1]
    cases hl : E.loc k with
    | absent => exact absurd hl hk
    | void => rw [hl] at r; exact r
    | blk b =>
      rw [hl] at r
      exact ⟨r.1, by rw [hw b (by simp [r.1])]; exact r.2⟩

/-- A heap. 'own': the blocks that each object alone has. -/
structure RepH (E : Env) (w : World) (H : Heap) (own : Nat → List Nat) : Prop where
  obj : ∀ k o, H[k]? = some o → RepO E w k o (own k)
  beyond : ∀ k, H.length ≤ k → E.loc k = .absent ∧ own k = []
  nodup : ∀ k, (own k).Nodup
  apart : ∀ j k b, j ≠ k → b ∈ own j → b ∉ own k
  free : ∀ k b, b ∈ own k → E.Γ b = none ∧ b < w.heap.size
/-- What the machine itself lays down: a loop's record, rounds' deferred calls. -/
def isRec : Obj → Bool
  | .loop _ => true
  | .deferred _ => true
  | _ => false
/-- The world holds what E says. -/
structure Env.Ok (E : Env) (w : World) : Prop where
  mem : ∀ b o, E.Γ b = some o → w.heap[b]? = some o
  im : ∀ b, E.im b → E.Γ b ≠ none
  norec : ∀ b o, E.Γ b = some o → isRec o = false
/-- What one knows of them, the other knows. -/
def SubG (A B : Nat → Option (List Value)) : Prop := ∀ g vs, A g = some vs → B g = some vs
/-- The package-level variables that are known. -/
def Globals (E : Env) (G : Nat → Option (List Value)) : Prop :=
  ∀ g vs, G g = some vs → plains vs = true ∧ ∃ arr T fr, E.Γ g = some (.cells arr T fr) ∧ arr.toList = vs
/-- Of the world beside its memory nothing has turned but how often was drawn; the machine's own records lie as they lay. -/
structure Beside (w w' : World) : Prop where
  os : w'.os = w.os
  tape : w'.tape = w.tape
  output : w'.output = w.output
  size : w.heap.size ≤ w'.heap.size
  recs : ∀ (b : Nat) (o : Obj), w.heap[b]? = some o → isRec o = true → w'.heap[b]? = some o
theorem Beside.refl (w : World) : Beside w w := ⟨rfl, rfl, rfl, Nat.le_refl _, fun _ _ h _ => h⟩
theorem Beside.trans {a b c : World} (h : Beside a b) (k : Beside b c) : Beside a c :=
  ⟨k.os.trans h.os, k.tape.trans h.tape, k.output.trans h.output, Nat.le_trans h.size k.size, fun b o e i => k.recs b o (h.recs b o e i) i⟩
/-- E, w go on to E', w': what is protected stays; pure lists come to lie in what was pure, or was not protected. -/
structure Goes (E : Env) (w : World) (E' : Env) (w' : World) : Prop where
  le : E.Le E'
  new : ∀ b, E'.im b → E.im b ∨ E.Γ b = none
  beside : Beside w w'
theorem Goes.refl (E : Env) (w : World) : Goes E w E w := ⟨.refl E, fun _ h => .inl h, .refl w⟩
theorem Goes.trans {E E' E'' : Env} {w w' w'' : World} (h : Goes E w E' w') (k : Goes E' w' E'' w'') : Goes E w E'' w'' :=
  ⟨h.le.trans k.le, fun b hb => (k.new b hb).elim (fun h1 => h.new b h1) (fun h1 => .inr (by
    cases hg : E.Γ b with
    | none => rfl
    | some o => rw [h.le.Γ b o hg] at h1; cases h1)), h.beside.trans k.beside⟩
end Am
end Go.Proofs.YtbdnfkmcfencdaaGreatDoor
/- The abstract machine over propositions: what a call comes to; the relation of its states to the model's; operands. No condition. -/
namespace Go.Proofs.YtbdnfkmcfencdaaGreatDoor
namespace Am
open Go

/-- What is known of a type, out of the program. -/
def utOf (P : Program) : TypeDesc → UT
  | .bool => .bool
  | .int k => .int k
  | .float k => .float k
  | .string => .string
  | .pointer e => .ptr e
  | .slice e => .slice e
  | .array n e => .array n e
  | .struct fs => if fs.toList.all (fun f => P.cellsOf f.type != 0) then .struct (fs.toList.map fun f => (f.offset, f.type)) else .other
  | .map k e => .map k e
  | .func .. => .func
  | .interface _ => .iface
  | _ => .other
def isAggD : TypeDesc → Bool
  | .struct _ | .array _ _ => true
  | _ => false
def zeroFits (agg : Bool) : Value → Bool
  | .agg _ => agg
  | _ => !agg
def flatFields (P : Program) : Nat → List Field → Option (List UT)
  | _, [] => some []
  | n, f :: fs => if f.name != "_" && f.offset == n then match P.underlying f.type, flatFields P (n + 1) fs with
    | some (.int k), some us => some (.int k :: us)
    | some .bool, some us => some (.bool :: us)
    | some .string, some us => some (.string :: us)
    | _, _ => none
    else none
/-- Of a struct of numbers, bools and strings alone: what its fields are. -/
def flatOf (P : Program) (t : Nat) : TypeDesc → List UT
  | .struct fs => if P.stoodInHeld t then [] else (flatFields P 0 fs.toList).getD []
  | _ => []
def tiOf (P : Program) (t : Nat) : Option TI :=
  match P.info? t, P.underlying t with
  | some i, some d => match i.zero with
    | some z => if plains z.cells.toList && (zeroFits (isAggD d) z && Nat.beq z.cells.toList.length i.size) then some { size := i.size, bytes := i.bytes, agg := isAggD d, flat := flatOf P t d, und := utOf P d, zero := z.cells.toList.map .v } else none
    | none => none
  | _, _ => none
/-- The table says what the program says; what it does not know to be flat is not compared. -/
def Agree (P : Program) (T : Nat → Option TI) : Prop := ∀ t i, T t = some i → ∃ f, tiOf P t = some { i with flat := f } ∧ (i.flat = [] ∨ i.flat = f)
structure TIs (P : Program) (t : Nat) (i : TI) : Prop where
  info : ∃ j, P.info? t = some j ∧ j.size = i.size ∧ j.bytes = i.bytes ∧ ∃ z, j.zero = some z ∧ i.zero = z.cells.toList.map .v ∧ plains z.cells.toList = true ∧ zeroFits i.agg z = true ∧ z.cells.toList.length = i.size
  und : ∃ d, P.underlying t = some d ∧ i.agg = isAggD d ∧ i.und = utOf P d ∧ (i.flat = [] ∨ i.flat = flatOf P t d)
theorem Agree.is {P : Program} {T : Nat → Option TI} (h : Agree P T) {t : Nat} {i : TI} (e : T t = some i) : TIs P t i := by
  obtain ⟨f, k, hf⟩ := h t i e
  unfold tiOf at k
  split at k
  · rename_i j d hj hd
    split at k
    · rename_i z hz
      split at k
      · rename_i hp
        simp only [Bool.and_eq_true] at hp
        simp only [Option.some.injEq, TI.mk.injEq] at k
        obtain ⟨k1, k2, k3, k4, k5, k6⟩ := k
        exact ⟨⟨j, hj, k1, k2, z, hz, k6.symm, hp.1, by rw [← k3]; exact hp.2.1, by rw [← k1]; exact Nat.eq_of_beq_eq_true hp.2.2⟩, ⟨d, hd, k3.symm, k5.symm, hf.imp id fun h => by rw [h, k4]⟩⟩
      · cases k
    · cases k
  · cases k

/-- How a call's end stands for an ending. -/
def RepOut (E : Env) : Out → Ending → Prop
  | .ret x, .returned v => RepV E x v
  | .panic x, .panicked chain => ∃ v, chain = [{ v, recovered := false }] ∧ RepV E x v
  | _, _ => False
/-- What a call comes to: of a function with a body, or without one. -/
def Called (P : Program) (f : Nat) (args : Array Value) (w : World) (R : Ending → World → Prop) : Prop :=
  match (callFunc f args).run P w with
  | .ok (.value v) w' => R (.returned v) w'
  | .ok (.enter g as) w' => Calls P g as w' R
  | .halt (.panic v) w' => R (.panicked [{ v, recovered := false }]) w'
  | _ => False
theorem Called.mono {P : Program} {f : Nat} {args : Array Value} {w : World} {R R' : Ending → World → Prop} (h : Called P f args w R) (hr : ∀ e w, R e w → R' e w) : Called P f args w R' := by
  unfold Called at *
  split at h
  · exact hr _ _ h
  · exact h.mono hr
  · exact hr _ _ h
  · exact h.elim
/-- What a call of f, on abstract arguments and a piece of heap, comes to, whatever world they stand for. -/
@[irreducible] def Run (P : Program) (G : Nat → Option (List Value)) (f : Nat) (xs : List AV) (H : Heap) (Q : Out → Heap → Prop) : Prop :=
  ∀ (E : Env) (w : World) (own : Nat → List Nat) (cs : List Value), RepH E w H own → E.Ok w → Globals E G → (∀ k, k < H.length → E.loc k ≠ .absent) → RepVs E xs cs →
    Called P f cs.toArray w fun e w' => ∃ o H' E' own', Q o H' ∧ H.length ≤ H'.length ∧ RepOut E' o e ∧ RepH E' w' H' own' ∧ E'.Ok w' ∧ Goes E w E' w'
/-- How what is panicking stands for a frame's mode. -/
def RepMode (E : Env) : Option AV → FrameMode → Prop
  | none, u => u = .returning
  | some x, u => ∃ v, u = .panicking [{ v, recovered := false }] ∧ RepV E x v
/-- The same of a deferred call. -/
@[irreducible] def RunD (P : Program) (G : Nat → Option (List Value)) (f : Nat) (xs : List AV) (H : Heap) (cur : Option AV) (Q : Heap → Option AV → Prop) : Prop :=
  ∀ (E : Env) (w : World) (own : Nat → List Nat) (cs : List Value) (u : FrameMode), RepH E w H own → E.Ok w → Globals E G → (∀ k, k < H.length → E.loc k ≠ .absent) → RepVs E xs cs → RepMode E cur u →
    (callFunc f cs.toArray).run P w = .ok (.enter f cs.toArray) w ∧ CallsD P f cs.toArray u w fun e u' w' => ∃ cur' H' E' own', (∃ v, e = .returned v) ∧ Q H' cur' ∧ H.length ≤ H'.length ∧ RepMode E' cur' (settle u') ∧ RepH E' w' H' own' ∧ E'.Ok w' ∧ Goes E w E' w'
/-- A loop: so many rounds; or: what holds at its head, and what sinks. -/
@[irreducible] def LoopP (body : EK Prop → SK Prop) (head : SK Prop → SK Prop) (K : EK Prop) : SK Prop := fun ρ H d => (∃ n, loopN False body head K n ρ H d) ∨
  ∃ (T : Nat → Regs → Heap → Prop) (n : Nat), head (fun ρ' H' d' => d' = [] ∧ T n ρ' H') ρ H d ∧ ∀ (k : Nat) (ρ : Regs) (H : Heap), T k ρ H → body (seqK (head fun ρ' H' d' => d' = [] ∧ ∃ j, j < k ∧ T j ρ' H') K) ρ H []
theorem LoopP.inv {body : EK Prop → SK Prop} {head : SK Prop → SK Prop} {K : EK Prop} {ρ : Regs} {H : Heap} {d : Dx} (T : Nat → Regs → Heap → Prop) (n : Nat) (h : head (fun ρ' H' d' => d' = [] ∧ T n ρ' H') ρ H d)
    (k : ∀ (k : Nat) (ρ : Regs) (H : Heap), T k ρ H → body (seqK (head fun ρ' H' d' => d' = [] ∧ ∃ j, j < k ∧ T j ρ' H') K) ρ H []) : LoopP body head K ρ H d := by
  unfold LoopP; exact .inr ⟨T, n, h, k⟩
/-- An element, where there is one. -/
inductive ElemP (es : List (List AV)) (n : Nat) (K : List AV → Prop) : Prop
  | mk (e : List AV) (he : es[n]? = some e) (h : K e)
theorem elemP_mk {es : List (List AV)} {n : Nat} {K : List AV → Prop} {e : List AV} (he : es[n]? = some e) (h : K e) : ElemP es n K := ⟨e, he, h⟩
theorem getK_iff (es : List (List AV)) (n : Nat) (K : List AV → Prop) : getK es n False K ↔ ∃ e, es[n]? = some e ∧ K e := by
  rw [getK_eq]
  constructor
  · intro h
    split at h
    · rename_i e he; exact ⟨e, he, h⟩
    · exact h.elim
  · rintro ⟨e, he, h⟩
    rw [he]; exact h
/-- How calls, loops and numbers are taken. -/
structure Md (P : Program) (G : Nat → Option (List Value)) where
  num : Int → (Int → Prop) → Prop
  call : Nat → List AV → Heap → (Out → Heap → Prop) → Prop
  defer : Nat → List AV → Heap → Option AV → (Heap → Option AV → Prop) → Prop
  loop : (EK Prop → SK Prop) → (SK Prop → SK Prop) → EK Prop → SK Prop
  elem : List (List AV) → Nat → (List AV → Prop) → Prop
  num_eq : ∀ n K, num n K = K n
  elem_iff : ∀ es n K, elem es n K ↔ ∃ e, es[n]? = some e ∧ K e
  call_run : ∀ f xs H K, call f xs H K → Run P G f xs H K
  defer_run : ∀ f xs H cur K, defer f xs H cur K → RunD P G f xs H cur K
  loop_run : ∀ body head K ρ H d, loop body head K ρ H d → LoopP body head K ρ H d
/-- The interpreter over propositions. -/
def propSig {P : Program} {G : Nat → Option (List Value)} (M : Md P G) : Sig Prop where
  fail := False
  cond b x y := cond b x y
  need c _ x := if c then x else False
  elem es n K := M.elem es n K
  num n K := M.num n K
  call f xs H K := M.call f xs H K
  defer f xs H cur K := M.defer f xs H cur K
  loop body head K := M.loop body head K
/-- Calls by what is known of them, loops of any length. -/
def symMd (P : Program) (G : Nat → Option (List Value)) : Md P G where
  num n K := K n
  elem := ElemP
  elem_iff _ _ _ := ⟨fun ⟨e, he, h⟩ => ⟨e, he, h⟩, fun ⟨e, he, h⟩ => ⟨e, he, h⟩⟩
  call := Run P G
  defer := RunD P G
  loop := LoopP
  num_eq _ _ := rfl
  call_run _ _ _ _ h := h
  defer_run _ _ _ _ _ h := h
  loop_run _ _ _ _ _ _ h := h
theorem need_inv {P : Program} {G : Nat → Option (List Value)} {M : Md P G} {c : Prop} [Decidable c] {x : Prop} (h : (propSig M).need c x) : c ∧ x := by
  have h : (if c then x else False) := h
  by_cases hc : c
  · rw [if_pos hc] at h; exact ⟨hc, h⟩
  · rw [if_neg hc] at h; exact h.elim
theorem need_mk {P : Program} {G : Nat → Option (List Value)} {M : Md P G} {c : Prop} [Decidable c] {x : Prop} (hc : c) (h : x) : (propSig M).need c x := by
  show (if c then x else False)
  rw [if_pos hc]; exact h
theorem elem_inv {P : Program} {G : Nat → Option (List Value)} {M : Md P G} {es : List (List AV)} {n : Nat} {K : List AV → Prop} (h : (propSig M).elem es n K) : ∃ e, es[n]? = some e ∧ K e := (M.elem_iff es n K).1 h
theorem elem_mk {P : Program} {G : Nat → Option (List Value)} {M : Md P G} {es : List (List AV)} {n : Nat} {K : List AV → Prop} {e : List AV} (he : es[n]? = some e) (h : K e) : (propSig M).elem es n K := (M.elem_iff es n K).2 ⟨e, he, h⟩

/-- Deferred calls. -/
def RepD (E : Env) : Dx → List Deferred → Prop
  | [], [] => True
  | (f, xs) :: D, c :: l => (∃ cs : List Value, c = { target := .fn (.func f) cs.toArray, args := #[] } ∧ RepVs E xs cs) ∧ RepD E D l
  | _, _ => False
theorem RepD.mono {E E' : Env} (h : E.Le E') : ∀ {D : Dx} {l : List Deferred}, RepD E D l → RepD E' D l
  | [], [], _ => trivial
  | (f, xs) :: D, c :: l, r => by
    obtain ⟨⟨cs, e, k⟩, r⟩ := r
    exact ⟨⟨cs, e, k.mono h⟩, RepD.mono h r⟩
  | [], _ :: _, r => r.elim
  | _ :: _, [], r => r.elim
/-- No box has an array in its cells: they are objects. -/
def Laid (H : Heap) : Prop := ∀ (k : Nat) (cs : List AV), H[k]? = some (AObj.box cs) → okCells cs = true
/-- Does the operand hang on registers of L alone? -/
def Vis (L : Nat → Prop) : Operand → Prop
  | .tmp t => L t
  | _ => True
/-- A state of the abstract machine, and one of the model's: in the registers of L. -/
structure Rel (G : Nat → Option (List Value)) (L : Nat → Prop) (E : Env) (own : Nat → List Nat) (ρ : Regs) (H : Heap) (d : Dx) (a : Act) (w : World) : Prop where
  regs : ∀ r, L r → RepV E (ρ.get r) (a.tmps.getD r undef)
  heap : RepH E w H own
  ok : E.Ok w
  glob : Globals E G
  defs : RepD E d a.defers
  laid : Laid H

theorem numK_inv {P : Program} {G : Nat → Option (List Value)} {M : Md P G} {k : IntKind} {v : Int} {K : Value → Prop} (h : numK (propSig M) k v K) : K (.int k v) := by
  have h : M.num v fun n => K (.int k n) := h
  rwa [M.num_eq] at h
theorem numK_mk {P : Program} {G : Nat → Option (List Value)} {M : Md P G} {k : IntKind} {v : Int} {K : Value → Prop} (h : K (.int k v)) : numK (propSig M) k v K := by
  show M.num v fun n => K (.int k n)
  rwa [M.num_eq]
theorem condF {b : Bool} {A : Prop} (h : cond b A False) : b = true ∧ A := by
  cases b
  · exact h.elim
  · exact ⟨rfl, h⟩
theorem plains_rep {E : Env} : ∀ {l : List Value}, plains l = true → RepVs E (l.map .v) l
  | [], _ => trivial
  | x :: l, h => by
    simp only [plains, Bool.and_eq_true] at h
    exact ⟨⟨h.1, rfl⟩, plains_rep h.2⟩

section
variable {P : Program} {G : Nat → Option (List Value)} {M : Md P G} {L : Nat → Prop} {X : Ctx} {E : Env} {own : Nat → List Nat} {ρ : Regs} {H : Heap} {d : Dx} {a : Act} {w : World}
theorem constK_inv {c : Value} {K : AV → Prop} (h : constK (propSig M) c K) : ∃ x, K x ∧ RepV E x c := by
  cases c with
  | int k n => exact ⟨_, h, rfl, rfl⟩
  | bool b => exact ⟨_, h, rfl, rfl⟩
  | string s => exact ⟨_, h, rfl, rfl⟩
  | agg cs =>
    have h : cond (plains cs.toList) (mapK (fun x K => K (.v x)) cs.toList (fun l => K (.agg l))) False := h
    obtain ⟨hp, h⟩ := condF h
    rw [mapK_eq _ AV.v (fun _ _ => rfl)] at h
    exact ⟨_, h, cs.toList, by simp, plains_rep hp⟩
  | float k b => have h : cond (plain (.float k b)) (K (.v (.float k b))) False := h; obtain ⟨hp, h⟩ := condF h; exact ⟨_, h, hp, rfl⟩
  | complex k b c => have h : cond (plain (.complex k b c)) (K (.v (.complex k b c))) False := h; obtain ⟨hp, h⟩ := condF h; exact ⟨_, h, hp, rfl⟩
  | pointer a => have h : cond (plain (.pointer a)) (K (.v (.pointer a))) False := h; obtain ⟨hp, h⟩ := condF h; exact ⟨_, h, hp, rfl⟩
  | slice a n m => have h : cond (plain (.slice a n m)) (K (.v (.slice a n m))) False := h; obtain ⟨hp, h⟩ := condF h; exact ⟨_, h, hp, rfl⟩
  | map a => have h : cond (plain (.map a)) (K (.v (.map a))) False := h; obtain ⟨hp, h⟩ := condF h; exact ⟨_, h, hp, rfl⟩
  | chan a => have h : cond (plain (.chan a)) (K (.v (.chan a))) False := h; obtain ⟨hp, h⟩ := condF h; exact ⟨_, h, hp, rfl⟩
  | func f a b => have h : cond (plain (.func f a b)) (K (.v (.func f a b))) False := h; obtain ⟨hp, h⟩ := condF h; exact ⟨_, h, hp, rfl⟩
  | nilFunc => have h : cond (plain (.nilFunc)) (K (.v (.nilFunc))) False := h; obtain ⟨hp, h⟩ := condF h; exact ⟨_, h, hp, rfl⟩
  | iface t v => have h : cond (plain (.iface t v)) (K (.v (.iface t v))) False := h; obtain ⟨hp, h⟩ := condF h; exact ⟨_, h, hp, rfl⟩
  | nilIface => have h : cond (plain (.nilIface)) (K (.v (.nilIface))) False := h; obtain ⟨hp, h⟩ := condF h; exact ⟨_, h, hp, rfl⟩
  | tuple vs => have h : cond (plain (.tuple vs)) (K (.v (.tuple vs))) False := h; obtain ⟨hp, h⟩ := condF h; exact ⟨_, h, hp, rfl⟩
theorem evalK_inv (r : Rel G L E own ρ H d a w) {x : Operand} (hx : Vis L x) {K : AV → Prop} (h : evalK (propSig M) ρ x K) : ∃ y, K y ∧ RepV E y (a.eval x) := by
  cases x with
  | tmp t => rw [show evalK (propSig M) ρ (.tmp t) K = Regs.getK ρ t K from rfl, Regs.getK_eq] at h; exact ⟨_, h, r.regs t hx⟩
  | const c => exact constK_inv h
  | global g => exact ⟨_, h, rfl⟩
  | func f => exact ⟨_, h, [], rfl, trivial⟩
theorem evalsK_inv (r : Rel G L E own ρ H d a w) {l : List Operand} (hl : ∀ x ∈ l, Vis L x) {K : List AV → Prop} (h : mapK (evalK (propSig M) ρ) l K) :
    ∃ ys, K ys ∧ RepVs E ys (l.map a.eval) := by
  induction l generalizing K with
  | nil => exact ⟨[], h, trivial⟩
  | cons x l ih =>
    rw [mapK_cons] at h
    obtain ⟨y, h, hy⟩ := evalK_inv r (hl x (by simp)) h
    obtain ⟨ys, h, hys⟩ := ih (fun x hx => hl x (by simp [hx])) h
    exact ⟨y :: ys, h, hy, hys⟩
theorem tiK_inv (hT : Agree P X.T) {t : Nat} {K : TI → Prop} (h : tiK (propSig M) X t K) : ∃ i, K i ∧ TIs P t i := by
  unfold tiK at h
  split at h
  · rename_i i e; exact ⟨i, h, hT.is e⟩
  · exact h.elim
theorem objK_inv {k : Nat} {K : AObj → Prop} (h : objK (propSig M) H k K) : ∃ o, H[k]? = some o ∧ K o := by
  unfold objK at h
  rw [getK_eq] at h
  split at h
  · rename_i o e; exact ⟨o, e, h⟩
  · exact h.elim
theorem boxK_inv {k : Nat} {K : List AV → Prop} (h : boxK (propSig M) H k K) : ∃ cs, H[k]? = some (.box cs) ∧ K cs := by
  obtain ⟨o, e, h⟩ := objK_inv h
  cases o with
  | box cs => exact ⟨cs, e, h⟩
  | _ => exact h.elim
theorem arrK_inv {k : Nat} {K : Nat → List (List AV) → Prop} (h : arrK (propSig M) H k K) : ∃ z es, H[k]? = some (.arr z es) ∧ K z es := by
  obtain ⟨o, e, h⟩ := objK_inv h
  cases o with
  | arr z es => exact ⟨z, es, e, h⟩
  | _ => exact h.elim
theorem mapObjK_inv {k : Nat} {K : List (Value × AV) → Prop} (h : mapObjK (propSig M) H k K) : ∃ kv, H[k]? = some (.map kv) ∧ K kv := by
  obtain ⟨o, e, h⟩ := objK_inv h
  cases o with
  | map kv => exact ⟨kv, e, h⟩
  | _ => exact h.elim
theorem asNat_inv {x : AV} {c : Value} {K : Nat → Prop} (h : asNat (propSig M) x K) (hx : RepV E x c) : ∃ k n, c = .int k (n : Nat) ∧ K n := by
  unfold asNat at h
  split at h
  · rename_i k n
    obtain ⟨h0, h⟩ := need_inv h
    obtain ⟨_, rfl⟩ := hx
    exact ⟨k, n.toNat, by rw [Int.toNat_of_nonneg h0], h⟩
  · exact h.elim
/-- Cells that may lie in memory. -/
theorem cellsK_inv {x : AV} {c : Value} {K : List AV → Prop} (h : cellsK (propSig M) x K) (hx : RepV E x c) :
    K (cellsOf x) ∧ okCells (cellsOf x) = true ∧ RepVs E (cellsOf x) c.cells.toList := by
  obtain ⟨ho, h⟩ := condF h
  refine ⟨h, ho, ?_⟩
  cases x with
  | agg cs => obtain ⟨xs, rfl, k⟩ := hx; simpa [cellsOf, Value.cells] using k
  | v y =>
    obtain ⟨hp, rfl⟩ := hx
    cases c <;> first | exact ⟨⟨hp, rfl⟩, trivial⟩ | simp [plain] at hp
  | tup cs => simp [cellsOf, okCells, okCell] at ho
  | undef => simp [cellsOf, okCells, okCell] at ho
  | own z es => exact hx.elim
  | omap kv => exact hx.elim
  | imm z es => obtain ⟨a, cap, rfl, k⟩ := hx; exact ⟨⟨a, cap, rfl, k⟩, trivial⟩
  | mt => obtain ⟨a, rfl⟩ := hx; exact ⟨⟨a, rfl⟩, trivial⟩
  | eptr cs off => obtain ⟨b, o, arr, T, fr, rfl, k⟩ := hx; exact ⟨⟨b, o, arr, T, fr, rfl, k⟩, trivial⟩
  | ref k off => obtain ⟨b, hb, rfl⟩ := hx; exact ⟨⟨b, hb, rfl⟩, trivial⟩
  | aptr k e off => obtain ⟨b, hb, rfl⟩ := hx; exact ⟨⟨b, hb, rfl⟩, trivial⟩
  | ar k => rcases hx with ⟨b, hb, rfl⟩ | ⟨hb, a, rfl⟩; exact ⟨.inl ⟨b, hb, rfl⟩, trivial⟩; exact ⟨.inr ⟨hb, a, rfl⟩, trivial⟩
  | sl k lo len => rcases hx with ⟨b, o, hb, hl, rfl, ho⟩ | ⟨hb, h1, h2, a, rfl⟩; exact ⟨.inl ⟨b, o, hb, hl, rfl, ho⟩, trivial⟩; exact ⟨.inr ⟨hb, h1, h2, a, rfl⟩, trivial⟩
  | mp k => obtain ⟨b, hb, rfl⟩ := hx; exact ⟨⟨b, hb, rfl⟩, trivial⟩
  | it k => obtain ⟨b, hb, rfl⟩ := hx; exact ⟨⟨b, hb, rfl⟩, trivial⟩
  | fn f cs => obtain ⟨xs, rfl, k⟩ := hx; exact ⟨⟨xs, rfl, k⟩, trivial⟩
  | iface t x => obtain ⟨y, rfl, k⟩ := hx; exact ⟨⟨y, rfl, k⟩, trivial⟩
  | glob g off => obtain rfl := hx; exact ⟨rfl, trivial⟩
/-- A variable of a type, out of cells. -/
theorem partK_inv {i : TI} {cs : List AV} {xs : List Value} {off : Nat} {K : AV → Prop} (h : partK (propSig M) i cs off K) (hx : RepVs E cs xs) :
    ∃ y, K y ∧ ((i.agg = true ∧ ((xs.drop off).take i.size).length = i.size ∧ RepV E y (.agg ((xs.drop off).take i.size).toArray)) ∨
      (i.agg = false ∧ ∃ c, xs[off]? = some c ∧ RepV E y c)) := by
  unfold partK at h
  cases hi : i.agg with
  | true =>
    rw [hi] at h
    have h : dropK off cs (fun r => takeK i.size r fun p => cond (Nat.beq p.length i.size) (K (.agg p)) False) := h
    rw [dropK_eq, takeK_eq] at h
    obtain ⟨hl, h⟩ := condF h
    have hr := (hx.drop off).take i.size
    exact ⟨_, h, .inl ⟨rfl, by rw [← hr.length]; exact Nat.eq_of_beq_eq_true hl, _, rfl, hr⟩⟩
  | false =>
    rw [hi] at h
    have h : getK cs off False K := h
    rw [getK_eq] at h
    split at h
    · rename_i x e
      obtain ⟨y, hy, hr⟩ := hx.get e
      exact ⟨x, h, .inr ⟨rfl, y, hy, hr⟩⟩
    · exact h.elim
theorem okCell_one {x : AV} {c : Value} (h : okCell x = true) (hx : RepV E x c) : c.oneCell' = true := by
  cases x with
  | v y => obtain ⟨hp, rfl⟩ := hx; cases c <;> first | rfl | simp [plain] at hp
  | agg cs => simp [okCell] at h
  | tup cs => simp [okCell] at h
  | undef => simp [okCell] at h
  | own z es => exact hx.elim
  | omap kv => exact hx.elim
  | imm z es => obtain ⟨a, cap, rfl, k⟩ := hx; rfl
  | mt => obtain ⟨a, rfl⟩ := hx; rfl
  | eptr cs off => obtain ⟨b, o, arr, T, fr, rfl, k⟩ := hx; rfl
  | ref k off => obtain ⟨b, hb, rfl⟩ := hx; rfl
  | aptr k e off => obtain ⟨b, hb, rfl⟩ := hx; rfl
  | ar k => rcases hx with ⟨b, hb, rfl⟩ | ⟨hb, a, rfl⟩ <;> rfl
  | sl k lo len => rcases hx with ⟨b, o, hb, hl, rfl, ho⟩ | ⟨hb, h1, h2, a, rfl⟩ <;> rfl
  | mp k => obtain ⟨b, hb, rfl⟩ := hx; rfl
  | it k => obtain ⟨b, hb, rfl⟩ := hx; rfl
  | fn f cs => obtain ⟨xs, rfl, k⟩ := hx; rfl
  | iface t x => obtain ⟨y, rfl, k⟩ := hx; rfl
  | glob g off => obtain rfl := hx; rfl
theorem okCells_one : ∀ {l : List AV} {m : List Value}, okCells l = true → RepVs E l m → ∀ v ∈ m, v.oneCell' = true
  | [], [], _, _, _, hv => by cases hv
  | x :: l, y :: m, h, r, v, hv => by
    simp only [okCells, Bool.and_eq_true] at h
    simp only [RepVs] at r
    rcases List.mem_cons.1 hv with rfl | hv
    · exact okCell_one h.1 r.1
    · exact okCells_one h.2 r.2 v hv
  | [], _ :: _, _, r, _, _ => by simp [RepVs] at r
  | _ :: _, [], _, r, _, _ => by simp [RepVs] at r
/-- Of cells without an array of their own. -/
theorem RepCs.ok : ∀ {l : List AV} {m : List Value} {B : List Nat}, okCells l = true → RepCs E w l m B → B = [] ∧ RepVs E l m
  | [], [], _, _, r => ⟨r, trivial⟩
  | x :: l, y :: m, B, h, r => by
    obtain ⟨B1, B2, rfl, r1, r2⟩ := r
    simp only [okCells, Bool.and_eq_true] at h
    obtain ⟨rfl, k2⟩ := RepCs.ok h.2 r2
    have : B1 = [] ∧ RepV E x y := by
      have h1 := h.1
      cases x <;> first | exact r1 | simp [okCell] at h1
    obtain ⟨rfl, k1⟩ := this
    exact ⟨rfl, k1, k2⟩
  | [], _ :: _, _, _, r => r.elim
  | _ :: _, [], _, _, r => r.elim
theorem RepCs.mk : ∀ {l : List AV} {m : List Value}, okCells l = true → RepVs E l m → RepCs E w l m []
  | [], [], _, _ => rfl
  | x :: l, y :: m, h, r => by
    simp only [okCells, Bool.and_eq_true] at h
    simp only [RepVs] at r
    refine ⟨[], [], rfl, ?_, RepCs.mk h.2 r.2⟩
    have h1 := h.1
    cases x <;> first | exact ⟨rfl, r.1⟩ | simp [okCell] at h1
  | [], _ :: _, _, r => by simp [RepVs] at r
  | _ :: _, [], _, r => by simp [RepVs] at r
end
end Am
end Go.Proofs.YtbdnfkmcfencdaaGreatDoor
/- The abstract machine is sound: how its states follow when an object is added, changed, or the world goes on. No condition. -/
namespace Go.Proofs.YtbdnfkmcfencdaaGreatDoor
namespace Am
open Go

theorem RepO.frame' {E E' : Env} {w w' : World} (h : E.Le E') {k : Nat} (hk : E.loc k = .absent → E'.loc k = .absent) {o : AObj} {B : List Nat}
    (hw : ∀ b ∈ B, w'.heap[b]? = w.heap[b]?) (r : RepO E w k o B) : RepO E' w' k o B := by
  by_cases hl : E.loc k = .absent
  · have hl' := hk hl
    cases o with
    | dead => exact r
    | box cs => simp only [RepO, hl] at r; simp only [RepO, hl']; exact r
    | arr z es => simp only [RepO, hl] at r; simp only [RepO, hl']; exact r
    | map kv => simp only [RepO, hl] at r; simp only [RepO, hl']; exact r
    | siter s p => simp only [RepO, hl] at r; simp only [RepO, hl']; exact r
  · exact r.frame h hl hw

/-- The heap, when the world goes on elsewhere. -/
theorem RepH.world {E : Env} {w w' : World} {H : Heap} {own : Nat → List Nat} (r : RepH E w H own) (hb : Beside w w')
    (hw : ∀ k b, b ∈ own k → w'.heap[b]? = w.heap[b]?) : RepH E w' H own :=
  ⟨fun k o e => (r.obj k o e).frame' (.refl E) id (hw k), r.beyond, r.nodup, r.apart, fun k b h => ⟨(r.free k b h).1, Nat.lt_of_lt_of_le (r.free k b h).2 hb.size⟩⟩

theorem RepC.notRec {E : Env} {w : World} {x : AV} {c : Value} {B : List Nat} (h : RepC E w x c B) : ∀ b ∈ B, ∃ ob, w.heap[b]? = some ob ∧ isRec ob = false := by
  intro b hb
  cases x with
  | own z es =>
    rcases h with ⟨b', arr, T, tot, hB, h1, _⟩ | ⟨hB, _⟩
    · subst hB; simp at hb; subst hb; exact ⟨_, h1, rfl⟩
    · subst hB; simp at hb
  | omap kv =>
    obtain ⟨b', ents, clock, hB, h1, _⟩ := h
    subst hB; simp at hb; subst hb; exact ⟨_, h1, rfl⟩
  | _ => obtain ⟨hB, _⟩ := h; subst hB; simp at hb
theorem RepCs.notRec {E : Env} {w : World} : ∀ {xs : List AV} {cs : List Value} {B : List Nat}, RepCs E w xs cs B → ∀ b ∈ B, ∃ ob, w.heap[b]? = some ob ∧ isRec ob = false
  | [], [], B, h => fun b hb => by obtain rfl : B = [] := h; simp at hb
  | x :: xs, c :: cs, B, h => fun b hb => by
    obtain ⟨B1, B2, rfl, h1, h2⟩ := h
    rcases List.mem_append.1 hb with hb | hb
    · exact h1.notRec b hb
    · exact RepCs.notRec h2 b hb
  | [], _ :: _, B, h => by simp [RepCs] at h
  | _ :: _, [], B, h => by simp [RepCs] at h
theorem RepO.notRec {E : Env} {w : World} {k : Nat} {o : AObj} {B : List Nat} (h : RepO E w k o B) : ∀ b ∈ B, ∃ ob, w.heap[b]? = some ob ∧ isRec ob = false := by
  intro b hb
  unfold RepO at h
  cases o with
  | dead => obtain rfl : B = [] := h; simp at hb
  | box cs =>
    obtain ⟨_, h⟩ := h
    split at h
    · subst h; simp at hb
    · exact h.elim
    · obtain ⟨arr, T, B', rfl, h1, h2⟩ := h
      rcases List.mem_cons.1 hb with rfl | hb
      · exact ⟨_, h1, rfl⟩
      · exact h2.notRec b hb
  | arr z es =>
    simp only at h
    split at h
    · subst h; simp at hb
    · obtain ⟨rfl, _⟩ := h; simp at hb
    · obtain ⟨arr, T, rfl, h1, _⟩ := h
      simp at hb; subst hb
      exact ⟨_, h1, rfl⟩
  | map kv =>
    simp only at h
    split at h
    · subst h; simp at hb
    · exact h.elim
    · obtain ⟨ents, clock, rfl, h1, _⟩ := h
      simp at hb; subst hb
      exact ⟨_, h1, rfl⟩
  | siter s pos =>
    simp only at h
    split at h
    · subst h; simp at hb
    · exact h.elim
    · obtain ⟨rfl, h1⟩ := h
      simp at hb; subst hb
      exact ⟨_, h1, rfl⟩
theorem RepH.notRec {E : Env} {w : World} {H : Heap} {own : Nat → List Nat} (r : RepH E w H own) {k b : Nat} (hb : b ∈ own k) : ∀ ob, w.heap[b]? = some ob → isRec ob = false := by
  rcases Nat.lt_or_ge k H.length with hk | hk
  · have h := r.obj k _ (List.getElem?_eq_getElem hk)
    obtain ⟨ob, h1, h2⟩ := h.notRec b hb
    intro ob' e
    rw [h1] at e; cases e; exact h2
  · rw [(r.beyond k hk).2] at hb; cases hb
/-- E, with one more object. -/
def Env.add (E : Env) (k : Nat) (p : Place) (n tot z : Nat) : Env :=
  { E with loc := fun j => if j = k then p else E.loc j, n := fun j => if j = k then n else E.n j, tot := fun j => if j = k then tot else E.tot j, z := fun j => if j = k then z else E.z j }
theorem Env.add_le {E : Env} {k : Nat} {p : Place} {n tot z : Nat} (h : E.loc k = .absent) : E.Le (E.add k p n tot z) :=
  ⟨fun _ _ e => e, fun _ e => e, fun j hj => by
    have : j ≠ k := fun e => hj (e ▸ h)
    simp [Env.add, this]⟩
theorem RepH.add {E : Env} {w : World} {H : Heap} {own : Nat → List Nat} (r : RepH E w H own) (p : Place) (n tot z : Nat) (o : AObj) (B : List Nat)
    (ho : RepO (E.add H.length p n tot z) w H.length o B) (hn : B.Nodup) (ha : ∀ b ∈ B, ∀ k, b ∉ own k) (hf : ∀ b ∈ B, E.Γ b = none ∧ b < w.heap.size) :
    RepH (E.add H.length p n tot z) w (H ++ [o]) (fun j => if j = H.length then B else own j) := by
  have h0 := (r.beyond H.length (Nat.le_refl _)).1
  refine ⟨fun k q e => ?_, fun k hk => ?_, fun k => ?_, fun j k b hjk hb => ?_, fun k b hb => ?_⟩
  · by_cases hk : k = H.length
    · subst hk
      rw [List.getElem?_append_right (Nat.le_refl _)] at e
      simp at e
      subst e
      simpa using ho
    · have hlt : k < H.length := by
        rcases Nat.lt_or_ge k H.length with h | h
        · exact h
        · have : (H ++ [o]).length ≤ k := by simp; omega
          rw [List.getElem?_eq_none this] at e; cases e
      rw [List.getElem?_append_left hlt] at e
      simp only [hk, if_false]
      exact (r.obj k q e).frame' (Env.add_le h0) (fun hl => by simp [Env.add, hk, hl]) (fun _ _ => rfl)
  · have hk' : k ≠ H.length := by simp at hk; omega
    have := r.beyond k (by simp at hk; omega)
    simp [Env.add, hk', this]
  · by_cases hk : k = H.length
    · simpa [hk] using hn
    · simpa [hk] using r.nodup k
  · by_cases hj : j = H.length
    · simp only [hj, if_true] at hb
      have hk : k ≠ H.length := fun e => hjk (hj.trans e.symm)
      simp only [hk, if_false]
      exact ha b hb k
    · simp only [hj, if_false] at hb
      by_cases hk : k = H.length
      · simp only [hk, if_true]
        exact fun hb' => ha b hb' j hb
      · simp only [hk, if_false]
        exact r.apart j k b hjk hb
  · by_cases hk : k = H.length
    · simp only [hk, if_true] at hb
      exact hf b hb
    · simp only [hk, if_false] at hb
      exact r.free k b hb
theorem RepH.set {E : Env} {w w' : World} {H : Heap} {own : Nat → List Nat} (r : RepH E w H own) (hb : Beside w w') (k : Nat) (o : AObj) (B : List Nat)
    (hw : ∀ j b, j ≠ k → b ∈ own j → w'.heap[b]? = w.heap[b]?) (ho : RepO E w' k o B) (hn : B.Nodup) (hB : ∀ b ∈ B, b ∈ own k) :
    RepH E w' (H.set k o) (fun j => if j = k then B else own j) := by
  refine ⟨fun j q e => ?_, fun j hj => ?_, fun j => ?_, fun i j b hij hb' => ?_, fun j b hb' => ?_⟩
  · by_cases hj : j = k
    · subst hj
      simp only [if_true]
      by_cases hl : j < H.length
      · rw [List.getElem?_set_self hl] at e
        cases e; exact ho
      · rw [List.getElem?_eq_none (by simp; omega)] at e; cases e
    · rw [List.getElem?_set_ne (fun e => hj e.symm)] at e
      simp only [hj, if_false]
      exact (r.obj j q e).frame' (.refl E) id (fun b h => hw j b hj h)
  · have := r.beyond j (by simpa using hj)
    refine ⟨this.1, ?_⟩
    by_cases hj' : j = k
    · subst hj'
      simp only [if_true]
      cases B with
      | nil => rfl
      | cons b B => have h2 := hB b (by simp); rw [this.2] at h2; cases h2
    · simp [hj', this.2]
  · by_cases hj : j = k
    · simpa [hj] using hn
    · simpa [hj] using r.nodup j
  · by_cases hi : i = k
    · simp only [hi, if_true] at hb'
      have hj : j ≠ k := fun e => hij (hi.trans e.symm)
      simp only [hj, if_false]
      exact r.apart k j b (fun e => hj e.symm) (hB b hb')
    · simp only [hi, if_false] at hb'
      by_cases hj : j = k
      · simp only [hj, if_true]
        exact fun h => r.apart i k b hi hb' (hB b h)
      · simp only [hj, if_false]
        exact r.apart i j b hij hb'
  · by_cases hj : j = k
    · simp only [hj, if_true] at hb'
      have := r.free k b (hB b hb')
      exact ⟨this.1, Nat.lt_of_lt_of_le this.2 hb.size⟩
    · simp only [hj, if_false] at hb'
      have := r.free j b hb'
      exact ⟨this.1, Nat.lt_of_lt_of_le this.2 hb.size⟩

section
variable {G : Nat → Option (List Value)} {L : Nat → Prop} {E : Env} {own : Nat → List Nat} {ρ : Regs} {H : Heap} {d : Dx} {a : Act} {w : World}
theorem Env.Ok.world {w' : World} (h : E.Ok w) (hw : ∀ b, E.Γ b ≠ none → w'.heap[b]? = w.heap[b]?) : E.Ok w' :=
  ⟨fun b o e => by rw [hw b (by rw [e]; simp)]; exact h.mem b o e, h.im, h.norec⟩
theorem Rel.world {w' : World} (r : Rel G L E own ρ H d a w) (hb : Beside w w') (hw : ∀ b, b < w.heap.size → w'.heap[b]? = w.heap[b]?) : Rel G L E own ρ H d a w' :=
  ⟨r.regs, r.heap.world hb fun k b h => hw b (r.heap.free k b h).2, r.ok.world (fun b hb => (by
    cases e : E.Γ b with
    | none => exact absurd e hb
    | some o =>
      have := r.ok.mem b o e
      refine hw b ?_
      rcases Nat.lt_or_ge b w.heap.size with h | h
      · exact h
      · rw [Array.getElem?_eq_none h] at this; cases this)), r.glob, r.defs, r.laid⟩
theorem Rel.env {E' : Env} {own' : Nat → List Nat} {H' : Heap} {w' : World} (r : Rel G L E own ρ H d a w) (h : E.Le E') (hh : RepH E' w' H' own') (ho : E'.Ok w') (hl : Laid H') : Rel G L E' own' ρ H' d a w' :=
  ⟨fun i hi => (r.regs i hi).mono h, hh, ho, fun g vs e => (by
    obtain ⟨hp, arr, T, fr, e1, e2⟩ := r.glob g vs e
    exact ⟨hp, arr, T, fr, h.Γ _ _ e1, e2⟩), r.defs.mono h, hl⟩

/-- The world with one block more. -/
def push (w : World) (o : Obj) : World := { w with heap := w.heap.push o }
theorem push_old (w : World) (o : Obj) (b : Nat) (h : b < w.heap.size) : (push w o).heap[b]? = w.heap[b]? := by
  show (w.heap.push o)[b]? = _
  rw [Array.getElem?_push, if_neg (by omega)]
theorem push_new (w : World) (o : Obj) : (push w o).heap[w.heap.size]? = some o := by
  show (w.heap.push o)[w.heap.size]? = _
  simp
theorem lt_size {w : World} {b : Nat} {o : Obj} (h : w.heap[b]? = some o) : b < w.heap.size := (Array.getElem?_eq_some_iff.1 h).1
theorem beside_push (w : World) (o : Obj) : Beside w (push w o) := ⟨rfl, rfl, rfl, by show _ ≤ (w.heap.push o).size; simp, fun b ob e _ => (push_old w o b (lt_size e)).trans e⟩
theorem size_push (w : World) (o : Obj) : (push w o).heap.size = w.heap.size + 1 := by show (w.heap.push o).size = _; simp
theorem laid_add {o : AObj} (h : Laid H) (ho : ∀ cs, o = .box cs → okCells cs = true) : Laid (H ++ [o]) := by
  intro k cs e
  rcases Nat.lt_or_ge k H.length with hk | hk
  · rw [List.getElem?_append_left hk] at e; exact h k cs e
  · rw [List.getElem?_append_right hk] at e
    cases hm : k - H.length with
    | zero => rw [hm] at e; simp at e; exact ho cs e
    | succ m => rw [hm] at e; simp at e
theorem laid_set {o : AObj} {i : Nat} (h : Laid H) (ho : ∀ cs, o = .box cs → okCells cs = true) : Laid (H.set i o) := by
  intro k cs e
  by_cases hk : i = k
  · subst hk
    by_cases hl : i < H.length
    · rw [List.getElem?_set_self hl] at e; cases e; exact ho cs rfl
    · rw [List.getElem?_eq_none (by simp; omega)] at e; cases e
  · rw [List.getElem?_set_ne hk] at e; exact h k cs e
/-- A new object in a new block. -/
theorem Rel.new (r : Rel G L E own ρ H d a w) (ob : Obj) (n tot z : Nat) (o : AObj) (hbox : ∀ cs, o = .box cs → okCells cs = true)
    (ho : RepO (E.add H.length (.blk w.heap.size) n tot z) (push w ob) H.length o [w.heap.size]) :
    ∃ E' own', Rel G L E' own' ρ (H ++ [o]) d a (push w ob) ∧ E'.loc H.length = .blk w.heap.size ∧ E'.n H.length = n ∧ E'.tot H.length = tot ∧ E'.z H.length = z ∧
      Goes E w E' (push w ob) := by
  have r' := r.world (beside_push w ob) (push_old w ob)
  have h0 := (r.heap.beyond H.length (Nat.le_refl _)).1
  have hh := r'.heap.add (.blk w.heap.size) n tot z o [w.heap.size] ho (by simp)
    (fun b hb k hk => by
      simp at hb; subst hb
      exact absurd (r.heap.free k _ hk).2 (Nat.lt_irrefl _))
    (fun b hb => by
      simp at hb; subst hb
      refine ⟨?_, by rw [size_push]; omega⟩
      cases e : E.Γ w.heap.size with
      | none => rfl
      | some o =>
        have := r.ok.mem _ o e
        rw [Array.getElem?_eq_none (Nat.le_refl _)] at this; cases this)
  have hl : E.Le (E.add H.length (.blk w.heap.size) n tot z) := Env.add_le h0
  refine ⟨_, _, r'.env hl hh ⟨r'.ok.mem, r'.ok.im, r'.ok.norec⟩ (laid_add r.laid hbox), by simp [Env.add], by simp [Env.add], by simp [Env.add], by simp [Env.add], hl, fun b hb => .inl hb, beside_push w ob⟩

theorem okCells_O : ∀ {l : List AV}, okCells l = true → okCellsO l = true
  | [], _ => rfl
  | x :: l, h => by
    simp only [okCells, Bool.and_eq_true] at h
    simp only [okCellsO, Bool.and_eq_true]
    exact ⟨by have := h.1; cases x <;> simp_all [okCell, okCellO], okCells_O h.2⟩
/-- A new box. -/
theorem Rel.newBox (r : Rel G L E own ρ H d a w) (cs : List AV) (xs : Array Value) (T : TypeId) (ho : okCells cs = true) (hx : RepVs E cs xs.toList) :
    ∃ E' own', Rel G L E' own' ρ (H ++ [.box cs]) d a (push w (.cells xs T)) ∧ RepV E' (.ref H.length 0) (.pointer (some ⟨w.heap.size, 0, none⟩)) ∧ Goes E w E' (push w (.cells xs T)) := by
  have h0 := (r.heap.beyond H.length (Nat.le_refl _)).1
  obtain ⟨E', own', h1, h2, _, _, _, h3⟩ := r.new (.cells xs T) 0 0 0 (.box cs) (fun _ e => by cases e; exact ho) (by
    simp only [RepO, Env.add, if_true]
    exact ⟨okCells_O ho, xs, T, [], rfl, push_new _ _, RepCs.mk ho (hx.mono (Env.add_le (p := .blk w.heap.size) (n := 0) (tot := 0) (z := 0) h0))⟩)
  exact ⟨E', own', h1, ⟨_, h2, rfl⟩, h3⟩
end
end Am
end Go.Proofs.YtbdnfkmcfencdaaGreatDoor
/- The abstract machine is sound, operation by operation (the first part: values, boxes, loads and stores). No condition. -/
namespace Go.Proofs.YtbdnfkmcfencdaaGreatDoor
namespace Am
open Go

/-- Where an operation lands: a value, and a state behind it. -/
def Lands (G : Nat → Option (List Value)) (L : Nat → Prop) (E : Env) (a : Act) (w : World) (K : VK Prop) (r : Result Next) : Prop :=
  ∃ x ρ' H' d' E' own' l w' v, K x ρ' H' d' ∧ Rel G L E' own' ρ' H' d' ⟨a.tmps, l⟩ w' ∧ RepV E' x v ∧ Goes E w E' w' ∧
    ((r = .ok (.value v) w' ∧ l = a.defers) ∨ (r = .ok .skip w' ∧ v = undef ∧ l = a.defers) ∨ (∃ c, r = .ok (.defer c) w' ∧ v = undef ∧ l = c :: a.defers))

section runs
variable {P : Program} {t : Nat} {i : TI} {w : World}
theorem TIs.run_underlying (h : TIs P t i) : ∃ d, P.underlying t = some d ∧ i.agg = isAggD d ∧ i.und = utOf P d ∧ (underlying t).run P w = .ok d w := by
  obtain ⟨d, h1, h2, h3, _⟩ := h.und
  exact ⟨d, h1, h2, h3, by simp [underlying, h1]⟩
theorem TIs.run_info (h : TIs P t i) : ∃ j, (typeInfo t).run P w = .ok j w ∧ j.size = i.size ∧ j.bytes = i.bytes := by
  obtain ⟨j, h1, h2, h3, _⟩ := h.info
  exact ⟨j, by simp [typeInfo, h1], h2, h3⟩
theorem TIs.run_sizeOf (h : TIs P t i) : (sizeOf t).run P w = .ok i.size w := by
  obtain ⟨j, h1, h2, _⟩ := h.info
  simp [sizeOf, typeInfo, h1, h2]
theorem TIs.run_zero (h : TIs P t i) : ∃ z, (zeroValue t).run P w = .ok z w ∧ i.zero = z.cells.toList.map .v ∧ plains z.cells.toList = true ∧ zeroFits i.agg z = true := by
  obtain ⟨j, h1, _, _, z, h4, h5, h6, h7, _⟩ := h.info
  exact ⟨z, by simp [zeroValue, typeInfo, h1, h4], h5, h6, h7⟩
theorem TIs.run_isAgg (h : TIs P t i) : (isAgg t).run P w = .ok i.agg w := by
  obtain ⟨d, h1, h2, _⟩ := h.und
  simp only [isAgg, Sem.run_bind, underlying, h1, run_program, Result.andThen_ok, Sem.run_pure]
  rw [h2]
  cases d <;> rfl
/-- What a type is, from the table. -/
theorem utOf_ptr {d : TypeDesc} {e : Nat} (h : utOf P d = .ptr e) : d = .pointer e := by cases d <;> simp [utOf] at h; exact h ▸ rfl; split at h <;> cases h
theorem utOf_slice {d : TypeDesc} {e : Nat} (h : utOf P d = .slice e) : d = .slice e := by cases d <;> simp [utOf] at h; exact h ▸ rfl; split at h <;> cases h
theorem utOf_int {d : TypeDesc} {k : IntKind} (h : utOf P d = .int k) : d = .int k := by cases d <;> simp [utOf] at h; exact h ▸ rfl; split at h <;> cases h
theorem utOf_string {d : TypeDesc} (h : utOf P d = .string) : d = .string := by cases d <;> simp [utOf] at h; rfl; split at h <;> cases h
theorem utOf_bool {d : TypeDesc} (h : utOf P d = .bool) : d = .bool := by cases d <;> simp [utOf] at h; rfl; split at h <;> cases h
theorem utOf_array {d : TypeDesc} {n e : Nat} (h : utOf P d = .array n e) : d = .array n e := by cases d <;> simp [utOf] at h; exact h.1 ▸ h.2 ▸ rfl; split at h <;> cases h
theorem utOf_map {d : TypeDesc} {n e : Nat} (h : utOf P d = .map n e) : d = .map n e := by cases d <;> simp [utOf] at h <;> first | exact h.1 ▸ h.2 ▸ rfl | (split at h <;> cases h)
theorem utOf_func {d : TypeDesc} (h : utOf P d = .func) : ∃ a b c, d = .func a b c := by cases d <;> simp [utOf] at h; split at h <;> cases h; exact ⟨_, _, _, rfl⟩
theorem utOf_iface {d : TypeDesc} (h : utOf P d = .iface) : ∃ a, d = .interface a := by cases d <;> simp [utOf] at h; split at h <;> cases h; exact ⟨_, rfl⟩
theorem utOf_struct {d : TypeDesc} {fs : List (Nat × Nat)} (h : utOf P d = .struct fs) :
    ∃ l, d = .struct l ∧ fs = l.toList.map (fun f => (f.offset, f.type)) ∧ ∀ f ∈ l.toList, P.cellsOf f.type ≠ 0 := by
  cases d <;> simp [utOf] at h
  split at h
  · rename_i l hl
    simp only [UT.struct.injEq] at h
    refine ⟨_, rfl, h.symm, fun f hf => ?_⟩
    obtain ⟨n, hn, rfl⟩ := List.getElem_of_mem hf
    exact hl n (by simpa using hn)
  · cases h
end runs

section
variable {P : Program} {G : Nat → Option (List Value)} {M : Md P G} {L : Nat → Prop} {X : Ctx} {E : Env} {own : Nat → List Nat} {ρ : Regs} {H : Heap} {d : Dx} {a : Act} {w : World}
theorem Rel.same (r : Rel G L E own ρ H d a w) : Rel G L E own ρ H d ⟨a.tmps, a.defers⟩ w := ⟨r.regs, r.heap, r.ok, r.glob, r.defs, r.laid⟩
theorem Lands.value {K : VK Prop} {x : AV} {v : Value} {R : Result Next} (r : Rel G L E own ρ H d a w) (h : K x ρ H d) (hv : RepV E x v) (hR : R = .ok (.value v) w) :
    Lands G L E a w K R := ⟨x, ρ, H, d, E, own, a.defers, w, v, h, r.same, hv, .refl E w, .inl ⟨hR, rfl⟩⟩

/-- An operation that only computes or reads: the same state is behind it. -/
def Lands0 (E : Env) (w : World) (ρ : Regs) (H : Heap) (d : Dx) (K : VK Prop) (R : Result Next) : Prop := ∃ x v, K x ρ H d ∧ RepV E x v ∧ R = .ok (.value v) w
theorem Lands0.value {K : VK Prop} {x : AV} {v : Value} {R : Result Next} (_r : Rel G L E own ρ H d a w) (h : K x ρ H d) (hv : RepV E x v) (hR : R = .ok (.value v) w) : Lands0 E w ρ H d K R := ⟨x, v, h, hv, hR⟩
theorem Lands0.lands {K : VK Prop} {R : Result Next} (h : Lands0 E w ρ H d K R) (r : Rel G L E own ρ H d a w) : Lands G L E a w K R := by
  obtain ⟨x, v, h1, h2, h3⟩ := h
  exact Lands.value r h1 h2 h3
theorem move_lands (r : Rel G L E own ρ H d a w) {K : VK Prop} {x : Operand} (hx : Vis L x) (h : moveO (propSig M) ρ H d K x) {R : Result Next} (hR : R = .ok (.value (a.eval x)) w) : Lands0 E w ρ H d K R := by
  obtain ⟨y, h, hy⟩ := evalK_inv r hx h
  exact Lands0.value r h hy hR
theorem pick_lands (r : Rel G L E own ρ H d a w) {K : VK Prop} {c x y : Operand} (hc : Vis L c) (hx : Vis L x) (hy : Vis L y) (h : pickO (propSig M) ρ H d K c x y) :
    Lands0 E w ρ H d K ((do pure (.value (if ← asBool (a.eval c) then a.eval x else a.eval y)) : Sem Next).run P w) := by
  obtain ⟨u, h, hu⟩ := evalK_inv r hc h
  obtain ⟨p, h, hp⟩ := evalK_inv r hx h
  obtain ⟨q, h, hq⟩ := evalK_inv r hy h
  cases u with
  | v u => cases u with
    | bool t =>
      obtain ⟨_, hu⟩ := hu
      rw [hu]
      have key : K p ρ H d ∧ t = true ∨ K q ρ H d ∧ t = false → Lands0 E w ρ H d K ((do pure (.value (if ← asBool (Value.bool t) then a.eval x else a.eval y)) : Sem Next).run P w) := by
        intro hk
        clear h
        rcases hk with ⟨hk, rfl⟩ | ⟨hk, rfl⟩
        · exact Lands0.value r hk hp (by simp [asBool])
        · exact Lands0.value r hk hq (by simp [asBool])
      have two : cond t (K p ρ H d) (K q ρ H d) → Lands0 E w ρ H d K ((do pure (.value (if ← asBool (Value.bool t) then a.eval x else a.eval y)) : Sem Next).run P w) := by
        intro hk
        clear h
        cases t
        · exact key (.inr ⟨hk, rfl⟩)
        · exact key (.inl ⟨hk, rfl⟩)
      cases p with
      | v p => cases p with
        | bool s => cases q with
          | v q => cases q with
            | bool s' =>
              obtain ⟨_, e1⟩ := hp
              obtain ⟨_, e2⟩ := hq
              refine Lands0.value (v := .bool (cond t s s')) r h ⟨rfl, rfl⟩ ?_
              cases t <;> simp [asBool, e1, e2]
            | _ => exact two h
          | _ => exact two h
        | _ => exact two h
      | _ => exact two h
    | _ => exact h.elim
  | _ => exact h.elim
theorem newK_eq' {β : Type} (H : Heap) (o : AObj) (K : Nat → Heap → β) : newK H o K = K H.length (H ++ [o]) := by simp [newK]
theorem okCells_v : ∀ l : List Value, okCells (l.map .v) = true
  | [] => rfl
  | _ :: l => by simp [okCells, okCell, okCells_v l]
theorem alloc_lands (r : Rel G L E own ρ H d a w) (hT : Agree P X.T) {K : VK Prop} {t : Nat} (h : allocO (propSig M) X ρ H d K t) :
    Lands G L E a w K ((do pure (.value (← Instr.alloc t true (.tuple #[]))) : Sem Next).run P w) := by
  obtain ⟨i, h, ht⟩ := tiK_inv hT h
  rw [newK_eq'] at h
  obtain ⟨z, hz, e, hp, _⟩ := ht.run_zero (w := w)
  obtain ⟨E', own', r', hv, hg⟩ := r.newBox i.zero z.cells t (by rw [e]; exact okCells_v _) (by rw [e]; exact plains_rep hp)
  refine ⟨_, ρ, _, d, E', own', a.defers, _, _, h, r'.same, hv, hg, .inl ⟨?_, rfl⟩⟩
  simp [Instr.alloc, hz, newVar, newRow, push]
theorem box_lands (r : Rel G L E own ρ H d a w) {K : VK Prop} {t : Nat} {x : Operand} (hx : Vis L x) (h : boxO (propSig M) ρ H d K x) :
    Lands G L E a w K ((do pure (.value (← Instr.box t (a.eval x))) : Sem Next).run P w) := by
  obtain ⟨y, h, hy⟩ := evalK_inv r hx h
  obtain ⟨h, ho, hc⟩ := cellsK_inv h hy
  rw [newK_eq'] at h
  obtain ⟨E', own', r', hv, hg⟩ := r.newBox _ (a.eval x).cells t ho hc
  refine ⟨_, ρ, _, d, E', own', a.defers, _, _, h, r'.same, hv, hg, .inl ⟨?_, rfl⟩⟩
  simp [Instr.box, newVar, newRow, push]
theorem nilCheck_lands (r : Rel G L E own ρ H d a w) {K : VK Prop} {x : Operand} (hx : Vis L x) (h : nilCheckO (propSig M) ρ H d K x) {o : Oper} (ho : o.op = .nilCheck x) :
    Lands0 E w ρ H d K ((execOp a.eval o).run P w) := by
  obtain ⟨y, h, hy⟩ := evalK_inv r hx h
  have key : ∀ v, v = a.eval x → (∃ b, v = .pointer (some b)) ∨ (∃ f xs, v = .func (.func f) #[] xs) → K y ρ H d → RepV E y v → Lands0 E w ρ H d K ((execOp a.eval o).run P w) := by
    intro v hv hform hK hr
    refine Lands0.value (v := v) r hK hr ?_
    simp only [execOp, ho, ← hv]
    rcases hform with ⟨b, rfl⟩ | ⟨f, xs, rfl⟩ <;> rfl
  unfold nilCheckV at h
  split at h
  · obtain ⟨b, _, e⟩ := hy; exact key _ e.symm (.inl ⟨_, rfl⟩) h ⟨b, ‹_›, rfl⟩
  · obtain ⟨b, _, e⟩ := hy; exact key _ e.symm (.inl ⟨_, rfl⟩) h ⟨b, ‹_›, rfl⟩
  · have hy' := hy; obtain ⟨b, o', arr, T, fr, e, _⟩ := hy; exact key _ e.symm (.inl ⟨_, rfl⟩) h (e ▸ hy')
  · have hy' := hy; exact key _ (show _ = a.eval x from (show a.eval x = _ from hy).symm) (.inl ⟨_, rfl⟩) h rfl
  · have hy' := hy; obtain ⟨xs, e, _⟩ := hy; exact key _ e.symm (.inr ⟨_, _, rfl⟩) h (e ▸ hy')
  · exact h.elim
end
end Am
end Go.Proofs.YtbdnfkmcfencdaaGreatDoor
/- The abstract machine is sound, operation by operation (loads and stores). No condition. -/
namespace Go.Proofs.YtbdnfkmcfencdaaGreatDoor
namespace Am
open Go

section mem
variable {P : Program} {w : World}
theorem cell_at {b : Nat} {arr : Array Value} {T : TypeId} {fr : Nat × Nat} (h : w.heap[b]? = some (.cells arr T fr)) (o : Nat) : w.cell? ⟨b, o, none⟩ = arr[o]? := by
  simp [World.cell?, h]
theorem addr_add (b o j : Nat) : (⟨b, o, none⟩ : Addr).add j = ⟨b, o + j, none⟩ := by
  unfold Addr.add
  by_cases h : j = 0 <;> simp [h]
/-- A variable of a type is loaded. -/
theorem run_load_part {t : Nat} {i : TI} (ht : TIs P t i) {b o : Nat} {arr : Array Value} {T : TypeId} {fr : Nat × Nat} (h : w.heap[b]? = some (.cells arr T fr)) {xs : List Value} {base : Nat}
    (hx : ∀ (j : Nat) v, xs[j]? = some v → arr[base + j]? = some v) {off : Nat} (ho : o = base + off) {v : Value}
    (hv : (i.agg = true ∧ ((xs.drop off).take i.size).length = i.size ∧ v = .agg ((xs.drop off).take i.size).toArray) ∨ (i.agg = false ∧ xs[off]? = some v)) :
    (Instr.loadAt t (.pointer (some ⟨b, o, none⟩))).run P w = .ok v w := by
  subst ho
  simp only [Instr.loadAt, Instr.sureAddr, Sem.run_bind, Sem.run_pure, Result.andThen_ok, loadVar, ht.run_isAgg]
  rcases hv with ⟨ha, hl, rfl⟩ | ⟨ha, hv⟩
  · simp only [ha, if_true, Sem.run_bind, ht.run_sizeOf, Result.andThen_ok]
    have := run_loadCells_list (P := P) (w := w) ⟨b, base + off, none⟩ ((xs.drop off).take i.size) (fun j v e => by
      rw [addr_add, cell_at h, Nat.add_assoc]
      refine hx _ v ?_
      rw [List.getElem?_take] at e
      split at e
      · rwa [List.getElem?_drop] at e
      · cases e)
    rw [hl] at this
    rw [this]
    rfl
  · simp only [ha, Bool.false_eq_true, if_false, run_load]
    rw [cell_at h, hx _ v hv]

/-- The world with another block in the place of one. -/
def setBlock (w : World) (b : Nat) (o : Obj) : World := { w with heap := w.heap.setIfInBounds b o }
theorem setBlock_same {b : Nat} {o p : Obj} (h : w.heap[b]? = some p) : (setBlock w b o).heap[b]? = some o := by
  have hb : b < w.heap.size := by
    rcases Nat.lt_or_ge b w.heap.size with h' | h'
    · exact h'
    · rw [Array.getElem?_eq_none h'] at h; cases h
  show (w.heap.setIfInBounds b o)[b]? = _
  simp [hb]
theorem setBlock_other {b c : Nat} {o : Obj} (h : c ≠ b) : (setBlock w b o).heap[c]? = w.heap[c]? := by
  show (w.heap.setIfInBounds b o)[c]? = _
  simp [Ne.symm h]
theorem beside_setBlock (b : Nat) (o : Obj) (h : ∀ ob, w.heap[b]? = some ob → isRec ob = false) : Beside w (setBlock w b o) :=
  ⟨rfl, rfl, rfl, by show _ ≤ (w.heap.setIfInBounds b o).size; simp, fun c ob e i => by
    by_cases hc : c = b
    · subst hc; rw [h ob e] at i; cases i
    · rw [setBlock_other hc]; exact e⟩
theorem setBlock_setBlock (b : Nat) (o p : Obj) : setBlock (setBlock w b o) b p = setBlock w b p := by
  simp [setBlock]
theorem setBlock_id {b : Nat} {o : Obj} (h : w.heap[b]? = some o) : setBlock w b o = w := by
  have hb : b < w.heap.size := by
    rcases Nat.lt_or_ge b w.heap.size with h' | h'
    · exact h'
    · rw [Array.getElem?_eq_none h'] at h; cases h
  have : w.heap.setIfInBounds b o = w.heap := by
    apply Array.ext_getElem?
    intro i
    rw [Array.getElem?_setIfInBounds]
    split
    · rename_i e; subst e; simp only [h]
    · rfl
  simp [setBlock, this]
theorem setCell_eq {b o : Nat} {arr : Array Value} {T : TypeId} {fr : Nat × Nat} (h : w.heap[b]? = some (.cells arr T fr)) (v : Value) :
    w.setCell ⟨b, o, none⟩ v = setBlock w b (.cells (arr.setIfInBounds o v) T fr) := by
  unfold World.setCell setBlock
  congr 1
  apply Array.ext_getElem?
  intro i
  rw [Array.getElem?_modify, Array.getElem?_setIfInBounds]
  by_cases e : b = i
  · subst e; simp [h]
    rcases Nat.lt_or_ge b w.heap.size with h' | h'
    · simp [h']
    · rw [Array.getElem?_eq_none h'] at h; cases h
  · simp [e]
theorem run_storeCells : ∀ (vs : List Value) (i : Nat) {w : World} {b o : Nat} {arr : Array Value} {T : TypeId}, w.heap[b]? = some (.cells arr T (0, 0)) → (∀ v ∈ vs, v.oneCell' = true) →
    o + i + vs.length ≤ arr.size → (storeCells ⟨b, o, none⟩ vs i).run P w = .ok () (setBlock w b (.cells (paste arr.toList (o + i) vs).toArray T (0, 0)))
  | [], i, w, b, o, arr, T, h, _, _ => by
    simp only [storeCells, Sem.run_pure, paste, List.append_nil, List.length_nil, Nat.add_zero, List.take_append_drop]
    rw [setBlock_id]
    simpa using h
  | v :: vs, i, w, b, o, arr, T, h, hv, hl => by
    have hlt : o + i < arr.size := by simp at hl; omega
    simp only [storeCells, Sem.run_bind]
    rw [addr_add, run_store P w _ v .plain (hv v (by simp)), cell_at h]
    have hs : arr[o + i]? = some arr[o + i] := by simp [hlt]
    rw [hs]
    have hfz : w.frozen? ⟨b, o + i, none⟩ = false := by simp [World.frozen?, h]
    simp only [hfz, Bool.false_eq_true, if_false, Result.andThen_ok]
    rw [setCell_eq h]
    have h' := setBlock_same (o := .cells (arr.setIfInBounds (o + i) v) T (0, 0)) h
    rw [run_storeCells vs (i + 1) h' (fun u hu => hv u (by simp [hu])) (by simp at hl ⊢; omega), setBlock_setBlock]
    congr 3
    rw [Array.toList_setIfInBounds, ← Nat.add_assoc o i 1, paste_set _ _ _ _ (by simpa using hlt)]
end mem
end Am
end Go.Proofs.YtbdnfkmcfencdaaGreatDoor
/- The abstract machine is sound, operation by operation (a variable is loaded). No condition. -/
namespace Go.Proofs.YtbdnfkmcfencdaaGreatDoor
namespace Am
open Go

theorem RepEs.get {E : Env} {z : Nat} : ∀ {es : List (List AV)} {xs : List Value} {i : Nat} {e : List AV}, RepEs E z es xs → es[i]? = some e →
    e.length = z ∧ RepVs E e ((xs.drop (i * z)).take z)
  | a :: es, xs, 0, e, h, k => by simp only [RepEs] at h; simp at k; subst k; simpa using ⟨h.1, h.2.1⟩
  | a :: es, xs, i + 1, e, h, k => by
    simp only [RepEs] at h
    have := RepEs.get h.2.2 (i := i) (e := e) (by simpa using k)
    rw [List.drop_drop] at this
    rw [Nat.succ_mul, Nat.add_comm (i * z) z]
    exact this
  | [], _, _, _, _, k => by simp at k
theorem getElem?_part {l : List Value} {o n j : Nat} {v : Value} (h : ((l.drop o).take n)[j]? = some v) : l[o + j]? = some v := by
  rw [List.getElem?_take] at h
  split at h
  · rwa [List.getElem?_drop] at h
  · cases h

section
variable {P : Program} {G : Nat → Option (List Value)} {M : Md P G} {L : Nat → Prop} {X : Ctx} {E : Env} {own : Nat → List Nat} {ρ : Regs} {H : Heap} {d : Dx} {a : Act} {w : World}
/-- The block of a box. -/
theorem Rel.box (r : Rel G L E own ρ H d a w) {k b : Nat} {cs : List AV} (e : H[k]? = some (.box cs)) (hb : E.loc k = .blk b) :
    ∃ arr T, own k = [b] ∧ w.heap[b]? = some (.cells arr T (0, 0)) ∧ okCells cs = true ∧ RepVs E cs arr.toList := by
  have h := r.heap.obj k _ e
  simp only [RepO, hb] at h
  obtain ⟨_, arr, T, B', h1, h2, h3⟩ := h
  have ho := r.laid k cs e
  obtain ⟨rfl, h4⟩ := RepCs.ok ho h3
  exact ⟨arr, T, h1, h2, ho, h4⟩
theorem Rel.arr (r : Rel G L E own ρ H d a w) {k b z : Nat} {es : List (List AV)} (e : H[k]? = some (.arr z es)) (hb : E.loc k = .blk b) :
    ∃ arr T, own k = [b] ∧ w.heap[b]? = some (.cells arr T (0, 0)) ∧ arr.size = E.tot k * z ∧ es.length = E.n k ∧ E.n k ≤ E.tot k ∧ E.z k = z ∧ RepEl E z es arr := by
  have h := r.heap.obj k _ e
  simp only [RepO, hb] at h
  exact h
theorem Rel.map (r : Rel G L E own ρ H d a w) {k b : Nat} {kv : List (Value × AV)} (e : H[k]? = some (.map kv)) (hb : E.loc k = .blk b) :
    ∃ ents clock, own k = [b] ∧ w.heap[b]? = some (.map ents clock) ∧ RepKv E kv ents.toList := by
  have h := r.heap.obj k _ e
  simp only [RepO, hb] at h
  exact h
theorem load_inv (r : Rel G L E own ρ H d a w) (hT : Agree P X.T) (hG : SubG X.G G) {t : Nat} {x : AV} {c : Value} (hc : RepV E x c) {K : AV → Prop} (h : loadK (propSig M) X t x H K) :
    ∃ y v, K y ∧ RepV E y v ∧ (Instr.loadAt t c).run P w = .ok v w := by
  obtain ⟨i, h, ht⟩ := tiK_inv hT h
  have fin : ∀ {cs : List AV} {xs : List Value} {off b base : Nat} {arr : Array Value} {T : TypeId} {fr : Nat × Nat}, partK (propSig M) i cs off K → RepVs E cs xs →
      w.heap[b]? = some (.cells arr T fr) → (∀ (j : Nat) v, xs[j]? = some v → arr[base + j]? = some v) → c = .pointer (some ⟨b, base + off, none⟩) →
      ∃ y v, K y ∧ RepV E y v ∧ (Instr.loadAt t c).run P w = .ok v w := by
    intro cs xs off b base arr T fr h hx hb hxs e
    obtain ⟨y, h, hy⟩ := partK_inv h hx
    subst e
    rcases hy with ⟨ha, hl, hr⟩ | ⟨ha, v, hv, hr⟩
    · exact ⟨y, _, h, hr, run_load_part ht hb hxs rfl (.inl ⟨ha, hl, rfl⟩)⟩
    · exact ⟨y, v, h, hr, run_load_part ht hb hxs rfl (.inr ⟨ha, hv⟩)⟩
  cases x with
  | ref k off =>
    obtain ⟨cs, e, h⟩ := boxK_inv h
    obtain ⟨b, hb, rfl⟩ := hc
    obtain ⟨arr, T, _, h1, _, h2⟩ := r.box e hb
    exact fin (base := 0) h h2 h1 (fun j v e => by simpa using e) (by simp)
  | aptr k i' off =>
    obtain ⟨z, es, e, h⟩ := arrK_inv h
    obtain ⟨cs, he, h⟩ := elem_inv h
    obtain ⟨b, hb, rfl⟩ := hc
    obtain ⟨arr, T, _, h1, _, _, _, hz, h2⟩ := r.arr e hb
    obtain ⟨_, h3⟩ := RepEs.get h2.2 he
    exact fin (base := i' * z) h h3 h1 (fun j v e => by simpa using getElem?_part e) (by rw [hz])
  | eptr cs off =>
    obtain ⟨b, o, arr, T, fr, rfl, _, hg, _, h2⟩ := hc
    exact fin (base := o) h h2 (r.ok.mem b _ hg) (fun j v e => by simpa using getElem?_part e) rfl
  | glob g off =>
    obtain rfl := hc
    have h : (match X.G g with | some vs => partK (propSig M) i (vs.map .v) off K | none => False) := h
    split at h
    · rename_i vs e
      obtain ⟨hp, arr, T, fr, h1, h2⟩ := r.glob g vs (hG g vs e)
      exact fin (base := 0) h (plains_rep hp) (r.ok.mem g _ h1) (fun j v e => by rw [← h2] at e; simpa using e) (by simp)
    · exact h.elim
  | _ => exact h.elim
theorem load_lands (r : Rel G L E own ρ H d a w) (hT : Agree P X.T) (hG : SubG X.G G) {K : VK Prop} {t : Nat} {x : Operand} (hx : Vis L x) (h : loadO (propSig M) X ρ H d K t x) :
    Lands0 E w ρ H d K ((do pure (.value (← Instr.loadAt t (a.eval x))) : Sem Next).run P w) := by
  obtain ⟨y, h, hy⟩ := evalK_inv r hx h
  obtain ⟨u, v, h, hu, e⟩ := load_inv r hT hG hy h
  exact Lands0.value r h hu (by simp [e])
end
end Am
end Go.Proofs.YtbdnfkmcfencdaaGreatDoor
/- The abstract machine is sound: an array of one's own becomes a pure list. No condition. -/
namespace Go.Proofs.YtbdnfkmcfencdaaGreatDoor
namespace Am
open Go

theorem RepEs.drop {E : Env} {z : Nat} : ∀ (n : Nat) {es : List (List AV)} {xs : List Value}, RepEs E z es xs → RepEs E z (es.drop n) (xs.drop (n * z))
  | 0, _, _, h => by simpa using h
  | n + 1, [], _, _ => by simp [RepEs]
  | n + 1, e :: es, xs, h => by
    simp only [RepEs] at h
    have := RepEs.drop n h.2.2
    rw [List.drop_drop] at this
    rw [Nat.succ_mul, Nat.add_comm (n * z) z]
    exact this
theorem RepEs.take {E : Env} {z : Nat} : ∀ (n : Nat) {es : List (List AV)} {xs : List Value}, RepEs E z es xs → RepEs E z (es.take n) xs
  | 0, _, _, _ => by simp [RepEs]
  | n + 1, [], _, _ => by simp [RepEs]
  | n + 1, e :: es, xs, h => by
    simp only [RepEs, List.take_succ_cons] at h ⊢
    exact ⟨h.1, h.2.1, RepEs.take n h.2.2⟩
theorem pureEs_drop : ∀ (n : Nat) {es : List (List AV)}, pureEs es = true → pureEs (es.drop n) = true
  | 0, _, h => by simpa using h
  | n + 1, [], _ => by simp [pureEs]
  | n + 1, e :: es, h => by simp only [pureEs, Bool.and_eq_true] at h; simpa using pureEs_drop n h.2
theorem pureEs_take : ∀ (n : Nat) {es : List (List AV)}, pureEs es = true → pureEs (es.take n) = true
  | 0, _, h => by simp [pureEs]
  | n + 1, [], _ => by simp [pureEs]
  | n + 1, e :: es, h => by simp only [pureEs, Bool.and_eq_true, List.take_succ_cons] at h ⊢; exact ⟨h.1, pureEs_take n h.2⟩
theorem pureEs_get : ∀ {es : List (List AV)} {i : Nat} {e : List AV}, pureEs es = true → es[i]? = some e → pureAVs e = true
  | a :: es, 0, e, h, k => by simp only [pureEs, Bool.and_eq_true] at h; simp at k; subst k; exact h.1.1
  | a :: es, i + 1, e, h, k => by simp only [pureEs, Bool.and_eq_true] at h; exact pureEs_get h.2 (by simpa using k)
  | [], _, _, _, k => by simp at k
theorem pureEs_ok : ∀ {es : List (List AV)} {i : Nat} {e : List AV}, pureEs es = true → es[i]? = some e → okCells e = true
  | a :: es, 0, e, h, k => by simp only [pureEs, Bool.and_eq_true] at h; simp at k; subst k; exact h.1.2
  | a :: es, i + 1, e, h, k => by simp only [pureEs, Bool.and_eq_true] at h; exact pureEs_ok h.2 (by simpa using k)
  | [], _, _, _, k => by simp at k

/-- What is said of an array that was frozen: its values stand for what the array's did. -/
structure Froze (E E' : Env) (k z : Nat) (es : List (List AV)) : Prop where
  le : E.Le E'
  arr : (E.loc k = .void ∧ es = []) ∨ ∃ b a T fr, E.loc k = .blk b ∧ E'.im b ∧ E'.Γ b = some (.cells a T fr) ∧ es.length = E.n k ∧ E.n k ≤ E.tot k ∧ E.z k = z ∧ pureEs es = true ∧ RepEs E' z es a.toList
mutual
theorem RepV.subst {E E' : Env} {k z : Nat} {es : List (List AV)} (h : Froze E E' k z es) : ∀ {x : AV} {c : Value}, RepV E x c → RepV E' (substAV k z es x) c
  | .ar j, c, r => by
    simp only [substAV]
    by_cases e : j = k
    · subst e
      simp only [Nat.beq_refl, cond_true]
      rcases r with ⟨b, hb, rfl⟩ | ⟨hb, a, rfl⟩
      · rcases h.arr with ⟨h1, _⟩ | ⟨b', a, T, fr, h1, h2, h3, h4, h5, h6, h7, h8⟩
        · rw [h1] at hb; cases hb
        · rw [h1] at hb; cases hb
          exact ⟨_, _, by rw [h4], by omega, .inr ⟨b, 0, a, T, fr, rfl, h2, h3, h7, by simpa using h8⟩⟩
      · rcases h.arr with ⟨h1, h2⟩ | ⟨b', a, T, fr, h1, _⟩
        · subst h2; exact ⟨a, 0, rfl, Nat.le_refl _, .inl rfl⟩
        · rw [h1] at hb; cases hb
    · have : Nat.beq j k = false := by rw [← Bool.not_eq_true, Nat.beq_eq]; exact e
      rw [this]
      exact RepV.mono h.le r
  | .sl j lo len, c, r => by
    simp only [substAV]
    by_cases e : j = k
    · subst e
      simp only [Nat.beq_refl, cond_true]
      rcases r with ⟨b, o, hb, hl, rfl, ho⟩ | ⟨hb, rfl, rfl, a, rfl⟩
      · rcases h.arr with ⟨h1, _⟩ | ⟨b', a, T, fr, h1, h2, h3, h4, h5, h6, h7, h8⟩
        · rw [h1] at hb; cases hb
        · rw [h1] at hb; cases hb
          have hlen : ((es.drop lo).take len).length = len := by simp; omega
          refine ⟨_, _, by rw [hlen], by rw [hlen]; omega, ?_⟩
          cases len with
          | zero => left; simp
          | succ m =>
            right
            have : o = lo * E.z j := ho.resolve_right (by omega)
            rw [h6] at this
            subst this
            exact ⟨b, lo * z, a, T, fr, rfl, h2, h3, pureEs_take _ (pureEs_drop _ h7), (h8.drop lo).take _⟩
      · exact ⟨a, 0, by simp, by simp, .inl (by simp)⟩
    · have : Nat.beq j k = false := by rw [← Bool.not_eq_true, Nat.beq_eq]; exact e
      rw [this]
      exact RepV.mono h.le r
  | .aptr j i off, c, r => by
    simp only [substAV]
    by_cases e : j = k
    · subst e
      simp only [Nat.beq_refl, cond_true]
      obtain ⟨b, hb, rfl⟩ := r
      rcases h.arr with ⟨h1, _⟩ | ⟨b', a, T, fr, h1, h2, h3, h4, h5, h6, h7, h8⟩
      · rw [h1] at hb; cases hb
      · rw [h1] at hb; cases hb
        unfold elemPtr
        split
        · rename_i cs hcs
          have := h8.get hcs
          exact ⟨b, i * z, a, T, fr, by rw [h6], h2, h3, pureEs_get h7 hcs, by rw [this.1]; exact this.2⟩
        · exact ⟨b, 0, a, T, fr, by rw [h6]; simp, h2, h3, rfl, by simp [RepVs]⟩
    · have : Nat.beq j k = false := by rw [← Bool.not_eq_true, Nat.beq_eq]; exact e
      rw [this]
      exact RepV.mono h.le r
  | .agg cs, _, r => by obtain ⟨xs, e, q⟩ := r; exact ⟨xs, e, RepVs.subst h q⟩
  | .tup cs, _, r => by obtain ⟨xs, e, q⟩ := r; exact ⟨xs, e, RepVs.subst h q⟩
  | .fn f cs, _, r => by obtain ⟨xs, e, q⟩ := r; exact ⟨xs, e, RepVs.subst h q⟩
  | .iface t x, _, r => by obtain ⟨y, e, q⟩ := r; exact ⟨y, e, RepV.subst h q⟩
  | .v x, c, r => RepV.mono (x := .v x) h.le r
  | .imm z es, c, r => RepV.mono (x := .imm z es) h.le r
  | .mt, c, r => RepV.mono (x := .mt) h.le r
  | .eptr cs off, c, r => RepV.mono (x := .eptr cs off) h.le r
  | .ref k off, c, r => RepV.mono (x := .ref k off) h.le r
  | .mp k, c, r => RepV.mono (x := .mp k) h.le r
  | .it k, c, r => RepV.mono (x := .it k) h.le r
  | .glob g off, c, r => RepV.mono (x := .glob g off) h.le r
  | .undef, c, _ => trivial
  | .own _ _, c, r => r.elim
  | .omap _, c, r => r.elim
theorem RepVs.subst {E E' : Env} {k z : Nat} {es : List (List AV)} (h : Froze E E' k z es) : ∀ {l : List AV} {m : List Value}, RepVs E l m → RepVs E' (substAVs k z es l) m
  | [], [], _ => trivial
  | _ :: _, _ :: _, r => by simp only [RepVs, substAVs] at r ⊢; exact ⟨RepV.subst h r.1, RepVs.subst h r.2⟩
  | [], _ :: _, r => by simp [RepVs] at r
  | _ :: _, [], r => by simp [RepVs] at r
end
theorem okCell_subst {k z : Nat} {es : List (List AV)} {x : AV} (h : okCell x = true) : okCell (substAV k z es x) = true := by
  cases x with
  | ar j => simp only [substAV]; cases Nat.beq j k <;> rfl
  | sl j lo len => simp only [substAV]; cases Nat.beq j k <;> rfl
  | aptr j i off =>
    simp only [substAV, elemPtr]
    cases Nat.beq j k
    · rfl
    · simp only [cond_true]; split <;> rfl
  | agg cs => simp [okCell] at h
  | tup cs => simp [okCell] at h
  | undef => simp [okCell] at h
  | own z es => simp [okCell] at h
  | omap kv => simp [okCell] at h
  | _ => rfl
theorem okCells_subst {k z : Nat} {es : List (List AV)} : ∀ {l : List AV}, okCells l = true → okCells (substAVs k z es l) = true
  | [], _ => rfl
  | x :: l, h => by
    simp only [okCells, substAVs, Bool.and_eq_true] at h ⊢
    exact ⟨okCell_subst h.1, okCells_subst h.2⟩
theorem substRegs_get (k z : Nat) (es : List (List AV)) (ρ : Regs) (r : Nat) : (substRegs k z es ρ).get r = substAV k z es (ρ.get r) := by
  induction ρ with
  | nil => rfl
  | cons i x l ih =>
    simp only [substRegs, Regs.get]
    split
    · rfl
    · exact ih
mutual
theorem RepV.arrs {E : Env} : ∀ {x : AV} {c : Value}, RepV E x c → ∀ k ∈ arrsAV x, E.loc k ≠ .absent
  | .ar j, c, r, k, hk => by
    simp [arrsAV] at hk; subst hk
    rcases r with ⟨b, hb, _⟩ | ⟨hb, _⟩ <;> simp [hb]
  | .sl j lo len, c, r, k, hk => by
    simp [arrsAV] at hk; subst hk
    rcases r with ⟨b, _, hb, _⟩ | ⟨hb, _⟩ <;> simp [hb]
  | .agg cs, _, r, k, hk => by obtain ⟨xs, e, q⟩ := r; exact RepVs.arrs q k hk
  | .tup cs, _, r, k, hk => by obtain ⟨xs, e, q⟩ := r; exact RepVs.arrs q k hk
  | .iface t x, _, r, k, hk => by obtain ⟨y, e, q⟩ := r; exact RepV.arrs q k hk
  | .fn f cs, _, r, k, hk => by simp [arrsAV] at hk
  | .v x, c, r, k, hk => by simp [arrsAV] at hk
  | .imm z es, c, r, k, hk => by simp [arrsAV] at hk
  | .mt, c, r, k, hk => by simp [arrsAV] at hk
  | .eptr cs off, c, r, k, hk => by simp [arrsAV] at hk
  | .ref _ off, c, r, k, hk => by simp [arrsAV] at hk
  | .aptr _ _ off, c, r, k, hk => by simp [arrsAV] at hk
  | .mp _, c, r, k, hk => by simp [arrsAV] at hk
  | .it _, c, r, k, hk => by simp [arrsAV] at hk
  | .glob g off, c, r, k, hk => by simp [arrsAV] at hk
  | .undef, c, _, k, hk => by simp [arrsAV] at hk
  | .own _ _, c, r, k, hk => r.elim
  | .omap _, c, r, k, hk => r.elim
theorem RepVs.arrs {E : Env} : ∀ {l : List AV} {m : List Value}, RepVs E l m → ∀ k ∈ arrsAVs l, E.loc k ≠ .absent
  | [], [], _, k, hk => by simp [arrsAVs] at hk
  | x :: l, y :: m, r, k, hk => by
    simp only [RepVs] at r
    simp only [arrsAVs, List.mem_append] at hk
    exact hk.elim (RepV.arrs r.1 k) (RepVs.arrs r.2 k)
  | [], _ :: _, r, _, _ => by simp [RepVs] at r
  | _ :: _, [], r, _, _ => by simp [RepVs] at r
end

section
variable {P : Program} {G : Nat → Option (List Value)} {M : Md P G} {L : Nat → Prop} {X : Ctx} {E : Env} {own : Nat → List Nat} {ρ : Regs} {H : Heap} {d : Dx} {a : Act} {w : World}
theorem subst_get {k z : Nat} {es : List (List AV)} {j : Nat} {o : AObj} (h : ((H.set k .dead).map (substObj k z es))[j]? = some o) :
    (j = k ∧ o = .dead) ∨ (j ≠ k ∧ ∃ p, H[j]? = some p ∧ o = substObj k z es p) := by
  rw [List.getElem?_map] at h
  by_cases e : j = k
  · subst e
    left
    by_cases hl : j < H.length
    · rw [List.getElem?_set_self hl] at h; simp [substObj] at h; exact ⟨rfl, h.symm⟩
    · rw [List.getElem?_eq_none (by simp; omega)] at h; simp at h
  · right
    rw [List.getElem?_set_ne (Ne.symm e)] at h
    cases hj : H[j]? with
    | none => rw [hj] at h; simp at h
    | some p => rw [hj] at h; simp at h; exact ⟨e, p, rfl, h.symm⟩
/-- One array becomes a pure list. -/
theorem Rel.frozen (r : Rel G L E own ρ H d a w) {k z : Nat} {es : List (List AV)} (e : H[k]? = some (.arr z es)) (hk : E.loc k ≠ .absent) :
    ∃ E' own', Rel G L E' own' (substRegs k z es ρ) ((H.set k .dead).map (substObj k z es)) d a w ∧ Froze E E' k z es ∧ Goes E w E' w := by
  have ho := r.heap.obj k _ e
  -- the new memory
  have mk : ∃ E', Froze E E' k z es ∧ Goes E w E' w ∧ E'.loc = E.loc ∧ E'.n = E.n ∧ E'.tot = E.tot ∧ E'.z = E.z ∧ E'.Ok w ∧ (∀ b, E'.Γ b ≠ none → E.Γ b ≠ none ∨ b ∈ own k) := by
    cases hl : E.loc k with
    | absent => exact absurd hl hk
    | void =>
      simp only [RepO, hl] at ho
      exact ⟨E, ⟨.refl E, .inl ⟨hl, ho.2.1⟩⟩, .refl E w, rfl, rfl, rfl, rfl, r.ok, fun b hb => .inl hb⟩
    | blk b =>
      obtain ⟨arr, T, h1, h2, h3, h4, h5, h6, h7⟩ := r.arr e hl
      have hf := r.heap.free k b (by rw [h1]; simp)
      let E' : Env := { E with Γ := fun c => if c = b then some (.cells arr T (0, 0)) else E.Γ c, im := fun c => E.im c ∨ c = b }
      have hle : E.Le E' := ⟨fun c o hc => by
        have : c ≠ b := fun e => by rw [e, hf.1] at hc; cases hc
        simp [E', this, hc], fun c hc => .inl hc, fun _ _ => ⟨rfl, rfl, rfl, rfl⟩⟩
      refine ⟨E', ⟨hle, .inr ⟨b, arr, T, (0, 0), hl, .inr rfl, by simp [E'], h4, h5, h6, h7.1, (RepEs.mono hle h7.2)⟩⟩, ⟨hle, fun c hc => ?_, .refl w⟩, rfl, rfl, rfl, rfl, ⟨fun c o hc => ?_, fun c hc => ?_, fun c o hc => ?_⟩, fun c hc => ?_⟩
      · rcases hc with hc | rfl
        · exact .inl hc
        · exact .inr hf.1
      · by_cases e : c = b
        · subst e; simp [E'] at hc; subst hc; exact h2
        · simp [E', e] at hc; exact r.ok.mem c o hc
      · by_cases e : c = b
        · subst e; simp [E']
        · have hc' : E.im c := hc.resolve_right e
          simp only [E', e, if_false]
          exact r.ok.im c hc'
      · by_cases e : c = b
        · subst e; simp [E'] at hc; subst hc; rfl
        · simp [E', e] at hc; exact r.ok.norec c o hc
      · by_cases e : c = b
        · subst e; right; rw [h1]; simp
        · simp only [E', e, if_false] at hc; exact .inl hc
  obtain ⟨E', hfz, hgo, hl, hn, ht, hz, hok, hΓ⟩ := mk
  refine ⟨E', fun j => if j = k then [] else own j, ⟨fun i hi => ?_, ⟨fun j o ej => ?_, fun j hj => ?_, fun j => ?_, fun i j b hij hb => ?_, fun j b hb => ?_⟩, hok, fun g vs eg => ?_, r.defs.mono hfz.le, fun j cs ej => ?_⟩, hfz, hgo⟩
  · rw [substRegs_get]; exact (r.regs i hi).subst hfz
  · rcases subst_get ej with ⟨rfl, rfl⟩ | ⟨hne, p, hp, rfl⟩
    · simp [RepO]
    · simp only [hne, if_false]
      have hr := r.heap.obj j p hp
      by_cases hab : E.loc j = .absent
      · cases p <;> simp only [substObj, RepO, hl, hab] at hr ⊢ <;> first | exact hr | exact ⟨okCells_O (okCells_subst (r.laid j _ hp)), hr.2⟩
      · cases p with
        | box cs =>
          simp only [substObj, RepO, hl]
          cases hj : E.loc j with
          | absent => exact absurd hj hab
          | void => simp only [RepO, hj] at hr; exact hr.2.elim
          | blk b =>
            obtain ⟨arr, T, h1, h2, h3, h4⟩ := r.box hp hj
            exact ⟨okCells_O (okCells_subst h3), arr, T, [], h1, h2, RepCs.mk (okCells_subst h3) (h4.subst hfz)⟩
        | _ => exact hr.frame hfz.le hab fun _ _ => rfl
  · have := r.heap.beyond j (by simpa using hj)
    refine ⟨by rw [hl]; exact this.1, ?_⟩
    split
    · rfl
    · exact this.2
  · split
    · exact List.nodup_nil
    · exact r.heap.nodup j
  · by_cases hi : i = k
    · simp [hi] at hb
    · simp only [hi, if_false] at hb
      by_cases hj : j = k
      · simp [hj]
      · simp only [hj, if_false]; exact r.heap.apart i j b hij hb
  · by_cases hj : j = k
    · simp [hj] at hb
    · simp only [hj, if_false] at hb
      have := r.heap.free j b hb
      refine ⟨?_, this.2⟩
      cases hb' : E'.Γ b with
      | none => rfl
      | some o =>
        rcases hΓ b (by rw [hb']; simp) with h1 | h1
        · exact absurd this.1 h1
        · exact absurd hb (r.heap.apart k j b (Ne.symm hj) h1)
  · obtain ⟨hp, arr, T, fr, e1, e2⟩ := r.glob g vs eg
    exact ⟨hp, arr, T, fr, hfz.le.Γ _ _ e1, e2⟩
  · rcases subst_get ej with ⟨rfl, h⟩ | ⟨hne, p, hp, h⟩
    · cases h
    · cases p <;> simp [substObj] at h
      subst h
      exact okCells_subst (r.laid j _ hp)
theorem frzK_inv : ∀ (ks : List Nat) {E : Env} {own : Nat → List Nat} {ρ : Regs} {H : Heap} {xs : List AV} {cs : List Value} {K : List AV → Regs → Heap → Prop},
    Rel G L E own ρ H d a w → (∀ k ∈ ks, E.loc k ≠ .absent) → RepVs E xs cs → frzK (propSig M) ρ H ks xs K →
    ∃ E' own' ρ' H' xs', K xs' ρ' H' ∧ Rel G L E' own' ρ' H' d a w ∧ RepVs E' xs' cs ∧ Goes E w E' w ∧ H'.length = H.length
  | [], E, own, ρ, H, xs, cs, K, r, _, hx, h => ⟨E, own, ρ, H, xs, h, r, hx, .refl E w, rfl⟩
  | k :: ks, E, own, ρ, H, xs, cs, K, r, hk, hx, h => by
    obtain ⟨o, e, h⟩ := objK_inv (G := G) (P := P) h
    cases o with
    | arr z es =>
      have h : setK H k .dead (fun H => mapK (substObjK k z es) H fun H => substRegsK k z es ρ fun ρ => forces (substAVs k z es xs) fun xs => frzK (propSig M) ρ H ks xs K) := h
      rw [setK_eq, mapK_eq _ (substObj k z es) (fun _ _ => substObjK_eq' _ _ _ _ _), substRegsK_eq, forces_eq] at h
      obtain ⟨E1, own1, r1, hf, hg⟩ := r.frozen e (hk k (by simp))
      obtain ⟨E2, own2, ρ2, H2, xs2, h2, r2, hx2, hg2, hl⟩ := frzK_inv ks r1 (fun j hj => by rw [(hf.le.loc j (hk j (by simp [hj]))).1]; exact hk j (by simp [hj])) (hx.subst hf) h
      exact ⟨E2, own2, ρ2, H2, xs2, h2, r2, hx2, hg.trans hg2, by rw [hl]; simp⟩
    | dead => exact frzK_inv ks r (fun j hj => hk j (by simp [hj])) hx h
    | _ => exact h.elim
theorem freezeK_inv (r : Rel G L E own ρ H d a w) {xs : List AV} {cs : List Value} (hx : RepVs E xs cs) {K : List AV → Regs → Heap → Prop} (h : freezeK (propSig M) ρ H xs K) :
    ∃ E' own' ρ' H' xs', K xs' ρ' H' ∧ Rel G L E' own' ρ' H' d a w ∧ RepVs E' xs' cs ∧ Goes E w E' w ∧ H'.length = H.length :=
  frzK_inv _ r hx.arrs hx h
end
end Am
end Go.Proofs.YtbdnfkmcfencdaaGreatDoor
/- The abstract machine is sound, operation by operation (a variable is written). No condition. -/
namespace Go.Proofs.YtbdnfkmcfencdaaGreatDoor
namespace Am
open Go

theorem paste_get {α : Type} {l p : List α} {n : Nat} (h : n + p.length ≤ l.length) (j : Nat) :
    (paste l n p)[j]? = if j < n then l[j]? else if j < n + p.length then p[j - n]? else l[j]? := by
  unfold paste
  by_cases h1 : j < n
  · rw [if_pos h1, List.append_assoc, List.getElem?_append_left (by simp; omega), List.getElem?_take, if_pos h1]
  · rw [if_neg h1]
    by_cases h2 : j < n + p.length
    · rw [if_pos h2, List.append_assoc, List.getElem?_append_right (by simp; omega), List.getElem?_append_left (by simp; omega)]
      congr 1; simp; omega
    · rw [if_neg h2, List.getElem?_append_right (by simp; omega), List.getElem?_drop]
      congr 1; simp; omega
theorem paste_take {α : Type} {l p : List α} {n z : Nat} (h : n + p.length ≤ z) (hz : z ≤ l.length) : (paste l n p).take z = paste (l.take z) n p := by
  apply List.ext_getElem?
  intro j
  rw [List.getElem?_take, paste_get (by omega), paste_get (by simp; omega), List.getElem?_take]
  by_cases hj : j < z
  · simp [hj]
  · have h1 : ¬ j < n := by omega
    have h2 : ¬ j < n + p.length := by omega
    simp [hj, h1, h2]
theorem paste_drop {α : Type} {l p : List α} {n z : Nat} (h : n + p.length ≤ z) (hz : z ≤ l.length) : (paste l n p).drop z = l.drop z := by
  apply List.ext_getElem?
  intro j
  rw [List.getElem?_drop, paste_get (by omega), List.getElem?_drop, if_neg (by omega), if_neg (by omega)]
theorem paste_take_lt {α : Type} {l p : List α} {n z : Nat} (h : z ≤ n) (hz : n + p.length ≤ l.length) : (paste l n p).take z = l.take z := by
  apply List.ext_getElem?
  intro j
  rw [List.getElem?_take, paste_get (by omega), List.getElem?_take]
  by_cases hj : j < z
  · have : j < n := by omega
    simp [hj, this]
  · simp [hj]
theorem paste_drop_lt {α : Type} {l p : List α} {n z : Nat} (hz : z + n + p.length ≤ l.length) : (paste l (z + n) p).drop z = paste (l.drop z) n p := by
  apply List.ext_getElem?
  intro j
  rw [List.getElem?_drop, paste_get (by omega), paste_get (by simp; omega), List.getElem?_drop]
  by_cases h1 : j < n
  · rw [if_pos h1, if_pos (by omega)]
  · rw [if_neg h1, if_neg (by omega)]
    by_cases h2 : j < n + p.length
    · rw [if_pos h2, if_pos (by omega)]; congr 1; omega
    · rw [if_neg h2, if_neg (by omega)]
theorem RepVs.paste {E : Env} {l p : List AV} {m q : List Value} (n : Nat) (h : RepVs E l m) (k : RepVs E p q) : RepVs E (paste l n p) (paste m n q) := by
  unfold Am.paste
  rw [← k.length]
  exact ((h.take n).append k).append (h.drop (n + p.length))
theorem pasteK_inv {α : Type} {l p : List α} {n : Nat} {K : List α → Prop} (h : pasteK l n p False K) : (p = [] ∨ n + p.length ≤ l.length) ∧ K (paste l n p) := by
  cases p with
  | nil => rw [pasteK_nil] at h; exact ⟨.inl rfl, by simpa [paste] using h⟩
  | cons y q =>
    rcases Nat.lt_or_ge l.length (n + (y :: q).length) with h1 | h1
    · rw [pasteK_none l n (y :: q) False K h1 (by simp)] at h; exact h.elim
    · rw [pasteK_some l n (y :: q) False K h1] at h; exact ⟨.inr h1, h⟩
theorem paste_nil {α : Type} (l : List α) (n : Nat) : paste l n [] = l := by simp [paste]
theorem RepEs.size {E : Env} {z : Nat} : ∀ {es : List (List AV)} {xs : List Value}, RepEs E z es xs → es.length * z ≤ xs.length
  | [], _, _ => by simp
  | e :: es, xs, h => by
    simp only [RepEs] at h
    have h1 := RepEs.size h.2.2
    have h2 := h.2.1.length
    rw [h.1] at h2
    simp at h1 h2
    rw [List.length_cons, Nat.succ_mul]
    omega
theorem RepEs.bound {E : Env} {z : Nat} {es : List (List AV)} {xs : List Value} {i : Nat} {e : List AV} (h : RepEs E z es xs) (k : es[i]? = some e) : i * z + z ≤ xs.length := by
  have hi : i < es.length := (List.getElem?_eq_some_iff.1 k).1
  have h1 := h.size
  have h2 := Nat.mul_le_mul_right z hi
  rw [Nat.succ_mul] at h2
  omega
theorem RepEs.paste {E : Env} {z : Nat} : ∀ {es : List (List AV)} {xs : List Value} {i : Nat} {cs ys : List AV} {vs : List Value} {off : Nat}, RepEs E z es xs → es[i]? = some cs →
    RepVs E ys vs → off + ys.length ≤ cs.length → RepEs E z (es.set i (Am.paste cs off ys)) (Am.paste xs (i * z + off) vs)
  | a :: es, xs, 0, cs, ys, vs, off, h, k, hy, hl => by
    simp at k; subst k
    simp only [RepEs, List.set_cons_zero] at h ⊢
    have h2 := h.2.1.length
    simp at h2
    have hv := hy.length
    rw [Nat.zero_mul, Nat.zero_add]
    refine ⟨by rw [paste_length _ _ _ hl]; exact h.1, ?_, ?_⟩
    · rw [paste_take (by omega) (by omega)]
      exact h.2.1.paste off hy
    · rw [paste_drop (by omega) (by omega)]
      exact h.2.2
  | a :: es, xs, i + 1, cs, ys, vs, off, h, k, hy, hl => by
    simp only [RepEs, List.set_cons_succ] at h ⊢
    have h0 := h.1
    have h2 := h.2.1.length
    simp at h2
    have hv := hy.length
    have hg := RepEs.get h.2.2 (i := i) (e := cs) (by simpa using k)
    have hb := RepEs.bound h.2.2 (i := i) (e := cs) (by simpa using k)
    rw [List.length_drop] at hb
    have hz := hg.1
    have e : (i + 1) * z + off = z + (i * z + off) := by rw [Nat.succ_mul]; omega
    rw [e]
    refine ⟨h.1, ?_, ?_⟩
    · rw [paste_take_lt (by omega) (by omega)]
      exact h.2.1
    · rw [paste_drop_lt (by omega)]
      exact RepEs.paste h.2.2 (by simpa using k) hy hl
  | [], _, _, _, _, _, _, _, k, _, _ => by simp at k
theorem pureAVs_append : ∀ {l m : List AV}, pureAVs (l ++ m) = (pureAVs l && pureAVs m)
  | [], _ => by simp [pureAVs]
  | x :: l, m => by simp [pureAVs, pureAVs_append, Bool.and_assoc]
theorem pureAVs_take : ∀ {l : List AV} (n : Nat), pureAVs l = true → pureAVs (l.take n) = true
  | _, 0, _ => by simp [pureAVs]
  | [], _ + 1, _ => by simp [pureAVs]
  | x :: l, n + 1, h => by simp only [pureAVs, Bool.and_eq_true, List.take_succ_cons] at h ⊢; exact ⟨h.1, pureAVs_take n h.2⟩
theorem pureAVs_drop : ∀ {l : List AV} (n : Nat), pureAVs l = true → pureAVs (l.drop n) = true
  | _, 0, h => by simpa using h
  | [], _ + 1, _ => by simp [pureAVs]
  | x :: l, n + 1, h => by simp only [pureAVs, Bool.and_eq_true] at h; simpa using pureAVs_drop n h.2
theorem pureEs_set : ∀ {es : List (List AV)} (i : Nat) {e : List AV}, pureEs es = true → pureAVs e = true → okCells e = true → pureEs (es.set i e) = true
  | [], _, _, _, _, _ => by simp [pureEs]
  | a :: es, 0, e, h, k, q => by simp only [pureEs, Bool.and_eq_true, List.set_cons_zero] at h ⊢; exact ⟨⟨k, q⟩, h.2⟩
  | a :: es, i + 1, e, h, k, q => by simp only [pureEs, Bool.and_eq_true, List.set_cons_succ] at h ⊢; exact ⟨h.1, pureEs_set i h.2 k q⟩
theorem pureAVs_cells {x : AV} (h : pureAV x = true) : pureAVs (cellsOf x) = true := by
  cases x <;> first | exact h | (simp only [cellsOf, pureAVs, h, Bool.and_true])
theorem okCells_append : ∀ {l m : List AV}, okCells (l ++ m) = (okCells l && okCells m)
  | [], _ => by simp [okCells]
  | x :: l, m => by simp [okCells, okCells_append, Bool.and_assoc]
theorem okCells_take : ∀ {l : List AV} (n : Nat), okCells l = true → okCells (l.take n) = true
  | _, 0, _ => by simp [okCells]
  | [], _ + 1, _ => by simp [okCells]
  | x :: l, n + 1, h => by simp only [okCells, Bool.and_eq_true, List.take_succ_cons] at h ⊢; exact ⟨h.1, okCells_take n h.2⟩
theorem okCells_drop : ∀ {l : List AV} (n : Nat), okCells l = true → okCells (l.drop n) = true
  | _, 0, h => by simpa using h
  | [], _ + 1, _ => by simp [okCells]
  | x :: l, n + 1, h => by simp only [okCells, Bool.and_eq_true] at h; simpa using okCells_drop n h.2
theorem okCells_paste {l p : List AV} (n : Nat) (h : okCells l = true) (k : okCells p = true) : okCells (paste l n p) = true := by
  unfold paste
  rw [okCells_append, okCells_append, okCells_take n h, k, okCells_drop _ h]; rfl
theorem pureAVs_paste {l p : List AV} (n : Nat) (h : pureAVs l = true) (k : pureAVs p = true) : pureAVs (paste l n p) = true := by
  unfold paste
  rw [pureAVs_append, pureAVs_append, pureAVs_take n h, k, pureAVs_drop _ h]; rfl

section
variable {P : Program} {G : Nat → Option (List Value)} {M : Md P G} {L : Nat → Prop} {X : Ctx} {E : Env} {own : Nat → List Nat} {ρ : Regs} {H : Heap} {d : Dx} {a : Act} {w : World}
/-- The block of an object is written. -/
theorem Rel.write (r : Rel G L E own ρ H d a w) {k b : Nat} (hb : own k = [b]) {o : AObj} {ob : Obj} (ho : RepO E (setBlock w b ob) k o [b]) (hl : ∀ cs, o = .box cs → okCells cs = true) :
    Rel G L E (fun j => if j = k then [b] else own j) ρ (H.set k o) d a (setBlock w b ob) ∧ Goes E w E (setBlock w b ob) := by
  have hf := r.heap.free k b (by rw [hb]; simp)
  have hs := beside_setBlock (w := w) b ob (r.heap.notRec (k := k) (by rw [hb]; simp))
  refine ⟨⟨r.regs, ?_, r.ok.world fun c hc => ?_, r.glob, r.defs, laid_set r.laid hl⟩, .refl E, fun _ h => .inl h, hs⟩
  · exact r.heap.set hs k o [b] (fun j c hj hc => setBlock_other fun e => by
      subst e; exact r.heap.apart j k c hj hc (by rw [hb]; simp)) ho (by simp) (by rw [hb]; simp)
  · exact setBlock_other fun e => hc (e ▸ hf.1)
theorem run_storeVar {t : Nat} {i : TI} (ht : TIs P t i) {b o : Nat} {arr : Array Value} {T : TypeId} (h : w.heap[b]? = some (.cells arr T (0, 0))) {v : Value}
    (hv : v.cells.toList.length = i.size) (hone : ∀ u ∈ v.cells.toList, u.oneCell' = true) (hl : v.cells.toList = [] ∨ o + v.cells.toList.length ≤ arr.size) :
    (Instr.storeAt t (.pointer (some ⟨b, o, none⟩)) v).run P w = .ok () (setBlock w b (.cells (paste arr.toList o v.cells.toList).toArray T (0, 0))) := by
  have hs : v.cells.size = i.size := by simpa using hv
  simp only [Instr.storeAt, Instr.sureAddr, Sem.run_bind, Sem.run_pure, Result.andThen_ok, storeVar, ht.run_sizeOf, hs, ne_eq, not_true, if_false]
  by_cases he : v.cells.toList = []
  · rw [he, paste_nil]
    simp only [storeCells, Sem.run_pure]
    rw [setBlock_id]
    simpa using h
  · exact run_storeCells v.cells.toList 0 h hone (by simpa using hl.resolve_left he)
theorem sizedK_inv {α : Type} {z size : Nat} {x : α} {K : α → Prop} (h : sizedK (propSig M) z size x K) : z = size ∧ K x := by
  obtain ⟨e, h⟩ := condF h
  exact ⟨Nat.eq_of_beq_eq_true e, h⟩
theorem store_lands (r : Rel G L E own ρ H d a w) (hT : Agree P X.T) {K : VK Prop} {t : Nat} {p x : Operand} (hp : Vis L p) (hx : Vis L x) (h : storeO (propSig M) X ρ H d K t p x) :
    Lands G L E a w K ((do Instr.storeAt t (a.eval p) (a.eval x); pure .skip : Sem Next).run P w) := by
  obtain ⟨u, h, hu⟩ := evalK_inv r hp h
  obtain ⟨y, h, hy⟩ := evalK_inv r hx h
  obtain ⟨i, h, ht⟩ := tiK_inv hT h
  generalize hcp : a.eval p = cp at hu
  generalize hcx : a.eval x = cx at hy
  cases u with
  | ref k off =>
    obtain ⟨cs, e, h⟩ := boxK_inv h
    obtain ⟨h, ho, hc⟩ := cellsK_inv h hy
    obtain ⟨hsz, h⟩ := sizedK_inv h
    obtain ⟨hl, h⟩ := pasteK_inv h
    rw [setK_eq] at h
    obtain ⟨b, hb, rfl⟩ := hu
    obtain ⟨arr, T, h1, h2, h3, h4⟩ := r.box e hb
    have hlen := hc.length
    have hal : cs.length = arr.size := by simpa using h4.length
    have hok := okCells_paste off h3 ho
    have hr := (h4.paste off hc)
    obtain ⟨r', hg⟩ := r.write h1 (o := .box (paste cs off (cellsOf y))) (ob := .cells (paste arr.toList off cx.cells.toList).toArray T (0, 0)) (by
      simp only [RepO, hb]
      exact ⟨okCells_O hok, _, T, [], rfl, setBlock_same h2, RepCs.mk hok (by simpa using hr)⟩) (fun cs e => by cases e; exact hok)
    refine ⟨_, ρ, _, d, E, _, a.defers, _, undef, h, r'.same, trivial, hg, .inr (.inl ⟨?_, rfl, rfl⟩)⟩
    rw [Sem.run_bind, run_storeVar ht h2 (by rw [← hlen]; exact hsz) (okCells_one ho hc) (by
      rcases hl with hl | hl
      · left; rw [hl] at hlen; exact List.length_eq_zero_iff.1 hlen.symm
      · right; omega)]
    rfl
  | aptr k e off =>
    obtain ⟨E1, own1, ρ1, H1, xs1, h, r1, hx1, hg1, _⟩ := freezeK_inv r (xs := [y]) (cs := [cx]) ⟨hy, trivial⟩ h
    obtain ⟨y1, l1, rfl, hy1, hl1⟩ : ∃ y1 l1, xs1 = y1 :: l1 ∧ RepV E1 y1 cx ∧ RepVs E1 l1 [] := by
      cases xs1 with
      | nil => simp [RepVs] at hx1
      | cons y1 l1 => simp only [RepVs] at hx1; exact ⟨y1, l1, rfl, hx1⟩
    have hu1 := RepV.mono hg1.le hu
    obtain ⟨hpu, h⟩ := condF h
    obtain ⟨h, ho, hc⟩ := cellsK_inv h hy1
    obtain ⟨hsz, h⟩ := sizedK_inv h
    obtain ⟨z, es, e1, h⟩ := arrK_inv h
    obtain ⟨cs, he, h⟩ := elem_inv h
    obtain ⟨hl, h⟩ := pasteK_inv h
    rw [setK_eq] at h
    obtain ⟨b, hb, rfl⟩ := hu1
    obtain ⟨arr, T, h1, h2, h3, h4, h5, h6, h7⟩ := r1.arr e1 hb
    have hlen := hc.length
    have hcs := h7.2.get he
    have hpc := pureEs_get h7.1 he
    have hsize := h7.2.bound he
    rw [Array.length_toList] at hsize
    have hfit : cx.cells.toList = [] ∨ e * z + off + cx.cells.toList.length ≤ arr.size := by
      rcases hl with hl | hl
      · left; rw [hl] at hlen; exact List.length_eq_zero_iff.1 hlen.symm
      · right
        have h8 := hcs.1
        omega
    have hrep : RepEl E1 z (es.set e (paste cs off (cellsOf y1))) (paste arr.toList (e * z + off) cx.cells.toList).toArray := by
      refine ⟨pureEs_set e h7.1 (pureAVs_paste off hpc (pureAVs_cells hpu)) (okCells_paste off (pureEs_ok h7.1 he) ho), ?_⟩
      rcases hl with hl | hl
      · have hv : cx.cells.toList = [] := by rw [hl] at hlen; exact List.length_eq_zero_iff.1 hlen.symm
        rw [hl, hv, paste_nil, paste_nil]
        have : es.set e cs = es := by
          apply List.ext_getElem?
          intro j
          rw [List.getElem?_set]
          split
          · rename_i hj; subst hj
            split
            · exact he.symm
            · rename_i hn; rw [List.getElem?_eq_none (by omega)]
          · rfl
        rw [this]
        exact h7.2
      · exact h7.2.paste he hc hl
    have hps : (paste arr.toList (e * z + off) cx.cells.toList).length = arr.size := by
      rcases hfit with hv | hv
      · rw [hv, paste_nil]; simp
      · rw [paste_length _ _ _ (by simpa using hv)]; simp
    obtain ⟨r', hg⟩ := r1.write h1 (o := .arr z (es.set e (paste cs off (cellsOf y1)))) (ob := .cells (paste arr.toList (e * z + off) cx.cells.toList).toArray T (0, 0)) (by
      simp only [RepO, hb]
      exact ⟨_, T, trivial, setBlock_same h2, by rw [← h3]; simpa using hps, by simpa using h4, h5, h6, hrep⟩) (fun cs e => by cases e)
    refine ⟨_, ρ1, _, d, E1, _, a.defers, _, undef, h, r'.same, trivial, hg1.trans hg, .inr (.inl ⟨?_, rfl, rfl⟩)⟩
    rw [h6]
    rw [Sem.run_bind, run_storeVar ht h2 (by rw [← hlen]; exact hsz) (okCells_one ho hc) hfit]
    rfl
  | _ => exact h.elim
end
end Am
end Go.Proofs.YtbdnfkmcfencdaaGreatDoor
/- The abstract machine is sound, operation by operation (structs and arrays are built and taken apart). No condition. -/
namespace Go.Proofs.YtbdnfkmcfencdaaGreatDoor
namespace Am
open Go

theorem foldl_set (off : Nat) : ∀ (l : List Value) (k : Nat) (cells : Array Value), off + k + l.length ≤ cells.size →
    ((l.zipIdx k).foldl (fun cs (p : Value × Nat) => cs.setIfInBounds (off + p.2) p.1) cells).toList = paste cells.toList (off + k) l
  | [], k, cells, _ => by simp [paste_nil]
  | v :: l, k, cells, h => by
    simp only [List.zipIdx_cons, List.foldl_cons]
    rw [foldl_set off l (k + 1) _ (by simp at h ⊢; omega), Array.toList_setIfInBounds, ← Nat.add_assoc, paste_set _ _ _ _ (by simp at h ⊢; omega)]
theorem fold_paste (off : Nat) (v cells : Array Value) (h : off + v.size ≤ cells.size) :
    (v.zipIdx.foldl (fun cs (p : Value × Nat) => cs.setIfInBounds (off + p.2) p.1) cells).toList = paste cells.toList off v.toList := by
  rw [← Array.foldl_toList, Array.toList_zipIdx]
  exact foldl_set off v.toList 0 cells (by simpa using h)

/-- Numbered parts. -/
def RepPs (E : Env) : List (Nat × AV) → List (Nat × Value) → Prop
  | [], [] => True
  | (i, x) :: l, (j, v) :: m => i = j ∧ RepV E x v ∧ RepPs E l m
  | _, _ => False

section
variable {P : Program} {G : Nat → Option (List Value)} {M : Md P G} {L : Nat → Prop} {X : Ctx} {E : Env} {own : Nat → List Nat} {ρ : Regs} {H : Heap} {d : Dx} {a : Act} {w : World}
theorem partsK_inv (r : Rel G L E own ρ H d a w) {ps : List (Nat × Operand)} (hv : ∀ p ∈ ps, Vis L p.2) {K : List (Nat × AV) → Prop} (h : partsK (propSig M) ρ ps K) :
    ∃ l, K l ∧ RepPs E l (ps.map fun p => (p.1, a.eval p.2)) := by
  unfold partsK at h
  induction ps generalizing K with
  | nil => exact ⟨[], h, trivial⟩
  | cons p ps ih =>
    rw [mapK_cons] at h
    obtain ⟨i, x⟩ := p
    obtain ⟨y, h, hy⟩ := evalK_inv r (hv (i, x) (by simp)) h
    obtain ⟨l, h, hl⟩ := ih (fun p hp => hv p (by simp [hp])) h
    exact ⟨_, h, rfl, hy, hl⟩
theorem fillK_inv {place place' : Nat → Option (Nat × Nat)} (hp : ∀ i p, place i = some p → place' i = some p) : ∀ {l : List (Nat × AV)} {m : List (Nat × Value)} {cs : List AV} {zs : Array Value} {K : List AV → Prop},
    RepPs E l m → RepVs E cs zs.toList → fillK (propSig M) place l cs K → ∃ cs' zs', K cs' ∧ Instr.fill place' zs m = some zs' ∧ RepVs E cs' zs'.toList
  | [], [], cs, zs, K, _, hz, h => ⟨cs, zs, h, rfl, hz⟩
  | (i, x) :: l, (j, v) :: m, cs, zs, K, hr, hz, h => by
    obtain ⟨rfl, hx, hr⟩ := hr
    have h : (match place i with
      | some (off, size) => cellsK (propSig M) x fun xs => sizedK (propSig M) xs.length size xs fun xs => List.casesOn xs False fun _ _ => pasteK cs off xs False fun cs => fillK (propSig M) place l cs K
      | none => False) := h
    split at h
    · rename_i off size e
      obtain ⟨h, ho, hc⟩ := cellsK_inv h hx
      obtain ⟨hsz, h⟩ := sizedK_inv h
      have key : cellsOf x ≠ [] ∧ pasteK cs off (cellsOf x) False fun cs => fillK (propSig M) place l cs K := by
        revert h
        cases cellsOf x with
        | nil => exact fun h => h.elim
        | cons _ _ => exact fun h => ⟨by simp, h⟩
      obtain ⟨hne, h⟩ := key
      obtain ⟨hl, h⟩ := pasteK_inv h
      have hl := hl.resolve_left hne
      have hlen := hc.length
      have hzl : cs.length = zs.size := by simpa using hz.length
      have hvs : v.cells.size = size := by rw [← hsz, hlen]; simp
      have hfit : off + v.cells.size ≤ zs.size := by rw [← hzl, hvs, ← hsz]; exact hl
      obtain ⟨cs', zs', h, hf, hr'⟩ := fillK_inv hp (zs := (v.cells.zipIdx.foldl (fun cs (p : Value × Nat) => cs.setIfInBounds (off + p.2) p.1) zs)) hr (by
        rw [fold_paste _ _ _ hfit]; exact hz.paste off hc) h
      refine ⟨cs', zs', h, ?_, hr'⟩
      simp only [Instr.fill, hp i _ e]
      rw [if_neg (by simp [hvs]; omega)]
      exact hf
    · exact h.elim
  | [], _ :: _, _, _, _, hr, _, _ => hr.elim
  | _ :: _, [], _, _, _, hr, _, _ => hr.elim
theorem places_some : ∀ (l : List Field), (∀ f ∈ l, P.cellsOf f.type ≠ 0) → l.mapM (fun f => (P.info? f.type).map fun i => (f.offset, i.size)) = some (l.map fun f => (f.offset, P.cellsOf f.type))
  | [], _ => rfl
  | f :: l, h => by
    have h1 := h f (by simp)
    have h2 := places_some l fun g hg => h g (by simp [hg])
    cases hi : P.info? f.type with
    | none => simp [Program.cellsOf, hi] at h1
    | some i =>
      rw [List.mapM_cons, h2, hi]
      simp [Program.cellsOf, hi]
theorem TIs.cells {t : Nat} {i : TI} (h : TIs P t i) : P.cellsOf t = i.size := by
  obtain ⟨j, h1, h2, _⟩ := h.info
  simp [Program.cellsOf, h1, h2]
theorem build_lands (r : Rel G L E own ρ H d a w) (hT : Agree P X.T) {K : VK Prop} {t : Nat} {ps : Array (Nat × Operand)} (hv : ∀ p ∈ ps.toList, Vis L p.2)
    (h : buildO (propSig M) X ρ H d K t ps.toList) :
    Lands0 E w ρ H d K ((do pure (.value (← Instr.build t (ps.map fun (i, x) => (i, a.eval x)))) : Sem Next).run P w) := by
  obtain ⟨i, h, ht⟩ := tiK_inv hT h
  have hgo : partsK (propSig M) ρ ps.toList (fun l => fillK (propSig M) (placeOf X i) l i.zero fun cs => K (.agg cs) ρ H d) := by
    unfold builtT at h
    split at h
    · exact h
    · exact (tiK_inv hT h).elim fun _ h => h.1
    · exact h.elim
  obtain ⟨l, hgo, hl⟩ := partsK_inv r hv hgo
  obtain ⟨j, hj, hjs, _, z, hz, hzi, hzp, hzf, _⟩ := ht.info
  obtain ⟨dd, hd, hagg, hund, _⟩ := ht.und
  have hz0 : RepVs E i.zero z.cells.toList := by rw [hzi]; exact plains_rep hzp
  have fin : ∀ {place' : Nat → Option (Nat × Nat)}, (∀ i' p, placeOf X i i' = some p → place' i' = some p) →
      (∀ m, P.built t m = Instr.fill place' z.cells m) → Lands0 E w ρ H d K ((do pure (.value (← Instr.build t (ps.map fun (i, x) => (i, a.eval x)))) : Sem Next).run P w) := by
    intro place' hp hb
    obtain ⟨cs', zs', h, hf, hr⟩ := fillK_inv hp hl hz0 hgo
    refine Lands0.value (v := .agg zs') r h ⟨zs'.toList, by simp, hr⟩ ?_
    have hb' : P.built t (ps.map fun (i, x) => (i, a.eval x)).toList = some zs' := by
      rw [hb, ← hf]
      congr 1
      simp
    rw [Sem.run_bind, run_build w t _ zs' hb']
    rfl
  cases hu : i.und with
  | struct fs =>
    obtain ⟨l', rfl, hfs, hne⟩ := utOf_struct (hund.symm.trans hu)
    refine fin (place' := fun x => ((l'.toList.map fun f => (f.offset, P.cellsOf f.type)).toArray)[x]?) (fun f p hp => ?_) (fun m => ?_)
    · simp only [placeOf, hu, hfs] at hp
      rw [List.getElem?_map] at hp
      cases hf : l'.toList[f]? with
      | none => rw [hf] at hp; simp at hp
      | some fd =>
        rw [hf] at hp
        simp only [Option.map_some] at hp
        cases hx : X.T fd.type with
        | none => rw [hx] at hp; simp at hp
        | some j' =>
          rw [hx] at hp
          simp only [Option.some.injEq] at hp
          subst hp
          have := (hT.is hx).cells
          rw [← this]
          simp [hf]
    · simp only [Program.built, hj, hd, hz, places_some _ hne]
  | array n e =>
    obtain rfl := utOf_array (hund.symm.trans hu)
    have h : tiK (propSig M) X e fun _ => partsK (propSig M) ρ ps.toList (fun l => fillK (propSig M) (placeOf X i) l i.zero fun cs => K (.agg cs) ρ H d) := by
      unfold builtT at h; rw [hu] at h; exact h
    unfold tiK at h
    cases hx : X.T e with
    | none => rw [hx] at h; exact h.elim
    | some j' =>
      have hj' := hT.is hx
      obtain ⟨je, he, hes, _⟩ := hj'.info
      refine fin (place' := fun i => some (i * je.size, je.size)) (fun i' p hp => ?_) (fun m => ?_)
      · simp only [placeOf, hu, hx, Option.some.injEq] at hp
        rw [hes]; exact congrArg some hp
      · simp only [Program.built, hj, hd, hz, he]
  | _ => unfold builtT at h; rw [hu] at h; exact h.elim
end
end Am
end Go.Proofs.YtbdnfkmcfencdaaGreatDoor
/- The abstract machine is sound, operation by operation (parts of values, addresses). No condition. -/
namespace Go.Proofs.YtbdnfkmcfencdaaGreatDoor
namespace Am
open Go

section
variable {P : Program} {G : Nat → Option (List Value)} {M : Md P G} {L : Nat → Prop} {X : Ctx} {E : Env} {own : Nat → List Nat} {ρ : Regs} {H : Heap} {d : Dx} {a : Act} {w : World}
theorem run_part {t : Nat} {i : TI} (ht : TIs P t i) {xs : List Value} {off : Nat} {v : Value}
    (hv : (i.agg = true ∧ ((xs.drop off).take i.size).length = i.size ∧ v = .agg ((xs.drop off).take i.size).toArray) ∨ (i.agg = false ∧ xs[off]? = some v)) :
    (part t xs.toArray off).run P w = .ok v w := by
  unfold part
  simp only [Sem.run_bind, ht.run_isAgg, Result.andThen_ok]
  rcases hv with ⟨ha, hl, rfl⟩ | ⟨ha, hv⟩
  · simp only [ha, if_true, Sem.run_bind, ht.run_sizeOf, Result.andThen_ok, Sem.run_pure]
    congr 2
    apply Array.ext'
    simp
  · simp only [ha, Bool.false_eq_true, if_false, List.getElem?_toArray, hv, Sem.run_pure]
theorem field_lands (r : Rel G L E own ρ H d a w) (hT : Agree P X.T) {K : VK Prop} {t : Nat} {x : Operand} {f : Nat} (hx : Vis L x) (h : fieldO (propSig M) X ρ H d K t x f) :
    Lands0 E w ρ H d K ((do pure (.value (← Instr.field t (a.eval x) f)) : Sem Next).run P w) := by
  obtain ⟨i, h, ht⟩ := tiK_inv hT h
  obtain ⟨y, h, hy⟩ := evalK_inv r hx h
  obtain ⟨dd, hd, _, hund, hrun⟩ := ht.run_underlying (w := w)
  split at h
  · rename_i fs cs hu
    split at h
    · rename_i off u hf
      obtain ⟨j, h5, hj⟩ := tiK_inv hT h
      obtain ⟨l', rfl, rfl, hne⟩ := utOf_struct (hund.symm.trans hu)
      obtain ⟨xs, hc, hr⟩ := hy
      obtain ⟨p, h6, hp⟩ := partK_inv h5 hr
      clear h h5
      rw [List.getElem?_map] at hf
      cases hf' : l'.toList[f]? with
      | none => rw [hf'] at hf; simp at hf
      | some fd =>
        rw [hf'] at hf
        simp only [Option.map_some, Option.some.injEq, Prod.mk.injEq] at hf
        obtain ⟨rfl, rfl⟩ := hf
        have hf2 : l'[f]? = some fd := by simpa using hf'
        have key : ∀ v, RepV E p v → (part fd.type xs.toArray fd.offset).run P w = .ok v w →
            Lands0 E w ρ H d K ((do pure (.value (← Instr.field t (a.eval x) f)) : Sem Next).run P w) := by
          intro v hv hpr
          refine Lands0.value r h6 hv ?_
          simp [Instr.field, hrun, hf2, hc, asAgg, hpr]
        rcases hp with ⟨ha, hl, hr⟩ | ⟨ha, v, hv, hr⟩
        · exact key _ hr (run_part hj (.inl ⟨ha, hl, rfl⟩))
        · exact key v hr (run_part hj (.inr ⟨ha, hv⟩))
    · exact h.elim
  · exact h.elim
theorem extract_lands (r : Rel G L E own ρ H d a w) {K : VK Prop} {x : Operand} {n : Nat} (hx : Vis L x) (h : extractO (propSig M) ρ H d K x n) :
    Lands0 E w ρ H d K ((do pure (.value (← Instr.extract (a.eval x) n)) : Sem Next).run P w) := by
  obtain ⟨y, h, hy⟩ := evalK_inv r hx h
  split at h
  · rename_i vs
    have h : getK vs n False (fun y => K y ρ H d) := h
    rw [getK_eq] at h
    split at h
    · rename_i u e
      obtain ⟨xs, hc, hr⟩ := hy
      obtain ⟨v, hv, hr⟩ := hr.get e
      refine Lands0.value r h hr ?_
      simp [Instr.extract, hc, hv]
    · exact h.elim
  · exact h.elim
theorem iface_lands (r : Rel G L E own ρ H d a w) (hT : Agree P X.T) {K : VK Prop} {t : Nat} {x : Operand} (hx : Vis L x) (h : ifaceO (propSig M) X ρ H d K t x) :
    Lands0 E w ρ H d K ((do pure (.value (← Instr.makeInterface t (a.eval x))) : Sem Next).run P w) := by
  obtain ⟨i, h, ht⟩ := tiK_inv hT h
  obtain ⟨dd, hd, _, hund, _⟩ := ht.run_underlying (w := w)
  have hcon : P.concrete t = true := by
    unfold Program.concrete
    rw [hd]
    cases dd <;> first | rfl | skip
    rename_i ms
    have : i.und = .iface := hund
    rw [this] at h
    exact h.elim
  have hrun := run_makeInterface w t (a.eval x) hcon
  have key : ∀ y, RepV E y (a.eval x) → ifaceV ρ H d K t y → Lands0 E w ρ H d K ((do pure (.value (← Instr.makeInterface t (a.eval x))) : Sem Next).run P w) := by
    intro y hy h
    unfold ifaceV at h
    split at h
    · rename_i c
      obtain ⟨hp, e⟩ := hy
      exact Lands0.value (v := .iface t (a.eval x)) r h ⟨by simpa [plain] using hp, by rw [e]⟩ (by rw [Sem.run_bind, hrun]; rfl)
    · exact Lands0.value (v := .iface t (a.eval x)) r h ⟨_, rfl, hy⟩ (by rw [Sem.run_bind, hrun]; rfl)
  split at h
  · exact h.elim
  · obtain ⟨y, h, hy⟩ := evalK_inv r hx h
    exact key y hy h
theorem func_lands (r : Rel G L E own ρ H d a w) {K : VK Prop} {f : Fn} {first caps : Array Operand} (hx : ∀ x ∈ caps.toList, Vis L x) (h : makeFuncO (propSig M) ρ H d K f first.toList caps.toList) :
    Lands0 E w ρ H d K ((do pure (.value (← Instr.makeFunc f (first.map a.eval) (caps.map a.eval))) : Sem Next).run P w) := by
  cases f with
  | func f =>
    have h : cond first.toList.isEmpty (funcO (propSig M) ρ H d K f caps.toList) False := h
    obtain ⟨he, h'⟩ := condF h
    clear h
    obtain ⟨ys, h5, hys⟩ := evalsK_inv r hx h'
    have hf : first = #[] := by simpa using he
    subst hf
    refine Lands0.value (v := .func (.func f) #[] (caps.map a.eval)) r h5 ⟨caps.toList.map a.eval, by rw [show Array.map a.eval caps = (List.map a.eval caps.toList).toArray from Array.ext' (by simp)], hys⟩ ?_
    simp [Instr.makeFunc]
  | _ => exact h.elim

theorem moved_lands (r : Rel G L E own ρ H d a w) {K : VK Prop} {u : AV} {n : Nat} {c : Value} (hu : RepV E u c) (h : moved (propSig M) ρ H d K u n) {s : Sem Next}
    (hs : ∀ ad : Addr, c = .pointer (some ad) → s.run P w = .ok (.value (.pointer (some (ad.add n)))) w) : Lands0 E w ρ H d K (s.run P w) := by
  cases u with
  | ref k off =>
    obtain ⟨b, hb, rfl⟩ := hu
    exact Lands0.value r h ⟨b, hb, rfl⟩ (by rw [hs _ rfl, addr_add])
  | aptr k e off =>
    obtain ⟨b, hb, rfl⟩ := hu
    exact Lands0.value r h ⟨b, hb, rfl⟩ (by rw [hs _ rfl, addr_add, Nat.add_assoc])
  | eptr cs off =>
    obtain ⟨b, o, arr, T, fr, rfl, h1, h2, h3, h4⟩ := hu
    exact Lands0.value r h ⟨b, o, arr, T, fr, rfl, h1, h2, h3, h4⟩ (by rw [hs _ rfl, addr_add, Nat.add_assoc])
  | glob g off =>
    obtain rfl := hu
    exact Lands0.value r h rfl (by rw [hs _ rfl, addr_add])
  | _ => exact h.elim
theorem fieldAddr_lands (r : Rel G L E own ρ H d a w) (hT : Agree P X.T) {K : VK Prop} {t : Nat} {x : Operand} {f : Nat} (hx : Vis L x) (h : fieldAddrO (propSig M) X ρ H d K t x f) :
    Lands0 E w ρ H d K ((do pure (.value (← Instr.fieldAt t (a.eval x) f)) : Sem Next).run P w) := by
  obtain ⟨i, h, ht⟩ := tiK_inv hT h
  obtain ⟨y, h, hy⟩ := evalK_inv r hx h
  obtain ⟨dd, hd, _, hund, hrun⟩ := ht.run_underlying (w := w)
  split at h
  · rename_i n hn
    unfold fieldOff at hn
    split at hn
    · rename_i fs hu
      obtain ⟨l', rfl, rfl, hne⟩ := utOf_struct (hund.symm.trans hu)
      rw [List.getElem?_map] at hn
      cases hf' : l'.toList[f]? with
      | none => rw [hf'] at hn; simp at hn
      | some fd =>
        rw [hf'] at hn
        simp only [Option.map_some, Option.some.injEq] at hn
        subst hn
        have hf2 : l'[f]? = some fd := by simpa using hf'
        have hc := hne fd (List.mem_of_getElem? hf')
        cases hi : P.info? fd.type with
        | none => simp [Program.cellsOf, hi] at hc
        | some j =>
          have hj : j.size ≠ 0 := by simpa [Program.cellsOf, hi] using hc
          refine moved_lands r hy h fun ad e => ?_
          simp [Instr.fieldAt, hrun, hf2, e, Instr.sureAddr, fieldPlace, sizeOf, typeInfo, hi, hj]
    · cases hn
  · exact h.elim
theorem run_asIntOf (k : IntKind) (n : Int) : (asIntOf (.int k n)).run P w = .ok (k, n) w := rfl
theorem index_lands (r : Rel G L E own ρ H d a w) (hT : Agree P X.T) {K : VK Prop} {t : Nat} {x ix : Operand} (hx : Vis L x) (hix : Vis L ix) (h : indexO (propSig M) X ρ H d K t x ix) :
    Lands0 E w ρ H d K ((do pure (.value (← Instr.index t (a.eval x) (a.eval ix))) : Sem Next).run P w) := by
  obtain ⟨i, h1, ht⟩ := tiK_inv hT h
  obtain ⟨y, h2, hy⟩ := evalK_inv r hx h1
  obtain ⟨q, h3, hq⟩ := evalK_inv r hix h2
  clear h h1 h2
  obtain ⟨k, n, hn, h⟩ := asNat_inv h3 hq
  clear h3
  obtain ⟨dd, hd, _, hund, hrun⟩ := ht.run_underlying (w := w)
  split at h
  · rename_i bs
    split at h
    · rename_i hu
      obtain rfl := utOf_string (hund.symm.trans hu)
      obtain ⟨hlt, h⟩ := need_inv h
      obtain ⟨_, e⟩ := hy
      refine Lands0.value r h ⟨rfl, rfl⟩ ?_
      have hget : bs[n]? = some (bs.get! n) := by
        rw [getElem?_pos bs n hlt]
        simp [ByteArray.get!, getElem!_pos, hlt]
        rfl
      simp [Instr.index, hn, run_asIntOf, hrun, e, hget]
    · exact h.elim
  · rename_i cs
    split at h
    · rename_i len e hu
      obtain rfl := utOf_array (hund.symm.trans hu)
      obtain ⟨j, h, hj⟩ := tiK_inv hT h
      obtain ⟨hlt, h⟩ := need_inv h
      obtain ⟨xs, hc, hr⟩ := hy
      obtain ⟨p, h, hp⟩ := partK_inv h hr
      have key : ∀ v, RepV E p v → (part e xs.toArray (n * j.size)).run P w = .ok v w →
          Lands0 E w ρ H d K ((do pure (.value (← Instr.index t (a.eval x) (a.eval ix))) : Sem Next).run P w) := by
        intro v hv hpr
        refine Lands0.value r h hv ?_
        simp [Instr.index, hn, run_asIntOf, hrun, hc, hlt, hj.run_sizeOf, hpr]
      rcases hp with ⟨ha, hl, hr⟩ | ⟨ha, v, hv, hr⟩
      · exact key _ hr (run_part hj (.inl ⟨ha, hl, rfl⟩))
      · exact key v hr (run_part hj (.inr ⟨ha, hv⟩))
    · exact h.elim
  · exact h.elim
theorem indexAddr_lands (r : Rel G L E own ρ H d a w) (hT : Agree P X.T) {K : VK Prop} {t : Nat} {x ix : Operand} (hx : Vis L x) (hix : Vis L ix) (h : indexAddrO (propSig M) X ρ H d K t x ix) :
    Lands0 E w ρ H d K ((do pure (.value (← Instr.indexAt t (a.eval x) (a.eval ix))) : Sem Next).run P w) := by
  obtain ⟨i, h1, ht⟩ := tiK_inv hT h
  obtain ⟨y, h2, hy⟩ := evalK_inv r hx h1
  obtain ⟨q, h3, hq⟩ := evalK_inv r hix h2
  clear h h1 h2
  obtain ⟨k, n, hn, h⟩ := asNat_inv h3 hq
  clear h3
  obtain ⟨dd, hd, _, hund, hrun⟩ := ht.run_underlying (w := w)
  split at h
  · rename_i len e hu
    obtain rfl := utOf_array (hund.symm.trans hu)
    obtain ⟨j, h, hj⟩ := tiK_inv hT h
    obtain ⟨hlt, h⟩ := need_inv h
    refine moved_lands r hy h fun ad e => ?_
    simp [Instr.indexAt, hn, run_asIntOf, hrun, e, Instr.sureAddr, hlt, hj.run_sizeOf]
  · rename_i e hu
    obtain rfl := utOf_slice (hund.symm.trans hu)
    obtain ⟨j, h5, hj⟩ := tiK_inv hT h
    clear h
    have fin : ∀ {b o len cap : Nat} {u : AV}, a.eval x = .slice (some ⟨b, o, none⟩) len cap → n < len → RepV E u (.pointer (some ⟨b, o + n * j.size, none⟩)) → K u ρ H d →
        Lands0 E w ρ H d K ((do pure (.value (← Instr.indexAt t (a.eval x) (a.eval ix))) : Sem Next).run P w) := by
      intro b o len cap u hs hlt hu h
      refine Lands0.value r h hu ?_
      simp [Instr.indexAt, hn, run_asIntOf, hrun, hs, hlt, hj.run_sizeOf, addr_add]
    unfold indexV at h5
    split at h5
    · rename_i z es
      obtain ⟨hz, h6⟩ := sizedK_inv h5
      clear h5
      obtain ⟨cs, hcs, h⟩ := elem_inv h6
      obtain ⟨p, cap, hs, _, hp⟩ := hy
      have hlt := (List.getElem?_eq_some_iff.1 hcs).1
      rcases hp with rfl | ⟨b, off, arr, T, fr, rfl, him, hg, hpu, hrep⟩
      · simp at hlt
      · have hgt := hrep.get hcs
        refine fin (u := .eptr cs 0) hs hlt ⟨b, off + n * j.size, arr, T, fr, rfl, him, hg, pureEs_get hpu hcs, ?_⟩ h
        rw [hgt.1, ← hz, ← List.drop_drop]
        exact hgt.2
    · rename_i k'
      obtain ⟨z, es, e', h6⟩ := arrK_inv h5
      clear h5
      obtain ⟨hz, h7⟩ := sizedK_inv h6
      clear h6
      obtain ⟨hlt, h⟩ := need_inv h7
      rcases hy with ⟨b, hb, hs⟩ | ⟨hb, p, hs⟩
      · obtain ⟨arr, T, _, _, _, h4, _, h6, _⟩ := r.arr e' hb
        exact fin (u := .aptr k' n 0) hs (by omega) ⟨b, hb, by rw [h6, hz]; simp⟩ h
      · have := r.heap.obj k' _ e'
        simp only [RepO, hb] at this
        rw [this.2.1] at hlt
        simp at hlt
    · rename_i k' lo len
      obtain ⟨z, es, e', h6⟩ := arrK_inv h5
      clear h5
      obtain ⟨hz, h7⟩ := sizedK_inv h6
      clear h6
      obtain ⟨hlt, h⟩ := need_inv h7
      rcases hy with ⟨b, o, hb, hl, hs, ho⟩ | ⟨hb, rfl, rfl, p, hs⟩
      · obtain ⟨arr, T, _, _, _, h4, h5, h6, _⟩ := r.arr e' hb
        have ho : o = lo * E.z k' := ho.resolve_right (by omega)
        exact fin (u := .aptr k' (lo + n) 0) hs hlt ⟨b, hb, by rw [ho, h6, ← hz, Nat.add_mul]; simp⟩ h
      · simp at hlt
    · exact h5.elim
  · exact h.elim
end
end Am
end Go.Proofs.YtbdnfkmcfencdaaGreatDoor
/- The abstract machine is sound, operation by operation (numbers, strings, comparisons). No condition. -/
namespace Go.Proofs.YtbdnfkmcfencdaaGreatDoor
namespace Am
open Go

theorem fwrap_eq (k : IntKind) (n : Int) : fwrap k n = k.wrap n := by
  cases n with
  | ofNat a =>
    simp only [fwrap]
    cases h : Nat.ble a (topOf k)
    · rfl
    · have h := Nat.le_of_ble_eq_true h
      simp only [cond_true]
      cases k <;> simp only [topOf] at h <;> simp only [IntKind.wrap, IntKind.bits, IntKind.signed, Bool.true_and, Bool.false_and, ge_iff_le, decide_eq_true_eq, Int.ofNat_eq_natCast, Bool.false_eq_true, if_false] <;>
        first | omega | (split <;> omega)
  | negSucc a =>
    simp only [fwrap]
    cases h : (k.signed && Nat.ble a (topOf k))
    · rfl
    · rw [Bool.and_eq_true] at h
      obtain ⟨hs, h1⟩ := h
      have h1 := Nat.le_of_ble_eq_true h1
      simp only [cond_true]
      have e : Int.negSucc a = -((a : Int) + 1) := by omega
      rw [e]
      generalize ha : -((a : Int) + 1) = n
      cases k <;> first
        | exact absurd hs (by decide)
        | (simp only [topOf] at h1
           simp only [IntKind.wrap, IntKind.bits, IntKind.signed, Bool.true_and, ge_iff_le, decide_eq_true_eq]
           split <;> omega)
theorem sameBytes_eq : ∀ a b : List UInt8, sameBytes a b = (a == b)
  | [], [] => rfl
  | [], _ :: _ => rfl
  | _ :: _, [] => rfl
  | x :: a, y :: b => by
    simp only [sameBytes, List.cons_beq_cons]
    rw [sameBytes_eq a b]
    cases h : Nat.beq x.toNat y.toNat
    · have : (x == y) = false := by
        rw [beq_eq_false_iff_ne]
        intro e
        subst e
        simp at h
      simp [this]
    · have h := Nat.eq_of_beq_eq_true h
      have : x = y := UInt8.toNat_inj.1 h
      subst this
      simp

section
variable {P : Program} {G : Nat → Option (List Value)} {M : Md P G} {L : Nat → Prop} {X : Ctx} {E : Env} {own : Nat → List Nat} {ρ : Regs} {H : Heap} {d : Dx} {a : Act} {w : World}
theorem intK_inv {op : BinOp} {k : IntKind} {m n : Int} {K : Value → Prop} (hs : isShift op = false) (h : intK (propSig M) op k m n K) (t : Nat) :
    ∃ c, K c ∧ (binOp op t (.int k m) (.int k n)).run P w = .ok c w ∧ plain c = true := by
  have num : ∀ {v : Int}, numK (propSig M) k v K → K (.int k v) := numK_inv
  cases op <;> simp only [isShift, Bool.true_eq_false] at hs <;> simp only [intK] at h
  case add => exact ⟨_, num h, by simp [binOp, Op.intArith, fwrap_eq], rfl⟩
  case sub => exact ⟨_, num h, by simp [binOp, Op.intArith, fwrap_eq], rfl⟩
  case mul => exact ⟨_, num h, by simp [binOp, Op.intArith, fwrap_eq], rfl⟩
  case quo => obtain ⟨h0, h⟩ := need_inv h; exact ⟨_, num h, by simp [binOp, Op.intDiv, fwrap_eq, h0], rfl⟩
  case rem => obtain ⟨h0, h⟩ := need_inv h; exact ⟨_, num h, by simp [binOp, Op.intDiv, h0], rfl⟩
  case and => exact ⟨_, num h, by simp [binOp, Op.intBits, fwrap_eq], rfl⟩
  case or => exact ⟨_, num h, by simp [binOp, Op.intBits, fwrap_eq], rfl⟩
  case xor => exact ⟨_, num h, by simp [binOp, Op.intBits, fwrap_eq], rfl⟩
  case andNot => exact ⟨_, num h, by simp [binOp, Op.intBits, fwrap_eq], rfl⟩
  case eql => exact ⟨_, h, by simp [binOp, Op.intCmp], rfl⟩
  case neq => exact ⟨_, h, by simp [binOp, Op.intCmp], rfl⟩
  case lss => exact ⟨_, h, by simp [binOp, Op.intCmp], rfl⟩
  case leq => exact ⟨_, h, by simp [binOp, Op.intCmp], rfl⟩
  case gtr => exact ⟨_, h, by simp [binOp, Op.intCmp], rfl⟩
  case geq => exact ⟨_, h, by simp [binOp, Op.intCmp], rfl⟩
theorem pow_cast (n : Nat) : (Int.ofNat (2 ^ n)) = (2 : Int) ^ n := by
  show ((2 ^ n : Nat) : Int) = _
  rw [Int.natCast_pow]; rfl
theorem shiftK_inv {op : BinOp} {k k' : IntKind} {m n : Int} {K : Value → Prop} (hs : isShift op = true) (h : shiftK (propSig M) op k m n K) (t : Nat) :
    ∃ c, K c ∧ (binOp op t (.int k m) (.int k' n)).run P w = .ok c w ∧ plain c = true := by
  have num : ∀ {v : Int}, numK (propSig M) k v K → K (.int k v) := numK_inv
  cases op <;> simp only [isShift, Bool.false_eq_true] at hs <;> simp only [shiftK] at h
  case shl =>
    obtain ⟨h0, h⟩ := need_inv h
    refine ⟨_, num h, ?_, rfl⟩
    rw [fwrap_eq, pow_cast]
    simp [binOp, Op.shift, Int.not_lt.2 h0]
  case shr =>
    obtain ⟨h0, h⟩ := need_inv h
    refine ⟨_, num h, ?_, rfl⟩
    rw [pow_cast]
    simp [binOp, Op.shift, Int.not_lt.2 h0]
theorem stringK_inv {op : BinOp} {m n : ByteArray} {K : Value → Prop} (h : stringK (propSig M) op m n K) (t : Nat) :
    ∃ c, K c ∧ (binOp op t (.string m) (.string n)).run P w = .ok c w ∧ plain c = true := by
  have hb : sameBytes m.data.toList n.data.toList = (m.toList == n.toList) := by rw [sameBytes_eq, ByteArray.toList_eq, ByteArray.toList_eq]
  cases op <;> simp only [stringK] at h
  case add =>
    obtain ⟨h0, h⟩ := need_inv h
    refine ⟨_, h, ?_, rfl⟩
    simp only [binOp, Op.stringOp]
    have h63 : IntKind.i64.max = 9223372036854775807 := by decide
    rw [if_neg (by rw [h63]; omega)]
    rfl
  case eql => exact ⟨_, h, by rw [hb]; rfl, rfl⟩
  case neq => exact ⟨_, h, by rw [hb]; rfl, rfl⟩
  case lss => exact ⟨_, h, rfl, rfl⟩
  case leq => exact ⟨_, h, rfl, rfl⟩
  case gtr => exact ⟨_, h, rfl, rfl⟩
  case geq => exact ⟨_, h, rfl, rfl⟩
  all_goals exact h.elim

theorem eqIs_inv {op : BinOp} {b : Bool} {K : Value → Prop} (h : eqIs (propSig M) op b K) :
    (op = .eql ∧ K (.bool b)) ∨ (op = .neq ∧ K (.bool (!b))) := by
  cases op <;> first | exact .inl ⟨rfl, h⟩ | exact .inr ⟨rfl, h⟩ | exact h.elim
/-- '==' or '!=' is run. -/
theorem eq_run {op : BinOp} {t : Nat} {ox oy : Operand} {p q : Value} {b : Bool} {K : Value → Prop}
    (h1 : binOp .eql t p q = (do pure (.bool (← Op.equal t p q)))) (h2 : binOp .neq t p q = (do pure (.bool (!(← Op.equal t p q)))))
    (he : (Op.equal t p q).run P w = .ok b w) (hg : (op = .eql ∨ op = .neq) → (eqGuard op t ox oy p q).run P w = .ok () w) (h : eqIs (propSig M) op b K) :
    ∃ c, K c ∧ (do eqGuard op t ox oy p q; binOp op t p q : Sem Value).run P w = .ok c w ∧ plain c = true := by
  rcases eqIs_inv h with ⟨rfl, hk⟩ | ⟨rfl, hk⟩
  · refine ⟨_, hk, ?_, rfl⟩
    rw [Sem.run_bind, hg (.inl rfl), h1]
    simp [he]
  · refine ⟨_, hk, ?_, rfl⟩
    rw [Sem.run_bind, hg (.inr rfl), h2]
    simp [he]
theorem run_eqFields (dd : Nat) {xs ys : Array Value} : ∀ {fs : List Field} {n : Nat} {us : List UT} {l m : List AV} {b : Bool}, flatFields P n fs = some us → sameCells us l m = some b →
    RepVs E l (xs.toList.drop n) → RepVs E m (ys.toList.drop n) → (Op.eqFields (dd + 1) xs ys fs).run P w = .ok b w
  | [], n, us, l, m, b, hf, hs, hl, hm => by
    simp only [flatFields, Option.some.injEq] at hf
    subst hf
    cases l <;> cases m <;> simp [sameCells] at hs
    subst hs
    rfl
  | f :: fs, n, us, l, m, b, hf, hs, hl, hm => by
    simp only [flatFields] at hf
    split at hf
    · rename_i hc
      simp only [Bool.and_eq_true, bne_iff_ne, ne_eq, beq_iff_eq] at hc
      obtain ⟨hname, hoff⟩ := hc
      have drop1 : ∀ {zs : List Value} {y : Value} {r : List Value}, zs.drop n = y :: r → zs[n]? = some y ∧ zs.drop (n + 1) = r := by
        intro zs y r e
        refine ⟨?_, ?_⟩
        · have := congrArg (·[0]?) e
          simpa [List.getElem?_drop] using this
        · rw [← List.drop_drop, e]; rfl
      have noagg : ∀ {dsc : TypeDesc}, P.underlying f.type = some dsc → isAggD dsc = false → ∀ {zs : Array Value} {y : Value}, zs.toList[n]? = some y → (part f.type zs f.offset).run P w = .ok y w := by
        intro dsc hd ha zs y hy
        unfold part
        have : (isAgg f.type).run P w = .ok false w := by
          simp only [isAgg, Sem.run_bind, underlying, hd, run_program, Result.andThen_ok, Sem.run_pure]
          cases dsc <;> first | rfl | simp [isAggD] at ha
        have hy' : zs[n]? = some y := by simpa using hy
        simp only [Sem.run_bind, this, Result.andThen_ok, Bool.false_eq_true, if_false, hoff, hy', Sem.run_pure]
      -- the heads
      have step : ∀ {x y : AV} {l' m' : List AV} {us' : List UT} {p q : Value} {s : Bool} {dsc : TypeDesc}, l = x :: l' → m = y :: m' → flatFields P (n + 1) fs = some us' →
          (∀ c, RepV E x c → c = p) → (∀ c, RepV E y c → c = q) → P.underlying f.type = some dsc → isAggD dsc = false → (Op.equalIn (dd + 1) f.type p q).run P w = .ok s w →
          cond s (sameCells us' l' m') (some false) = some b → (Op.eqFields (dd + 1) xs ys (f :: fs)).run P w = .ok b w := by
        intro x y l' m' us' p q s dsc e1 e2 hfs hp hq hd ha heq hb
        subst e1 e2
        obtain ⟨c1, r1, e1, h1, h1'⟩ := hl.cons_inv
        obtain ⟨c2, r2, e2, h2, h2'⟩ := hm.cons_inv
        obtain ⟨g1, d1⟩ := drop1 e1
        obtain ⟨g2, d2⟩ := drop1 e2
        rw [hp c1 h1] at g1
        rw [hq c2 h2] at g2
        simp only [Op.eqFields, ne_eq, hname, not_false_eq_true, if_true, Sem.run_bind, noagg hd ha g1, noagg hd ha g2, Result.andThen_ok, heq]
        cases s with
        | false => simp at hb; subst hb; simp
        | true =>
          simp only [Bool.not_true, Bool.false_eq_true, if_false]
          exact run_eqFields dd hfs hb (by rw [d1]; exact h1') (by rw [d2]; exact h2')
      have known : ∀ {v c : Value}, RepV E (.v v) c → c = v := fun h => h.2
      split at hf
      · rename_i k us' hd hfs
        simp only [Option.some.injEq] at hf; subst hf
        match l, m, hs with
        | .v (.int k1 a) :: l', .v (.int k2 b') :: m', hs =>
          simp only [sameCells] at hs
          split at hs
          · rename_i ek; subst ek
            exact step rfl rfl hfs (fun c h => known h) (fun c h => known h) hd rfl (run_equalIn_int w dd f.type k1 k a b' hd) hs
          · cases hs
      · rename_i us' hd hfs
        simp only [Option.some.injEq] at hf; subst hf
        match l, m, hs with
        | .v (.bool a) :: l', .v (.bool b') :: m', hs =>
          exact step rfl rfl hfs (fun c h => known h) (fun c h => known h) hd rfl (run_equalIn_bool' w dd f.type a b' hd) hs
      · rename_i us' hd hfs
        simp only [Option.some.injEq] at hf; subst hf
        match l, m, hs with
        | .v (.string a) :: l', .v (.string b') :: m', hs =>
          simp only [sameCells] at hs
          exact step rfl rfl hfs (fun c h => known h) (fun c h => known h) hd rfl (run_equalIn_string w dd f.type a b' hd) (by rw [← hs, sameBytes_eq, ByteArray.toList_eq, ByteArray.toList_eq])
      · cases hf
    · cases hf
end
end Am
end Go.Proofs.YtbdnfkmcfencdaaGreatDoor
/- The abstract machine is sound, operation by operation (operators). No condition. -/
namespace Go.Proofs.YtbdnfkmcfencdaaGreatDoor
namespace Am
open Go

section
variable {P : Program} {G : Nat → Option (List Value)} {M : Md P G} {L : Nat → Prop} {X : Ctx} {E : Env} {own : Nat → List Nat} {ρ : Regs} {H : Heap} {d : Dx} {a : Act} {w : World}
theorem flat_guard (dd : Nat) : ∀ {fs : List Field} {n : Nat} {us : List UT}, flatFields P n fs = some us → fs.any (fun f => f.name != "_" && P.eqGuardType (dd + 1) f.type) = false
  | [], _, _, _ => rfl
  | f :: fs, n, us, h => by
    simp only [flatFields] at h
    split at h
    · rw [List.any_cons]
      split at h
      · rename_i hd hfs
        rw [flat_guard dd hfs]; simp [Program.eqGuardType, hd]
      · rename_i hd hfs
        rw [flat_guard dd hfs]; simp [Program.eqGuardType, hd]
      · rename_i hd hfs
        rw [flat_guard dd hfs]; simp [Program.eqGuardType, hd]
      · cases h
    · cases h
theorem run_equal {t : Nat} {p q : Value} {b : Bool} (h : (Op.equalIn (9999 + 1) t p q).run P w = .ok b w) : (Op.equal t p q).run P w = .ok b w := h
theorem eqi_nil (n : Nat) {t : Nat} {ms : Array (String × TypeId)} (h : P.underlying t = some (.interface ms)) : (Op.equalIn (n + 1) t .nilIface .nilIface).run P w = .ok true w := by
  simp [Op.equalIn, run_underlying h]
theorem eqi_left (n : Nat) {t u : Nat} {v : Value} {ms : Array (String × TypeId)} (h : P.underlying t = some (.interface ms)) : (Op.equalIn (n + 1) t .nilIface (.iface u v)).run P w = .ok false w := by
  simp [Op.equalIn, run_underlying h]
theorem eqi_right (n : Nat) {t u : Nat} {v : Value} {ms : Array (String × TypeId)} (h : P.underlying t = some (.interface ms)) : (Op.equalIn (n + 1) t (.iface u v) .nilIface).run P w = .ok false w := by
  simp [Op.equalIn, run_underlying h]
theorem eqi_slice (n : Nat) {t e n1 n2 n3 n4 : Nat} (h : P.underlying t = some (.slice e)) : (Op.equalIn (n + 1) t (.slice none n1 n2) (.slice none n3 n4)).run P w = .ok true w := by
  simp [Op.equalIn, run_underlying h]
theorem eqi_ptr (n : Nat) {t e : Nat} (h : P.underlying t = some (.pointer e)) : (Op.equalIn (n + 1) t (.pointer none) (.pointer none)).run P w = .ok true w := by
  simp [Op.equalIn, run_underlying h]
theorem eqi_func (n : Nat) {t : Nat} {x y z} (h : P.underlying t = some (.func x y z)) : (Op.equalIn (n + 1) t .nilFunc .nilFunc).run P w = .ok true w := by
  simp [Op.equalIn, run_underlying h]
theorem eqi_funcL (n : Nat) {t : Nat} {x y z} {f : Fn} {c e : Array Value} (h : P.underlying t = some (.func x y z)) : (Op.equalIn (n + 1) t .nilFunc (.func f c e)).run P w = .ok false w := by
  simp [Op.equalIn, run_underlying h]
theorem eqi_funcR (n : Nat) {t : Nat} {x y z} {f : Fn} {c e : Array Value} (h : P.underlying t = some (.func x y z)) : (Op.equalIn (n + 1) t (.func f c e) .nilFunc).run P w = .ok false w := by
  simp [Op.equalIn, run_underlying h]
theorem quiet_guard {op : BinOp} {t : Nat} {ox oy : Operand} {p q : Value} (h1 : ¬ (p = .nilIface ∧ q = .nilIface)) (h2 : ∀ xs ys, ¬ (p = .agg xs ∧ q = .agg ys)) : (eqGuard op t ox oy p q).run P w = .ok () w := by
  unfold eqGuard
  split <;> first
    | rfl
    | (simp only [Bool.not_true, Bool.false_eq_true, if_false]
       cases p <;> first
         | rfl
         | (cases q <;> first | rfl | exact absurd ⟨rfl, rfl⟩ h1 | exact absurd ⟨rfl, rfl⟩ (h2 _ _)))
theorem nil_guard {op : BinOp} {t : Nat} {ox oy : Operand} (h : (isConst ox || isConst oy) = true) : (eqGuard op t ox oy .nilIface .nilIface).run P w = .ok () w := by
  unfold eqGuard
  split <;> first
    | rfl
    | (simp only [Bool.not_true, Bool.false_eq_true, if_false]
       cases ox <;> cases oy <;> first | rfl | (simp [isConst] at h))
theorem agg_guard {op : BinOp} {t : Nat} {ox oy : Operand} {xs ys : Array Value} (h : P.eqGuardType P.depth t = false) : (eqGuard op t ox oy (.agg xs) (.agg ys)).run P w = .ok () w := by
  unfold eqGuard
  split <;> first
    | rfl
    | (simp only [Bool.not_true, Bool.false_eq_true, if_false, Sem.run_bind, run_program, Result.andThen_ok, h, Bool.not_false, if_true]
       rfl)
theorem known_inv {op : BinOp} {t : Nat} {ox oy : Operand} {x y : AV} {p q : Value} {b : Bool} {K : Value → Prop} {dd : TypeDesc} (hd : P.underlying t = some dd) (hx : RepV E x p) (hy : RepV E y q)
    (hk : eqKnown (utOf P dd) (isConst ox || isConst oy) x y = some b) (h : eqIs (propSig M) op b K) :
    ∃ c, K c ∧ (do eqGuard op t ox oy p q; binOp op t p q : Sem Value).run P w = .ok c w ∧ plain c = true := by
  have fin : ∀ {p q : Value}, binOp .eql t p q = (do pure (.bool (← Op.equal t p q))) → binOp .neq t p q = (do pure (.bool (!(← Op.equal t p q)))) → (Op.equalIn (9999 + 1) t p q).run P w = .ok b w →
      ¬ (p = .nilIface ∧ q = .nilIface) → (∀ xs ys, ¬ (p = .agg xs ∧ q = .agg ys)) → ∃ c, K c ∧ (do eqGuard op t ox oy p q; binOp op t p q : Sem Value).run P w = .ok c w ∧ plain c = true :=
    fun h1 h2 h3 h4 h5 => eq_run h1 h2 (run_equal h3) (fun _ => quiet_guard h4 h5) h
  unfold eqKnown at hk
  split at hk
  · rename_i a1 b1 hu
    cases hk
    obtain ⟨_, rfl⟩ := hx
    obtain ⟨_, rfl⟩ := hy
    obtain rfl := utOf_bool hu
    exact fin rfl rfl (run_equalIn_bool' w 9999 t a1 b1 hd) nofun nofun
  · rename_i hu
    cases hn : (isConst ox || isConst oy) with
    | false => rw [hn] at hk; cases hk
    | true =>
      rw [hn] at hk; cases hk
      obtain ⟨_, rfl⟩ := hx
      obtain ⟨_, rfl⟩ := hy
      obtain ⟨ms, rfl⟩ := utOf_iface hu
      exact eq_run rfl rfl (run_equal (eqi_nil 9999 hd)) (fun _ => nil_guard hn) h
  · rename_i hu
    cases hk
    obtain ⟨_, rfl⟩ := hx
    obtain ⟨_, rfl⟩ := hy
    obtain ⟨ms, rfl⟩ := utOf_iface hu
    exact fin rfl rfl (eqi_left 9999 hd) nofun nofun
  · rename_i hu
    cases hk
    obtain ⟨_, rfl⟩ := hx
    obtain ⟨_, rfl⟩ := hy
    obtain ⟨ms, rfl⟩ := utOf_iface hu
    exact fin rfl rfl (eqi_right 9999 hd) nofun nofun
  · rename_i hu
    cases hk
    obtain ⟨_, rfl⟩ := hx
    obtain ⟨_, rfl, _⟩ := hy
    obtain ⟨ms, rfl⟩ := utOf_iface hu
    exact fin rfl rfl (eqi_left 9999 hd) nofun nofun
  · rename_i hu
    cases hk
    obtain ⟨_, rfl, _⟩ := hx
    obtain ⟨_, rfl⟩ := hy
    obtain ⟨ms, rfl⟩ := utOf_iface hu
    exact fin rfl rfl (eqi_right 9999 hd) nofun nofun
  · rename_i hu
    cases hk
    obtain ⟨_, rfl⟩ := hx
    obtain ⟨_, rfl⟩ := hy
    obtain rfl := utOf_slice hu
    exact fin rfl rfl (eqi_slice 9999 hd) nofun nofun
  · rename_i hu
    cases hk
    obtain ⟨_, rfl⟩ := hx
    obtain ⟨_, rfl⟩ := hy
    obtain rfl := utOf_ptr hu
    exact fin rfl rfl (eqi_ptr 9999 hd) nofun nofun
  · rename_i hu
    cases hk
    obtain ⟨_, rfl⟩ := hx
    obtain ⟨_, rfl⟩ := hy
    obtain ⟨_, _, _, rfl⟩ := utOf_func hu
    exact fin rfl rfl (eqi_func 9999 hd) nofun nofun
  · rename_i hu
    cases hk
    obtain ⟨_, rfl⟩ := hx
    obtain ⟨_, rfl, _⟩ := hy
    obtain ⟨_, _, _, rfl⟩ := utOf_func hu
    exact fin rfl rfl (eqi_funcL 9999 hd) nofun nofun
  · rename_i hu
    cases hk
    obtain ⟨_, rfl, _⟩ := hx
    obtain ⟨_, rfl⟩ := hy
    obtain ⟨_, _, _, rfl⟩ := utOf_func hu
    exact fin rfl rfl (eqi_funcR 9999 hd) nofun nofun
  · cases hk
theorem eqV_inv (hT : Agree P X.T) {op : BinOp} {t : Nat} {ox oy : Operand} {x y : AV} {p q : Value} {K : Value → Prop} (hx : RepV E x p) (hy : RepV E y q)
    (h : eqV (propSig M) X op t (isConst ox || isConst oy) x y K) :
    ∃ c, K c ∧ (do eqGuard op t ox oy p q; binOp op t p q : Sem Value).run P w = .ok c w ∧ plain c = true := by
  obtain ⟨i, h, ht⟩ := tiK_inv hT h
  obtain ⟨dd, hd, hagg, hund, hfl⟩ := ht.und
  split at h
  · rename_i b hk
    rw [hund] at hk
    exact known_inv hd hx hy hk h
  · split at h
    · rename_i l m _ _
      cases hfe : i.flat.isEmpty with
      | true => rw [hfe] at h; exact h.elim
      | false =>
        rw [hfe] at h
        have h : (match sameCells i.flat l m with | some s => eqIs (propSig M) op s K | none => False) := h
        split at h
        · rename_i s hs
          have hfl := hfl.resolve_left (fun e => by rw [e] at hfe; cases hfe)
          obtain ⟨xs, rfl, hl⟩ := hx
          obtain ⟨ys, rfl, hm⟩ := hy
          obtain ⟨fs, rfl⟩ : ∃ fs, dd = .struct fs := by
            cases dd <;> first | exact ⟨_, rfl⟩ | (simp only [flatOf] at hfl; rw [hfl] at hfe; cases hfe)
          simp only [flatOf] at hfl
          split at hfl
          · rw [hfl] at hfe; cases hfe
          · rename_i hst
            cases hff : flatFields P 0 fs.toList with
            | none => rw [hff] at hfl; rw [hfl] at hfe; cases hfe
            | some us =>
              rw [hff] at hfl
              simp only [Option.getD_some] at hfl
              subst hfl
              have hfo : P.fieldsOf t = fs := by simp [Program.fieldsOf, hd]
              refine eq_run rfl rfl (run_equal ?_) (fun ho => ?_) h
              · rw [run_equalIn_struct w 9999 t xs.toArray ys.toArray (by rw [hfo]; exact hd) (by simpa using hst), hfo]
                exact run_eqFields 9998 hff hs (by simpa using hl) (by simpa using hm)
              · refine agg_guard ?_
                have : ∃ n, P.depth = n + 2 := ⟨_, rfl⟩
                obtain ⟨n, hn⟩ := this
                rw [hn]
                unfold Program.eqGuardType
                simp only [hd]
                rw [← Array.any_toList]
                exact flat_guard n hff
        · exact h.elim
    · exact h.elim
theorem bin_lands (r : Rel G L E own ρ H d a w) (hT : Agree P X.T) {K : VK Prop} {op : BinOp} {t : Nat} {x y : Operand} (hx : Vis L x) (hy : Vis L y) (h : binO (propSig M) X ρ H d K op t x y) :
    Lands0 E w ρ H d K ((do pure (.value (← (do eqGuard op t x y (a.eval x) (a.eval y); binOp op t (a.eval x) (a.eval y)))) : Sem Next).run P w) := by
  obtain ⟨p, h1, hp⟩ := evalK_inv r hx h
  obtain ⟨q, h2, hq⟩ := evalK_inv r hy h1
  clear h h1
  have fin : ∀ {R : Result Value}, (∃ c, K (.v c) ρ H d ∧ R = .ok c w ∧ plain c = true) → R = (do eqGuard op t x y (a.eval x) (a.eval y); binOp op t (a.eval x) (a.eval y) : Sem Value).run P w →
      Lands0 E w ρ H d K ((do pure (.value (← (do eqGuard op t x y (a.eval x) (a.eval y); binOp op t (a.eval x) (a.eval y)))) : Sem Next).run P w) := by
    rintro R ⟨c, hc, hR, hpl⟩ e
    refine Lands0.value (v := c) r hc ⟨hpl, rfl⟩ ?_
    rw [Sem.run_bind, ← e, hR]
    rfl
  have eqs : ∀ {p q : AV}, RepV E p (a.eval x) → RepV E q (a.eval y) → eqV (propSig M) X op t (isConst x || isConst y) p q (fun c => K (.v c) ρ H d) →
      Lands0 E w ρ H d K ((do pure (.value (← (do eqGuard op t x y (a.eval x) (a.eval y); binOp op t (a.eval x) (a.eval y)))) : Sem Next).run P w) :=
    fun hp hq h => fin (eqV_inv hT hp hq h) rfl
  unfold binK at h2
  split at h2
  · rename_i u
    split at h2
    · rename_i v
      unfold binV at h2
      split at h2
      · rename_i k m
        split at h2
        · rename_i k' n
          obtain ⟨_, e1⟩ := hp
          obtain ⟨_, e2⟩ := hq
          have gd : (eqGuard op t x y (.int k m) (.int k' n)).run P w = .ok () w := by unfold eqGuard; split <;> rfl
          cases hs : isShift op with
          | true =>
            rw [hs] at h2
            obtain ⟨c, hc, hr, hpl⟩ := shiftK_inv (w := w) (k' := k') hs h2 t
            exact fin ⟨c, hc, hr, hpl⟩ (by rw [e1, e2, Sem.run_bind, gd]; rfl)
          | false =>
            rw [hs] at h2
            simp only [cond_false] at h2
            split at h2
            · rename_i ek
              subst ek
              obtain ⟨c, hc, hr, hpl⟩ := intK_inv (w := w) hs h2 t
              exact fin ⟨c, hc, hr, hpl⟩ (by rw [e1, e2, Sem.run_bind, gd]; rfl)
            · exact h2.elim
        · exact h2.elim
      · rename_i m
        split at h2
        · rename_i n
          obtain ⟨_, e1⟩ := hp
          obtain ⟨_, e2⟩ := hq
          have gd : (eqGuard op t x y (.string m) (.string n)).run P w = .ok () w := by unfold eqGuard; split <;> rfl
          obtain ⟨c, hc, hr, hpl⟩ := stringK_inv (w := w) h2 t
          exact fin ⟨c, hc, hr, hpl⟩ (by rw [e1, e2, Sem.run_bind, gd]; rfl)
        · exact h2.elim
      · exact eqs hp hq h2
    · exact eqs hp hq h2
  · exact eqs hp hq h2
theorem un_lands (r : Rel G L E own ρ H d a w) {K : VK Prop} {op : UnOp} {x : Operand} (hx : Vis L x) (h : unO (propSig M) ρ H d K op x) :
    Lands0 E w ρ H d K ((do pure (.value (← Op.unary op (a.eval x))) : Sem Next).run P w) := by
  obtain ⟨p, h1, hp⟩ := evalK_inv r hx h
  clear h
  unfold unK at h1
  split at h1
  · rename_i k n
    obtain ⟨_, e⟩ := hp
    have h1 := numK_inv h1
    exact Lands0.value r h1 ⟨rfl, rfl⟩ (by rw [e, fwrap_eq]; rfl)
  · rename_i k n
    obtain ⟨_, e⟩ := hp
    exact Lands0.value (x := .v (.int k (fwrap k (BitVec.ofInt k.bits (if k.signed then -1 else k.max) ^^^ BitVec.ofInt k.bits n).toNat))) r (numK_inv h1) ⟨rfl, rfl⟩ (by rw [e, fwrap_eq]; rfl)
  · rename_i b
    obtain ⟨_, e⟩ := hp
    exact Lands0.value r h1 ⟨rfl, rfl⟩ (by rw [e]; rfl)
  · exact h1.elim
end
end Am
end Go.Proofs.YtbdnfkmcfencdaaGreatDoor
/- The abstract machine is sound, operation by operation (slices: elements, 'len', 'append'). No condition. -/
namespace Go.Proofs.YtbdnfkmcfencdaaGreatDoor
namespace Am
open Go

theorem RepEs.congr {E : Env} {z : Nat} : ∀ {es : List (List AV)} {xs ys : List Value}, RepEs E z es xs → xs.take (es.length * z) = ys.take (es.length * z) → RepEs E z es ys
  | [], _, _, _, _ => by simp [RepEs]
  | e :: es, xs, ys, h, k => by
    simp only [RepEs] at h ⊢
    rw [List.length_cons, Nat.succ_mul] at k
    refine ⟨h.1, ?_, ?_⟩
    · have := congrArg (List.take z) k
      rw [List.take_take, List.take_take, Nat.min_eq_left (by omega)] at this
      rw [← this]; exact h.2.1
    · refine RepEs.congr h.2.2 ?_
      have := congrArg (List.drop z) k
      rw [List.drop_take, List.drop_take, Nat.add_sub_cancel] at this
      exact this
theorem RepEs.append {E : Env} {z : Nat} : ∀ {es fs : List (List AV)} {xs : List Value}, RepEs E z es xs → RepEs E z fs (xs.drop (es.length * z)) → RepEs E z (es ++ fs) xs
  | [], _, _, _, k => by simpa using k
  | e :: es, fs, xs, h, k => by
    simp only [RepEs, List.cons_append] at h ⊢
    refine ⟨h.1, h.2.1, RepEs.append h.2.2 ?_⟩
    rw [List.drop_drop]
    rw [List.length_cons, Nat.succ_mul, Nat.add_comm] at k
    exact k
theorem pureEs_append : ∀ {es fs : List (List AV)}, pureEs es = true → pureEs fs = true → pureEs (es ++ fs) = true
  | [], _, _, k => k
  | e :: es, fs, h, k => by simp only [pureEs, Bool.and_eq_true, List.cons_append] at h ⊢; exact ⟨h.1, pureEs_append h.2 k⟩
theorem byteCells_pure : ∀ l : List UInt8, pureEs (l.map fun b => [AV.v (.int .u8 b.toNat)]) = true
  | [] => rfl
  | _ :: l => by simp [pureEs, pureAVs, pureAV, okCells, okCell, byteCells_pure l]
theorem byteCells_rep {E : Env} : ∀ l : List UInt8, RepEs E 1 (l.map fun b => [AV.v (.int .u8 b.toNat)]) (l.map fun b => Value.int .u8 b.toNat)
  | [] => by simp [RepEs]
  | _ :: l => by
    simp only [List.map_cons, RepEs]
    exact ⟨rfl, by simp [RepVs, RepV, plain], by simpa using byteCells_rep l⟩

theorem RepEs.one {E : Env} {z : Nat} : ∀ {es : List (List AV)} {xs : List Value}, pureEs es = true → RepEs E z es xs → ∀ v ∈ xs.take (es.length * z), v.oneCell' = true
  | [], _, _, _, v, hv => by simp at hv
  | e :: es, xs, h, k, v, hv => by
    simp only [pureEs, Bool.and_eq_true] at h
    simp only [RepEs] at k
    rw [List.length_cons, Nat.succ_mul, Nat.add_comm, List.take_add] at hv
    rcases List.mem_append.1 hv with hv | hv
    · exact okCells_one h.1.2 k.2.1 v hv
    · exact RepEs.one h.2 k.2.2 v hv
/-- How a slice or a string shows its elements' cells: as many as one likes of them. -/
structure Shows (P : Program) (w : World) (E : Env) (size : Nat) (c : Value) (es : List (List AV)) (cs : List Value) : Prop where
  len : (Builtin.lenOf c).run P w = .ok es.length w
  cells : ∀ n w', n ≤ es.length → w'.heap = w.heap → (Builtin.firstCells size n c).run P w' = .ok (cs.take (n * size)).toArray w'
  pure : pureEs es = true
  rep : RepEs E size es cs
  long : cs.length = es.length * size

section
variable {P : Program} {G : Nat → Option (List Value)} {M : Md P G} {L : Nat → Prop} {X : Ctx} {E : Env} {own : Nat → List Nat} {ρ : Regs} {H : Heap} {d : Dx} {a : Act} {w : World}
theorem shows_nil {size : Nat} {p : Option Addr} {cap : Nat} : Shows P w E size (.slice p 0 cap) [] [] := by
  refine ⟨rfl, fun n w' hn _ => ?_, rfl, by simp [RepEs], by simp⟩
  have : n = 0 := by simpa using hn
  subst this
  cases p with
  | none => simp [Builtin.firstCells]
  | some p => simpa [Builtin.firstCells] using run_loadCells_list (P := P) w' p [] (by simp)
theorem shows_cells {size b off len cap : Nat} {arr : Array Value} {T : TypeId} {fr : Nat × Nat} {es : List (List AV)} (hb : w.heap[b]? = some (.cells arr T fr)) (hl : es.length = len)
    (hp : pureEs es = true) (hr : RepEs E size es (arr.toList.drop off)) : Shows P w E size (.slice (some ⟨b, off, none⟩) len cap) es ((arr.toList.drop off).take (es.length * size)) := by
  have hsz := hr.size
  refine ⟨by rw [hl]; rfl, fun n w' hn hw => ?_, hp, hr.congr (by rw [List.take_take, Nat.min_self]), by rw [List.length_take]; omega⟩
  have hns : n * size ≤ es.length * size := Nat.mul_le_mul_right _ hn
  rw [List.take_take, Nat.min_eq_left hns]
  have := run_loadCells_list (P := P) w' ⟨b, off, none⟩ ((arr.toList.drop off).take (n * size)) (fun j v e => by
    rw [addr_add, cell_at (by rw [hw]; exact hb)]
    simpa using getElem?_part e)
  rw [List.length_take, Nat.min_eq_left (by omega)] at this
  exact this
theorem elemsK_inv (r : Rel G L E own ρ H d a w) {size : Nat} {x : AV} {c : Value} (hx : RepV E x c) {K : List (List AV) → Prop} (h : elemsK (propSig M) size H x K) :
    ∃ es cs, K es ∧ Shows P w E size c es cs := by
  unfold elemsK at h
  split at h
  · rename_i s
    obtain ⟨hs, h1⟩ := sizedK_inv h
    clear h
    subst hs
    obtain ⟨_, rfl⟩ := hx
    refine ⟨_, s.data.toList.map fun b => Value.int .u8 b.toNat, h1, ⟨?_, fun n w' hn _ => ?_, byteCells_pure _, byteCells_rep _, by simp [byteCells]⟩⟩
    · simp [byteCells, Builtin.lenOf]
    · simp only [Builtin.firstCells, Nat.mul_one, Sem.run_pure]
      congr 1
      apply Array.ext'
      simp [ByteArray.extract, ByteArray.copySlice]
  · rename_i n1 n2
    obtain ⟨hp, rfl⟩ := hx
    have : n1 = 0 := by
      unfold plain at hp
      split at hp <;> first | rfl | (rename_i e; cases e; rfl) | (rename_i e; cases e) | cases hp
    subst this
    exact ⟨_, _, h, shows_nil⟩
  · obtain ⟨p, rfl⟩ := hx
    exact ⟨_, _, h, shows_nil⟩
  · rename_i z es
    obtain ⟨hz, h1⟩ := sizedK_inv h
    clear h
    subst hz
    obtain ⟨p, cap, rfl, hc, hp⟩ := hx
    rcases hp with rfl | ⟨b, off, arr, T, fr, rfl, him, hg, hpu, hrep⟩
    · exact ⟨_, _, h1, shows_nil⟩
    · exact ⟨_, _, h1, shows_cells (r.ok.mem b _ hg) rfl hpu hrep⟩
  · rename_i k
    obtain ⟨z, es, e, h0⟩ := arrK_inv h
    obtain ⟨hz, h1⟩ := sizedK_inv h0
    clear h h0
    subst hz
    rcases hx with ⟨b, hb, rfl⟩ | ⟨hb, p, rfl⟩
    · obtain ⟨arr, T, _, h2, _, h4, _, _, h7⟩ := r.arr e hb
      exact ⟨_, _, h1, shows_cells h2 h4 h7.1 (by simpa using h7.2)⟩
    · have := r.heap.obj k _ e
      simp only [RepO, hb] at this
      rw [this.2.1] at h1
      exact ⟨_, _, h1, shows_nil⟩
  · rename_i k lo len
    obtain ⟨z, es, e, h0⟩ := arrK_inv h
    obtain ⟨hz, h1⟩ := sizedK_inv h0
    clear h h0
    subst hz
    rcases hx with ⟨b, o, hb, hl, rfl, ho⟩ | ⟨hb, rfl, rfl, p, rfl⟩
    · obtain ⟨arr, T, _, h2, _, h4, h5, h6, h7⟩ := r.arr e hb
      have hlen : ((es.drop lo).take len).length = len := by simp; omega
      by_cases hz : len = 0
      · subst hz
        have : (es.drop lo).take 0 = [] := by simp
        rw [this] at h1
        exact ⟨_, _, h1, shows_nil⟩
      · have ho : o = lo * E.z k := ho.resolve_right (by omega)
        rw [h6] at ho
        exact ⟨_, _, h1, shows_cells h2 hlen (pureEs_take _ (pureEs_drop _ h7.1)) (by rw [ho]; exact (h7.2.drop lo).take _)⟩
    · have : (es.drop 0).take 0 = [] := by simp
      rw [this] at h1
      exact ⟨_, _, h1, shows_nil⟩
  · exact h.elim
end
end Am
end Go.Proofs.YtbdnfkmcfencdaaGreatDoor
/- The abstract machine is sound, operation by operation ('len', 'append'). No condition. -/
namespace Go.Proofs.YtbdnfkmcfencdaaGreatDoor
namespace Am
open Go

section
variable {P : Program} {G : Nat → Option (List Value)} {M : Md P G} {L : Nat → Prop} {X : Ctx} {E : Env} {own : Nat → List Nat} {ρ : Regs} {H : Heap} {d : Dx} {a : Act} {w : World}
theorem RepKv.length {E : Env} : ∀ {l : List (Value × AV)} {m : List MapEntry}, RepKv E l m → l.length = m.length
  | [], [], _ => rfl
  | (_, _) :: _, _ :: _, h => by simp only [RepKv] at h; simp [RepKv.length h.2.2.2.2]
  | [], _ :: _, h => by simp [RepKv] at h
  | _ :: _, [], h => by simp [RepKv] at h
theorem lenK_inv (r : Rel G L E own ρ H d a w) {x : AV} {c : Value} (hx : RepV E x c) {K : Nat → Prop} (h : lenK (propSig M) H x K) :
    ∃ p n cap, c = .slice p n cap ∧ K n := by
  unfold lenK at h
  split at h
  · rename_i n1 n2
    obtain ⟨hp, rfl⟩ := hx
    have : n1 = 0 := by
      unfold plain at hp
      split at hp <;> first | rfl | (rename_i e; cases e; rfl) | (rename_i e; cases e) | cases hp
    subst this
    exact ⟨_, _, _, rfl, h⟩
  · obtain ⟨p, rfl⟩ := hx; exact ⟨_, _, _, rfl, h⟩
  · obtain ⟨p, cap, rfl, _⟩ := hx; exact ⟨_, _, _, rfl, h⟩
  · rename_i k
    obtain ⟨z, es, e, h1⟩ := arrK_inv h
    rcases hx with ⟨b, hb, rfl⟩ | ⟨hb, p, rfl⟩
    · obtain ⟨arr, T, _, _, _, h4, _⟩ := r.arr e hb
      exact ⟨_, _, _, rfl, by rw [← h4]; exact h1⟩
    · have := r.heap.obj k _ e
      simp only [RepO, hb] at this
      rw [this.2.1] at h1
      exact ⟨_, _, _, rfl, h1⟩
  · rcases hx with ⟨b, o, hb, hl, rfl, ho⟩ | ⟨hb, rfl, rfl, p, rfl⟩
    · exact ⟨_, _, _, rfl, h⟩
    · exact ⟨_, _, _, rfl, h⟩
  · exact h.elim
theorem getObj_run {b : Nat} {es : Array MapEntry} {c : Nat} (h : w.heap[b]? = some (.map es c)) : (getObj b).run P w = .ok (.map es c) w := by
  simp only [getObj, Sem.run, h]
theorem getObj_iter {b : Nat} {s : ByteArray} {p : Nat} (h : w.heap[b]? = some (.stringIter s p)) : (getObj b).run P w = .ok (.stringIter s p) w := by
  simp only [getObj, Sem.run, h]
theorem setObj_run {b : Nat} {o p : Obj} (h : w.heap[b]? = some p) (hp : ∀ c T fr, p ≠ .cells c T fr) : (setObj b o).run P w = .ok () (setBlock w b o) := by
  cases p <;> first | exact absurd rfl (hp _ _ _) | (simp only [setObj, Sem.run, h]; rfl)
theorem len_lands (r : Rel G L E own ρ H d a w) (hT : Agree P X.T) {K : VK Prop} {t : Nat} {x : AV} {c : Value} (hx : RepV E x c) (h : lenO (propSig M) X ρ H d K t x)
    {ts : Array Nat} (ht0 : ts[0]? = some t) {ty : Nat} :
    Lands0 E w ρ H d K ((do pure (.value (← Builtin.len_ ts ty #[c])) : Sem Next).run P w) := by
  obtain ⟨i, h1, ht⟩ := tiK_inv hT h
  clear h
  obtain ⟨dd, hd, _, hund, hrun⟩ := ht.run_underlying (w := w)
  split at h1
  · rename_i n e hu
    obtain rfl := utOf_array (hund.symm.trans hu)
    refine Lands0.value (v := .int .i64 n) r h1 ⟨rfl, rfl⟩ ?_
    simp [Builtin.len_, ht0, hrun, goInt]
  · rename_i e hu
    obtain rfl := utOf_slice (hund.symm.trans hu)
    obtain ⟨p, n, cap, rfl, h2⟩ := lenK_inv r hx h1
    refine Lands0.value (v := .int .i64 n) r h2 ⟨rfl, rfl⟩ ?_
    simp [Builtin.len_, ht0, hrun, goInt]
  · rename_i hu
    obtain rfl := utOf_string (hund.symm.trans hu)
    split at h1
    · obtain ⟨_, rfl⟩ := hx
      refine Lands0.value r h1 ⟨rfl, rfl⟩ ?_
      simp [Builtin.len_, ht0, hrun, goInt]
    · exact h1.elim
  · rename_i k e hu
    obtain rfl := utOf_map (hund.symm.trans hu)
    split at h1
    · obtain ⟨_, rfl⟩ := hx
      refine Lands0.value (v := .int .i64 0) r h1 ⟨rfl, rfl⟩ ?_
      simp [Builtin.len_, ht0, hrun, goInt]
    · rename_i j
      obtain ⟨kv, e, h2⟩ := mapObjK_inv h1
      obtain ⟨b, hb, rfl⟩ := hx
      obtain ⟨ents, clock, _, h3, h4⟩ := r.map e hb
      have hl := h4.length
      refine Lands0.value (v := .int .i64 kv.length) r h2 ⟨rfl, rfl⟩ ?_
      simp [Builtin.len_, ht0, hrun, getObj_run h3, goInt, hl]
    · exact h1.elim
  · exact h1.elim

/-! ### 'append' -/
theorem run_append_in {t u ty e n sLen sCap : Nat} {ts : Array Nat} (h0 : ts[0]? = some t) (h1 : ts[1]? = some u) (ht : P.underlying t = some (.slice e)) {du : TypeDesc} (hu : P.underlying u = some du)
    (hni : ∀ k, du ≠ .int k) {i : TypeInfo} (hi : P.info? e = some i) {base : Option Addr} {x : Value} {new : List Value} (hl : (Builtin.lenOf x).run P w = .ok n w)
    (hnew : (Builtin.firstCells i.size n x).run P w = .ok new.toArray w) (hroom : sLen + n ≤ sCap) {w' : World}
    (hst : (match base with | some ad => storeCells (ad.add (sLen * i.size)) new | none => pure () : Sem Unit).run P w = .ok () w') :
    (Builtin.append_ ts ty #[.slice base sLen sCap, x]).run P w = .ok (.slice base (sLen + n) sCap) w' := by
  simp only [Builtin.append_, h0, h1, List.getElem?_toArray, List.getElem?_cons_zero, List.getElem?_cons_succ, Sem.run_bind, run_underlying ht, run_underlying hu, Result.andThen_ok, sizeOf, typeInfo, run_program, hi,
    Sem.run_pure]
  simp only [Bool.false_eq_true, if_false, Bool.not_false, if_true, hl, Result.andThen_ok, hroom, hnew, Sem.run_bind]
  cases base with
  | none =>
    simp only [Sem.run_pure] at hst
    cases hst
    rfl
  | some ad =>
    simp only at hst
    simp [hst]
theorem run_append_up {t u ty e n sLen sCap : Nat} {ts : Array Nat} (h0 : ts[0]? = some t) (h1 : ts[1]? = some u) (ht : P.underlying t = some (.slice e)) {du : TypeDesc} (hu : P.underlying u = some du)
    (hni : ∀ k, du ≠ .int k) {i : TypeInfo} (hi : P.info? e = some i) {z : Value} (hz : i.zero = some z) {base : Option Addr} {x : Value} {old new : List Value} (hl : (Builtin.lenOf x).run P w = .ok n w)
    (hnew : (Builtin.firstCells i.size n x).run P w.drew = .ok new.toArray w.drew) (hold : (Builtin.firstCells i.size sLen (.slice base sLen sCap)).run P w.drew = .ok old.toArray w.drew)
    (hroom : sCap < sLen + n) (hfit : (sLen + n) * (i.bytes + 1) ≤ roomy) :
    (Builtin.append_ ts ty #[.slice base sLen sCap, x]).run P w = .ok (.slice (some ⟨w.heap.size, 0, none⟩) (sLen + n) (grownCap w (sLen + n) sCap e))
      (push w.drew (.cells (old.toArray ++ new.toArray ++ Builtin.zeroCells z.cells (grownCap w (sLen + n) sCap e - (sLen + n))) e)) := by
  have hb : (sLen + n) * i.bytes ≤ 140737488355328 := by
    rw [Nat.mul_add] at hfit
    have : roomy = 35184372088832 := by decide
    omega
  have hn : sLen + n ≤ 35184372088832 := by
    rw [Nat.mul_add] at hfit
    have : roomy = 35184372088832 := by decide
    omega
  have h48 := growslice_fits hroom hb
  have h48' : ¬ (Builtin.nextslicecap (sLen + n) sCap * i.bytes > 2 ^ 48) := by
    have : (2 : Nat) ^ 48 = 281474976710656 := by decide
    omega
  have h63 : ¬ (((sLen + n : Nat) : Int) > IntKind.i64.max) := by
    have : IntKind.i64.max = 9223372036854775807 := by decide
    omega
  simp only [Builtin.append_, h0, h1, List.getElem?_toArray, List.getElem?_cons_zero, List.getElem?_cons_succ, Sem.run_bind, run_underlying ht, run_underlying hu, Result.andThen_ok, sizeOf, typeInfo, run_program, hi,
    Sem.run_pure, Bool.false_eq_true, if_false, Bool.not_false, if_true, hl, Nat.not_le.2 hroom, h63, h48', false_and, zeroValue, hz]
  simp [Question.forced, hold, hnew, newRow, grownCap]
  rw [show (old ++ new).toArray = old.toArray ++ new.toArray from by simp, Array.append_assoc]
  rfl
end
end Am
end Go.Proofs.YtbdnfkmcfencdaaGreatDoor
/- The abstract machine is sound, operation by operation (arrays made and grown). No condition. -/
namespace Go.Proofs.YtbdnfkmcfencdaaGreatDoor
namespace Am
open Go

section
variable {P : Program} {G : Nat → Option (List Value)} {M : Md P G} {L : Nat → Prop} {X : Ctx} {E : Env} {own : Nat → List Nat} {ρ : Regs} {H : Heap} {d : Dx} {a : Act} {w : World}
theorem beside_drew (w : World) : Beside w w.drew := ⟨rfl, rfl, rfl, Nat.le_refl _, fun _ _ h _ => h⟩
theorem Rel.drew (r : Rel G L E own ρ H d a w) : Rel G L E own ρ H d a w.drew := r.world (beside_drew w) fun _ _ => rfl
/-- An object is dead: its block is nobody's. -/
theorem Rel.dead (r : Rel G L E own ρ H d a w) (k : Nat) : Rel G L E (fun j => if j = k then [] else own j) ρ (H.set k .dead) d a w :=
  ⟨r.regs, r.heap.set (.refl w) k .dead [] (fun _ _ _ _ => rfl) (by simp [RepO]) (by simp) (by simp), r.ok, r.glob, r.defs, laid_set r.laid (by simp)⟩
/-- The world moves where nobody looks. -/
theorem Rel.away {w' : World} (r : Rel G L E own ρ H d a w) (hb : Beside w w') (h1 : ∀ k b, b ∈ own k → w'.heap[b]? = w.heap[b]?) (h2 : ∀ b, E.Γ b ≠ none → w'.heap[b]? = w.heap[b]?) :
    Rel G L E own ρ H d a w' := ⟨r.regs, r.heap.world hb h1, r.ok.world h2, r.glob, r.defs, r.laid⟩
/-- A new object in a place that is nobody's. -/
theorem Rel.place (r : Rel G L E own ρ H d a w) (p : Place) (n tot z : Nat) (o : AObj) (B : List Nat) (hbox : ∀ cs, o = .box cs → okCells cs = true)
    (ho : RepO (E.add H.length p n tot z) w H.length o B) (hn : B.Nodup) (ha : ∀ b ∈ B, ∀ k, b ∉ own k) (hf : ∀ b ∈ B, E.Γ b = none ∧ b < w.heap.size) :
    ∃ E' own', Rel G L E' own' ρ (H ++ [o]) d a w ∧ E'.loc H.length = p ∧ E'.n H.length = n ∧ E'.tot H.length = tot ∧ E'.z H.length = z ∧ Goes E w E' w := by
  have h0 := (r.heap.beyond H.length (Nat.le_refl _)).1
  have hl : E.Le (E.add H.length p n tot z) := Env.add_le h0
  exact ⟨_, _, r.env hl (r.heap.add p n tot z o B ho hn ha hf) ⟨r.ok.mem, r.ok.im, r.ok.norec⟩ (laid_add r.laid hbox), by simp [Env.add], by simp [Env.add], by simp [Env.add], by simp [Env.add],
    hl, fun b hb => .inl hb, .refl w⟩
/-- A new array in a new block. -/
theorem Rel.newArr (r : Rel G L E own ρ H d a w) {z tot : Nat} {es : List (List AV)} {cells : Array Value} (T : TypeId) (hs : cells.size = tot * z) (hl : es.length ≤ tot) (hp : pureEs es = true)
    (hr : RepEs E z es cells.toList) :
    ∃ E' own', Rel G L E' own' ρ (H ++ [.arr z es]) d a (push w (.cells cells T)) ∧ RepV E' (.ar H.length) (.slice (some ⟨w.heap.size, 0, none⟩) es.length tot) ∧ Goes E w E' (push w (.cells cells T)) := by
  have h0 := (r.heap.beyond H.length (Nat.le_refl _)).1
  have hle : E.Le (E.add H.length (.blk w.heap.size) es.length tot z) := Env.add_le h0
  obtain ⟨E', own', h1, h2, h3, h4, h5, h6⟩ := r.new (.cells cells T) es.length tot z (.arr z es) (fun _ e => by cases e) (by
    simp only [RepO, Env.add, if_true]
    exact ⟨cells, T, trivial, push_new _ _, hs, trivial, hl, trivial, hp, hr.mono hle⟩)
  exact ⟨E', own', h1, .inl ⟨_, h2, by rw [h3, h4]⟩, h6⟩
/-- A new array without a block. -/
theorem Rel.newVoid (r : Rel G L E own ρ H d a w) (z : Nat) (p : Option Addr) :
    ∃ E' own', Rel G L E' own' ρ (H ++ [.arr z []]) d a w ∧ RepV E' (.ar H.length) (.slice p 0 0) ∧ Goes E w E' w := by
  obtain ⟨E', own', h1, h2, _, _, _, h6⟩ := r.place .void 0 0 z (.arr z []) [] (fun _ e => by cases e) (by simp [RepO, Env.add]) (by simp) (by simp) (by simp)
  exact ⟨E', own', h1, .inr ⟨h2, p, rfl⟩, h6⟩
theorem elemT_inv (hT : Agree P X.T) {t : Nat} {F : TI → Prop} (h : elemT (propSig M) X t F) : ∃ e j, F j ∧ P.underlying t = some (.slice e) ∧ TIs P e j := by
  obtain ⟨i, h1, ht⟩ := tiK_inv hT h
  clear h
  obtain ⟨dd, hd, _, hund, _⟩ := ht.run_underlying (w := default)
  split at h1
  · rename_i e hu
    obtain rfl := utOf_slice (hund.symm.trans hu)
    obtain ⟨j, h2, hj⟩ := tiK_inv hT h1
    exact ⟨e, j, h2, hd, hj⟩
  · exact h1.elim
theorem notIntT_inv (hT : Agree P X.T) {t : Nat} {b : Prop} (h : notIntT (propSig M) X t b) : b ∧ ∃ du, P.underlying t = some du ∧ ∀ k, du ≠ .int k := by
  obtain ⟨i, h1, ht⟩ := tiK_inv hT h
  clear h
  obtain ⟨dd, hd, _, hund, _⟩ := ht.run_underlying (w := default)
  split at h1
  · rename_i e hu
    obtain rfl := utOf_slice (hund.symm.trans hu)
    exact ⟨h1, _, hd, nofun⟩
  · rename_i hu
    obtain rfl := utOf_string (hund.symm.trans hu)
    exact ⟨h1, _, hd, nofun⟩
  · exact h1.elim
theorem growK_inv {z bytes : Nat} {es ys : List (List AV)} {K : AV → Heap → Prop} (h : growK (propSig M) z bytes es ys H K) :
    (es.length + ys.length) * (bytes + 1) ≤ roomy ∧ K (.ar H.length) (H ++ [.arr z (es ++ ys)]) := by
  obtain ⟨h1, h2⟩ := need_inv h
  rw [newK_eq'] at h2
  exact ⟨h1, h2⟩
theorem le_grownCap (w : World) (need old : Nat) (e : TypeId) : need ≤ grownCap w need old e := grownCap_ge w need old e

/-- 'append', where there is no block, or the block is in nobody's hands any more. -/
theorem append_fin (r : Rel G L E own ρ H d a w) {t u e ty : Nat} {ts : Array Nat} (h0 : ts[0]? = some t) (h1 : ts[1]? = some u) (ht : P.underlying t = some (.slice e)) {du : TypeDesc} (hu : P.underlying u = some du)
    (hni : ∀ k, du ≠ .int k) {j : TI} (hj : TIs P e j) {x : Value} {es ys : List (List AV)} {cs : List Value} (hy : Shows P w E j.size x ys cs) {base : Option Addr} {sCap : Nat} {os : List Value}
    (hfit : (es.length + ys.length) * (j.bytes + 1) ≤ roomy) {K : AV → Heap → Prop} (hk : K (.ar H.length) (H ++ [.arr j.size (es ++ ys)]))
    (hes : Shows P w E j.size (.slice base es.length sCap) es os)
    (hbase : (sCap = 0) ∨ ∃ b arr T, base = some ⟨b, 0, none⟩ ∧ w.heap[b]? = some (.cells arr T (0, 0)) ∧ arr.size = sCap * j.size ∧ es.length ≤ sCap ∧ (∀ k, b ∉ own k) ∧ E.Γ b = none ∧ RepEs E j.size es arr.toList ∧
      ∀ v ∈ cs, v.oneCell' = true) :
    ∃ E' own' H' w' y v, K y H' ∧ Rel G L E' own' ρ H' d a w' ∧ RepV E' y v ∧ Goes E w E' w' ∧ (Builtin.append_ ts ty #[.slice base es.length sCap, x]).run P w = .ok v w' := by
  obtain ⟨i, hi, his, hib, z, hz, hz1, hz2, hz3, hz4⟩ := hj.info
  have hpure : pureEs (es ++ ys) = true := pureEs_append hes.pure hy.pure
  have hx : (Builtin.firstCells i.size ys.length x).run P w = .ok cs.toArray w := by
    rw [his, hy.cells ys.length w (Nat.le_refl _) rfl, List.take_of_length_le (by rw [hy.long]; exact Nat.le_refl _)]
  have hx' : (Builtin.firstCells i.size ys.length x).run P w.drew = .ok cs.toArray w.drew := by
    rw [his, hy.cells ys.length w.drew (Nat.le_refl _) rfl, List.take_of_length_le (by rw [hy.long]; exact Nat.le_refl _)]
  by_cases hroom : es.length + ys.length ≤ sCap
  · rcases hbase with rfl | ⟨b, arr, T, rfl, hb, hsz, hle, hown, hΓ, hrep, hone⟩
    · -- nothing to nothing
      have hes0 : es = [] := List.length_eq_zero_iff.1 (by omega)
      have hys0 : ys = [] := List.length_eq_zero_iff.1 (by omega)
      subst hes0 hys0
      have hcs : cs = [] := List.length_eq_zero_iff.1 (by rw [hy.long]; simp)
      subst hcs
      obtain ⟨E', own', r', hv, hg⟩ := r.newVoid j.size base
      refine ⟨E', own', _, w, _, _, hk, r', hv, hg, ?_⟩
      have := run_append_in (ty := ty) (w := w) (base := base) (sLen := 0) (sCap := 0) (n := 0) (w' := w) h0 h1 ht hu hni hi (hy.len) hx (by simp) (by cases base <;> rfl)
      exact this
    · have hcl := hy.long
      have hfitc : es.length * j.size + cs.length ≤ arr.size := by
        rw [hcl, hsz, ← Nat.add_mul]; exact Nat.mul_le_mul_right _ hroom
      have hst : (storeCells ((⟨b, 0, none⟩ : Addr).add (es.length * i.size)) cs).run P w = .ok () (setBlock w b (.cells (paste arr.toList (es.length * j.size) cs).toArray T (0, 0))) := by
        rw [addr_add, his, Nat.zero_add]
        exact run_storeCells cs 0 hb hone (by simpa using hfitc)
      have hs := beside_setBlock (w := w) b (.cells (paste arr.toList (es.length * j.size) cs).toArray T (0, 0)) (fun ob e => by rw [hb] at e; cases e; rfl)
      have r1 := r.away hs (fun k c hc => setBlock_other fun e => hown k (e ▸ hc)) (fun c hc => setBlock_other fun e => hc (e ▸ hΓ))
      have hbl : b < w.heap.size := by
        rcases Nat.lt_or_ge b w.heap.size with h | h
        · exact h
        · rw [Array.getElem?_eq_none h] at hb; cases hb
      have h00 := (r1.heap.beyond H.length (Nat.le_refl _)).1
      have hle' : E.Le (E.add H.length (.blk b) (es ++ ys).length sCap j.size) := Env.add_le h00
      have hlen : (paste arr.toList (es.length * j.size) cs).length = arr.size := by rw [paste_length _ _ _ (by simpa using hfitc)]; simp
      have hr2 : RepEs E j.size (es ++ ys) (paste arr.toList (es.length * j.size) cs) := by
        refine RepEs.append (hrep.congr ?_) ?_
        · rw [paste_take_lt (Nat.le_refl _) (by simpa using hfitc)]
        · refine hy.rep.congr ?_
          have := paste_drop_lt (l := arr.toList) (p := cs) (n := 0) (z := es.length * j.size) (by simpa using hfitc)
          rw [Nat.add_zero] at this
          rw [this]
          unfold paste
          rw [List.take_zero, List.nil_append, List.take_append_of_le_length (by rw [hcl]; exact Nat.le_refl _)]
      obtain ⟨E', own', r', g1, g2, g3, _, hg⟩ := r1.place (.blk b) (es ++ ys).length sCap j.size (.arr j.size (es ++ ys)) [b] (fun _ e => by cases e) (by
        simp only [RepO, Env.add, if_true]
        exact ⟨_, T, trivial, setBlock_same hb, by simpa [hlen] using hsz, trivial, by simpa using hroom, trivial, hpure, hr2.mono hle'⟩) (by simp)
        (fun c hc k => by simp at hc; subst hc; exact hown k) (fun c hc => by simp at hc; subst hc; exact ⟨hΓ, Nat.lt_of_lt_of_le hbl hs.size⟩)
      refine ⟨E', own', _, _, _, _, hk, r', .inl ⟨b, g1, by rw [g2, g3]⟩, Goes.trans ⟨.refl E, fun _ h => .inl h, hs⟩ hg, ?_⟩
      have := run_append_in (ty := ty) (w := w) (base := some ⟨b, 0, none⟩) (sLen := es.length) (sCap := sCap) h0 h1 ht hu hni hi hy.len hx hroom hst
      rw [this, List.length_append]
  · have hold := hes.cells es.length w.drew (Nat.le_refl _) rfl
    have hup := run_append_up (ty := ty) (w := w) (base := base) (sLen := es.length) (sCap := sCap) h0 h1 ht hu hni hi hz hy.len hx' (by rw [his]; exact hold) (by omega) (by rw [hib]; exact hfit)
    have hol := hes.long
    rw [List.take_of_length_le (by rw [hol]; exact Nat.le_refl _)] at hup
    have hcap := le_grownCap w (es.length + ys.length) sCap e
    have hzl : z.cells.size = j.size := by simpa using hz4
    obtain ⟨E', own', r', hv, hg⟩ := r.drew.newArr (z := j.size) (tot := grownCap w (es.length + ys.length) sCap e) (es := es ++ ys) e (cells := os.toArray ++ cs.toArray ++ Builtin.zeroCells z.cells (grownCap w (es.length + ys.length) sCap e - (es.length + ys.length)))
      (by
        rw [Array.size_append, Array.size_append, size_zeroCells, hzl]
        simp only [List.size_toArray]
        rw [hol, hy.long, ← Nat.add_mul, ← Nat.add_mul]
        congr 1
        omega)
      (by simpa using hcap) hpure (by
        have hyl := hy.long
        refine RepEs.append (hes.rep.congr ?_) ?_
        · simp only [Array.toList_append, List.append_assoc]
          rw [List.take_append_of_le_length (by show _ ≤ os.length; omega)]
        · simp only [Array.toList_append, List.append_assoc]
          rw [List.drop_append_of_le_length (by show _ ≤ os.length; omega), List.drop_of_length_le (by show os.length ≤ _; omega), List.nil_append]
          refine hy.rep.congr ?_
          rw [List.take_append_of_le_length (by show _ ≤ cs.length; omega)])
    refine ⟨E', own', _, _, _, _, hk, r', hv, Goes.trans ⟨.refl E, fun _ h => .inl h, beside_drew w⟩ hg, ?_⟩
    rw [hup, List.length_append]
    rfl
theorem append_lands (r : Rel G L E own ρ H d a w) (hT : Agree P X.T) {K : VK Prop} {t u ty : Nat} {ts : Array Nat} (h0 : ts[0]? = some t) (h1 : ts[1]? = some u) {x y : AV} {cx cy : Value} (hx : RepV E x cx) (hy : RepV E y cy)
    (h : elemT (propSig M) X t fun j => notIntT (propSig M) X u (appendK (propSig M) j.size j.bytes x y H fun a H => K a ρ H d)) :
    Lands G L E a w K ((do pure (.value (← Builtin.append_ ts ty #[cx, cy])) : Sem Next).run P w) := by
  obtain ⟨e, j, h2, ht, hj⟩ := elemT_inv (M := M) hT h
  obtain ⟨h3, du, hu, hni⟩ := notIntT_inv hT h2
  clear h h2
  obtain ⟨ys, cs, h4, hys⟩ := elemsK_inv r hy h3
  clear h3
  have hone : ∀ v ∈ cs, v.oneCell' = true := by
    have := hys.rep.one hys.pure
    rwa [List.take_of_length_le (by rw [hys.long]; exact Nat.le_refl _)] at this
  have fin : ∀ {own1 : Nat → List Nat} {H1 : Heap} {es : List (List AV)} {base : Option Addr} {sCap : Nat} {os : List Value}, Rel G L E own1 ρ H1 d a w →
      growK (propSig M) j.size j.bytes es ys H1 (fun a H => K a ρ H d) → cx = .slice base es.length sCap → Shows P w E j.size (.slice base es.length sCap) es os →
      ((sCap = 0) ∨ ∃ b arr T, base = some ⟨b, 0, none⟩ ∧ w.heap[b]? = some (.cells arr T (0, 0)) ∧ arr.size = sCap * j.size ∧ es.length ≤ sCap ∧ (∀ k, b ∉ own1 k) ∧ E.Γ b = none ∧ RepEs E j.size es arr.toList) →
      Lands G L E a w K ((do pure (.value (← Builtin.append_ ts ty #[cx, cy])) : Sem Next).run P w) := by
    intro own1 H1 es base sCap os r1 hg hcx hes hb
    obtain ⟨hfit, hk⟩ := growK_inv hg
    subst hcx
    obtain ⟨E', own', H', w', q, v, hk', r', hv, hgo, hrun⟩ := append_fin (ty := ty) r1 h0 h1 ht hu hni hj hys (K := fun a H => K a ρ H d) hfit hk hes (hb.imp id fun ⟨b, arr, T, g1, g2, g3, g4, g5, g6, g7⟩ => ⟨b, arr, T, g1, g2, g3, g4, g5, g6, g7, hone⟩)
    exact ⟨q, ρ, H', d, E', own', a.defers, w', v, hk', r'.same, hv, hgo, .inl ⟨by rw [Sem.run_bind, hrun]; rfl, rfl⟩⟩
  split at h4
  · rename_i n1 n2
    obtain ⟨hp, rfl⟩ := hx
    have : n1 = 0 ∧ n2 = 0 := by
      unfold plain at hp
      split at hp <;> first | exact ⟨rfl, rfl⟩ | (rename_i e; cases e; exact ⟨rfl, rfl⟩) | (rename_i e; cases e) | cases hp
    obtain ⟨rfl, rfl⟩ := this
    exact fin r h4 rfl shows_nil (.inl rfl)
  · obtain ⟨p, rfl⟩ := hx
    exact fin r h4 rfl shows_nil (.inl rfl)
  · rename_i k
    obtain ⟨z, es, e', h5⟩ := arrK_inv h4
    clear h4
    obtain ⟨hz, h6⟩ := sizedK_inv h5
    clear h5
    rw [setK_eq] at h6
    subst hz
    rcases hx with ⟨b, hb, rfl⟩ | ⟨hb, p, rfl⟩
    · obtain ⟨arr, T, g1, g2, g3, g4, g5, g6, g7⟩ := r.arr e' hb
      refine fin (r.dead k) h6 (by rw [g4]) (shows_cells (off := 0) g2 rfl g7.1 (by simpa using g7.2)) (.inr ⟨b, arr, T, rfl, g2, g3, by rw [g4]; exact g5, fun k' => ?_, (r.heap.free k b (by rw [g1]; simp)).1, g7.2⟩)
      by_cases hk : k' = k
      · simp [hk]
      · simp only [hk, if_false]
        exact r.heap.apart k k' b (Ne.symm hk) (by rw [g1]; simp)
    · have := r.heap.obj k _ e'
      simp only [RepO, hb] at this
      obtain ⟨_, rfl, _⟩ := this
      exact fin (r.dead k) h6 rfl shows_nil (.inl rfl)
  · rename_i k lo len
    cases lo with
    | succ lo => exact h4.elim
    | zero =>
      have h4 : arrK (propSig M) H k (fun z' es => sizedK (propSig M) z' j.size (es.take len) fun es => setK H k .dead fun H => growK (propSig M) j.size j.bytes es ys H fun a H => K a ρ H d) := h4
      obtain ⟨z, es, e', h5⟩ := arrK_inv h4
      clear h4
      obtain ⟨hz, h6⟩ := sizedK_inv h5
      clear h5
      rw [setK_eq] at h6
      subst hz
      rcases hx with ⟨b, o, hb, hl, rfl, ho⟩ | ⟨hb, _, rfl, p, rfl⟩
      · obtain ⟨arr, T, g1, g2, g3, g4, g5, g6, g7⟩ := r.arr e' hb
        have hlen : (es.take len).length = len := by simp; omega
        by_cases ht0 : E.tot k = 0
        · have hl0 : len = 0 := by omega
          subst hl0
          have : es.take 0 = [] := by simp
          rw [this] at h6
          exact fin (r.dead k) h6 rfl shows_nil (.inl (by omega))
        · have ho : o = 0 := ho.elim (fun ho => by simpa using ho) (fun ho => absurd ho.symm ht0)
          subst ho
          refine fin (r.dead k) h6 (by rw [hlen]) (shows_cells (off := 0) g2 rfl (pureEs_take _ g7.1) (by simpa using g7.2.take len)) (.inr ⟨b, arr, T, rfl, g2, by simpa using g3, by rw [hlen]; omega, fun k' => ?_, (r.heap.free k b (by rw [g1]; simp)).1, g7.2.take len⟩)
          by_cases hk : k' = k
          · simp [hk]
          · simp only [hk, if_false]
            exact r.heap.apart k k' b (Ne.symm hk) (by rw [g1]; simp)
      · have := r.heap.obj k _ e'
        simp only [RepO, hb] at this
        obtain ⟨_, rfl, _⟩ := this
        exact fin (r.dead k) h6 rfl shows_nil (.inl rfl)
  · exact h4.elim
end
end Am
end Go.Proofs.YtbdnfkmcfencdaaGreatDoor
