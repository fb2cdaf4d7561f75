/- The abstract machine: operations that only compute or read have one value, which hangs on their operands and on what these show. No condition. -/
import Derived.Test.YtbdnfkmcfencdaaGreatDoorAmb
import Derived.Orders
namespace Go.Proofs.YtbdnfkmcfencdaaGreatDoor
namespace Am
open Go

section
variable {P : Program} {G : Nat → Option (List Value)} {M : Md P G} {X : Ctx} {ρ ρ' : Regs} {H H' : Heap} {d d' : Dx}
/-- The value of an operand. -/
def constV : Value → Option AV
  | .int k n => some (.v (.int k n))
  | .bool b => some (.v (.bool b))
  | .string s => some (.v (.string s))
  | .agg cs => if plains cs.toList then some (.agg (cs.toList.map .v)) else none
  | c => if plain c then some (.v c) else none
def valOf (ρ : Regs) : Operand → Option AV
  | .tmp t => some (ρ.get t)
  | .const c => constV c
  | .global g => some (.glob g 0)
  | .func f => some (.fn f [])
theorem constK_eq (c : Value) (K : AV → Prop) : constK (propSig M) c K = match constV c with | some y => K y | none => False := by
  cases c with
  | agg cs =>
    show cond (plains cs.toList) (mapK (fun x K => K (.v x)) cs.toList fun l => K (.agg l)) False = _
    rw [mapK_eq _ AV.v (fun _ _ => rfl)]
    simp only [constV]
    cases plains cs.toList <;> rfl
  | int k n => rfl
  | bool b => rfl
  | string s => rfl
  | float k b => show cond (plain (.float k b)) (K (.v (.float k b))) False = _; simp only [constV]; cases plain (.float k b) <;> rfl
  | complex k b c => show cond (plain (.complex k b c)) (K (.v (.complex k b c))) False = _; simp only [constV]; cases plain (.complex k b c) <;> rfl
  | pointer a => show cond (plain (.pointer a)) (K (.v (.pointer a))) False = _; simp only [constV]; cases plain (.pointer a) <;> rfl
  | slice a n m => show cond (plain (.slice a n m)) (K (.v (.slice a n m))) False = _; simp only [constV]; cases plain (.slice a n m) <;> rfl
  | map a => show cond (plain (.map a)) (K (.v (.map a))) False = _; simp only [constV]; cases plain (.map a) <;> rfl
  | chan a => show cond (plain (.chan a)) (K (.v (.chan a))) False = _; simp only [constV]; cases plain (.chan a) <;> rfl
  | func f a b => show cond (plain (.func f a b)) (K (.v (.func f a b))) False = _; simp only [constV]; cases plain (.func f a b) <;> rfl
  | nilFunc => show cond (plain (.nilFunc)) (K (.v (.nilFunc))) False = _; simp only [constV]; cases plain (.nilFunc) <;> rfl
  | iface t v => show cond (plain (.iface t v)) (K (.v (.iface t v))) False = _; simp only [constV]; cases plain (.iface t v) <;> rfl
  | nilIface => show cond (plain (.nilIface)) (K (.v (.nilIface))) False = _; simp only [constV]; cases plain (.nilIface) <;> rfl
  | tuple vs => show cond (plain (.tuple vs)) (K (.v (.tuple vs))) False = _; simp only [constV]; cases plain (.tuple vs) <;> rfl
theorem evalK_eq (ρ : Regs) (x : Operand) (K : AV → Prop) : evalK (propSig M) ρ x K = match valOf ρ x with | some y => K y | none => False := by
  cases x with
  | tmp t => exact Regs.getK_eq _ _ _
  | const c => exact constK_eq c K
  | global g => rfl
  | func f => rfl
/-- A predicate transformer of one value. -/
def Det {α : Type} (F : (α → Prop) → Prop) : Prop := ∀ K, F K → ∃ y, K y ∧ ∀ K', K' y → F K'
theorem Det.ret {α : Type} (y : α) : Det (fun K => K y) := fun _ h => ⟨y, h, fun _ h => h⟩
theorem Det.fail {α : Type} : Det (fun _ : α → Prop => False) := fun _ h => h.elim
theorem Det.bind {α β : Type} {F : (α → Prop) → Prop} {g : α → (β → Prop) → Prop} (hF : Det F) (hg : ∀ y, Det (g y)) : Det (fun K => F fun y => g y K) := fun K h => by
  obtain ⟨y, h1, k1⟩ := hF _ h
  obtain ⟨z, h2, k2⟩ := hg y K h1
  exact ⟨z, h2, fun K' h' => k1 _ (k2 K' h')⟩
theorem Det.map {α β : Type} {F : (α → Prop) → Prop} (f : α → β) (hF : Det F) : Det (fun K => F fun y => K (f y)) := hF.bind (g := fun y K => K (f y)) fun _ => .ret _
theorem Det.cond {α : Type} (b : Bool) {F F' : (α → Prop) → Prop} (h : Det F) (h' : Det F') : Det (fun K => cond b (F K) (F' K)) := by cases b <;> assumption
theorem Det.condF {α : Type} (b : Bool) {F : (α → Prop) → Prop} (h : Det F) : Det (fun K => _root_.cond b (F K) False) := Det.cond b h .fail
theorem Det.and {α : Type} (c : Prop) {F : (α → Prop) → Prop} (h : Det F) : Det (fun K => c ∧ F K) := fun K hk => by
  obtain ⟨y, h1, k1⟩ := h K hk.2
  exact ⟨y, h1, fun K' h' => ⟨hk.1, k1 K' h'⟩⟩
theorem Det.ite {α : Type} (c : Prop) [Decidable c] {F F' : (α → Prop) → Prop} (h : Det F) (h' : Det F') : Det (fun K => if c then F K else F' K) := by
  by_cases hc : c
  · simp only [hc, if_true]; exact h
  · simp only [hc, if_false]; exact h'
theorem Det.need {α : Type} (c : Prop) [Decidable c] {F : (α → Prop) → Prop} (h : Det F) : Det (fun K => (propSig M).need c (F K)) := Det.ite c h .fail
theorem Det.elem {α : Type} (es : List (List AV)) (n : Nat) {g : List AV → (α → Prop) → Prop} (h : ∀ e, Det (g e)) : Det (fun K => (propSig M).elem es n fun e => g e K) := fun K hk => by
  obtain ⟨e, he, hk⟩ := elem_inv hk
  obtain ⟨y, h1, k1⟩ := h e K hk
  exact ⟨y, h1, fun K' h' => elem_mk he (k1 K' h')⟩
theorem Det.eval (ρ : Regs) (x : Operand) {α : Type} {g : AV → (α → Prop) → Prop} (h : ∀ e, Det (g e)) : Det (fun K => evalK (propSig M) ρ x fun e => g e K) := by
  simp only [evalK_eq]
  cases valOf ρ x with
  | none => exact .fail
  | some y => exact h y
theorem Det.ti (t : Nat) {α : Type} {g : TI → (α → Prop) → Prop} (h : ∀ e, Det (g e)) : Det (fun K => tiK (propSig M) X t fun e => g e K) := by
  unfold tiK
  cases X.T t with
  | none => exact .fail
  | some y => exact h y
theorem Det.mapK {α γ : Type} {f : α → (γ → Prop) → Prop} (hf : ∀ x, Det (f x)) : ∀ l : List α, Det (mapK f l)
  | [] => .ret []
  | x :: l => by
    have := (hf x).bind (g := fun y K => Am.mapK f l fun r => K (y :: r)) fun _ => (Det.mapK hf l).map _
    exact this
theorem Det.eqK {α : Type} {F F' : (α → Prop) → Prop} (h : ∀ K, F K = F' K) (k : Det F') : Det F := by
  have : F = F' := funext h
  rw [this]; exact k
theorem det_numK (k : IntKind) (n : Int) : Det (numK (propSig M) k n) := fun _ h => ⟨_, numK_inv h, fun _ h' => numK_mk h'⟩
theorem det_asNat (x : AV) : Det (asNat (propSig M) x) := by
  unfold asNat
  split
  · exact Det.need _ (.ret _)
  · exact .fail
theorem det_intK (op : BinOp) (k : IntKind) (a b : Int) : Det (intK (propSig M) op k a b) := by
  cases op <;> unfold intK <;> first | exact .ret _ | exact det_numK _ _ | exact Det.need _ (det_numK _ _) | exact .fail
theorem det_shiftK (op : BinOp) (k : IntKind) (a b : Int) : Det (shiftK (propSig M) op k a b) := by
  cases op <;> unfold shiftK <;> exact Det.need _ (det_numK _ _)
theorem det_stringK (op : BinOp) (a b : ByteArray) : Det (stringK (propSig M) op a b) := by
  cases op <;> unfold stringK <;> first | exact .ret _ | exact Det.need _ (.ret _) | exact .fail
theorem det_eqIs (op : BinOp) (t : Bool) : Det (eqIs (propSig M) op t) := by
  cases op <;> unfold eqIs <;> first | exact .ret _ | exact .fail
theorem det_eqV (op : BinOp) (t : Nat) (nil : Bool) (x y : AV) : Det (eqV (propSig M) X op t nil x y) := by
  unfold eqV
  refine Det.ti t fun i => ?_
  split
  · exact det_eqIs _ _
  · split
    · refine Det.cond _ .fail ?_
      split
      · exact det_eqIs _ _
      · exact .fail
    · exact .fail
theorem det_binV (op : BinOp) (t : Nat) (nil : Bool) (x y : Value) : Det (binV (propSig M) X op t nil x y) := by
  unfold binV
  split
  · split
    · exact Det.cond _ (det_shiftK _ _ _ _) (Det.ite _ (det_intK _ _ _ _) .fail)
    · exact .fail
  · split
    · exact det_stringK _ _ _
    · exact .fail
  · exact det_eqV _ _ _ _ _
theorem det_binK (op : BinOp) (t : Nat) (nil : Bool) (x y : AV) : Det (binK (propSig M) X op t nil x y) := by
  unfold binK
  split
  · split
    · exact (det_binV _ _ _ _ _).map _
    · exact (det_eqV _ _ _ _ _).map _
  · exact (det_eqV _ _ _ _ _).map _
theorem det_unK (op : UnOp) (x : AV) : Det (unK (propSig M) op x) := by
  unfold unK
  split
  · exact (det_numK _ _).map _
  · exact (det_numK _ _).map _
  · exact .ret _
  · exact .fail
theorem det_objK (H : Heap) (k : Nat) {α : Type} {g : AObj → (α → Prop) → Prop} (h : ∀ o, Det (g o)) : Det (fun K => objK (propSig M) H k fun o => g o K) := by
  unfold objK
  simp only [getK_eq]
  cases H[k]? with
  | none => exact .fail
  | some y => exact h y
theorem det_sizedK {α γ : Type} (z size : Nat) (x : α) {g : α → (γ → Prop) → Prop} (h : ∀ y, Det (g y)) : Det (fun K => sizedK (propSig M) z size x fun y => g y K) := Det.condF _ (h x)
theorem det_getK {α γ : Type} (l : List α) (n : Nat) {g : α → (γ → Prop) → Prop} (h : ∀ y, Det (g y)) : Det (fun K => getK l n False fun y => g y K) := by
  simp only [getK_eq]
  cases l[n]? with
  | none => exact .fail
  | some y => exact h y
theorem det_partK (i : TI) (cs : List AV) (off : Nat) : Det (partK (propSig M) i cs off) := by
  unfold partK
  refine Det.cond _ ?_ ?_
  · simp only [dropK_eq, takeK_eq]
    exact Det.condF _ (.ret _)
  · exact det_getK cs off (g := fun y K => K y) fun y => .ret y
theorem det_cellsK (x : AV) : Det (cellsK (propSig M) x) := Det.condF _ (.ret _)
theorem det_loadK (t : Nat) (a : AV) (H : Heap) : Det (loadK (propSig M) X t a H) := by
  unfold loadK
  refine Det.ti t fun i => ?_
  split
  · exact det_objK (g := fun o K => match o with | .box cs => partK (propSig M) i cs _ K | _ => False) H _ fun o => by cases o <;> first | exact det_partK _ _ _ | exact .fail
  · exact det_objK (g := fun o K => match o with | .arr z es => (propSig M).elem es _ fun cs => partK (propSig M) i cs _ K | _ => False) H _ fun o => by cases o <;> first | exact Det.elem _ _ fun e => det_partK _ _ _ | exact .fail
  · exact det_partK _ _ _
  · split
    · exact det_partK _ _ _
    · exact .fail
  · exact .fail
end
end Am
end Go.Proofs.YtbdnfkmcfencdaaGreatDoor
/- The abstract machine: operations that only compute or read (the second part). No condition. -/
namespace Go.Proofs.YtbdnfkmcfencdaaGreatDoor
namespace Am
open Go

section
variable {P : Program} {G : Nat → Option (List Value)} {M : Md P G} {X : Ctx} {ρ ρ' : Regs} {H H' : Heap} {d d' : Dx}
theorem evalK_agree {x : Operand} (h : valOf ρ' x = valOf ρ x) (K : AV → Prop) : evalK (propSig M) ρ' x K = evalK (propSig M) ρ x K := by rw [evalK_eq, evalK_eq, h]
theorem evalsK_agree : ∀ {l : List Operand}, (∀ x ∈ l, valOf ρ' x = valOf ρ x) → ∀ (K : List AV → Prop), mapK (evalK (propSig M) ρ') l K = mapK (evalK (propSig M) ρ) l K
  | [], _, _ => rfl
  | x :: l, h, K => by
    rw [mapK_cons, mapK_cons, evalK_agree (h x (by simp))]
    congr 1
    funext y
    exact evalsK_agree (fun x hx => h x (by simp [hx])) _
/-- Two heaps are alike where a value shows. -/
def Like (H H' : Heap) (y : AV) : Prop := ∀ k ∈ idsAV y, H'[k]? = H[k]?
theorem evalK_like {x : Operand} (h : ∀ y, valOf ρ x = some y → Like H H' y) {f f' : AV → Prop} (hf : ∀ y, Like H H' y → f' y = f y) : evalK (propSig M) ρ x f' = evalK (propSig M) ρ x f := by
  rw [evalK_eq, evalK_eq]
  cases hv : valOf ρ x with
  | none => rfl
  | some y => exact hf y (h y hv)
theorem objK_like {k : Nat} (h : H'[k]? = H[k]?) (K : AObj → Prop) : objK (propSig M) H' k K = objK (propSig M) H k K := by
  unfold objK
  rw [getK_eq, getK_eq, h]
theorem loadK_like {t : Nat} {y : AV} (h : Like H H' y) (K : AV → Prop) : loadK (propSig M) X t y H' K = loadK (propSig M) X t y H K := by
  unfold loadK
  congr 1
  funext i
  cases y with
  | ref k off => exact objK_like (h k (by simp [idsAV])) _
  | aptr k e off => exact objK_like (h k (by simp [idsAV])) _
  | _ => rfl
theorem lenK_like {y : AV} (h : Like H H' y) (K : Nat → Prop) : lenK (propSig M) H' y K = lenK (propSig M) H y K := by
  unfold lenK
  split
  · rfl
  · rfl
  · rfl
  · rename_i k; exact objK_like (h k (by simp [idsAV])) _
  · rfl
  · rfl
theorem elemsK_like {z : Nat} {y : AV} (h : Like H H' y) (K : List (List AV) → Prop) : elemsK (propSig M) z H' y K = elemsK (propSig M) z H y K := by
  unfold elemsK
  split
  · rfl
  · rfl
  · rfl
  · rfl
  · rename_i k; exact objK_like (h k (by simp [idsAV])) _
  · rename_i k lo len; exact objK_like (h k (by simp [idsAV])) _
  · rfl
/-- What an operation sees. -/
structure Sees (hb : Bool) (ρ ρ' : Regs) (H H' : Heap) (o : Op) : Prop where
  regs : ∀ x ∈ o.operands, valOf ρ' x = valOf ρ x
  heap : hb = true → ∀ x ∈ o.operands, ∀ y, valOf ρ x = some y → Like H H' y
/-- An operation of one value, which hangs on what it sees alone. -/
def Fixed {P : Program} {G : Nat → Option (List Value)} (hb : Bool) (M : Md P G) (X : Ctx) (o : Op) : Prop :=
  ∀ (ρ : Regs) (H : Heap), Det (fun K : AV → Prop => opK (propSig M) X o (fun x _ _ _ => K x) (fun _ _ _ _ => False) ρ H []) ∧
    ∀ ρ' H' d' (K Pk : VK Prop), Sees hb ρ ρ' H H' o → opK (propSig M) X o K Pk ρ' H' d' = opK (propSig M) X o (fun x _ _ _ => K x ρ' H' d') (fun _ _ _ _ => False) ρ H []
theorem Sees.one {hb : Bool} {o : Op} (s : Sees hb ρ ρ' H H' o) {x : Operand} (h : x ∈ o.operands) : valOf ρ' x = valOf ρ x := s.regs x h
theorem fixed_move (x : Operand) : Fixed false M X (.move x) := fun ρ H => ⟨Det.eval ρ x fun y => .ret y, fun ρ' H' d' K Pk s => evalK_agree (s.one (by simp [Op.operands])) _⟩
theorem det_pickV (ρ : Regs) (H : Heap) (c a b : AV) : Det (fun K : AV → Prop => pickV (propSig M) ρ H [] (fun x _ _ _ => K x) c a b) := by
  unfold pickV
  split
  · split
    · exact .ret _
    · exact Det.cond _ (.ret _) (.ret _)
  · exact .fail
theorem fixed_pick (c x y : Operand) : Fixed false M X (.pick c x y) := fun ρ H => by
  refine ⟨Det.eval ρ c fun u => Det.eval ρ x fun p => Det.eval ρ y fun q => det_pickV ρ H u p q, fun ρ' H' d' K Pk s => ?_⟩
  show pickO _ _ _ _ _ _ _ _ = pickO _ _ _ _ _ _ _ _
  unfold pickO
  rw [evalK_agree (s.one (by simp [Op.operands]))]
  congr 1; funext u
  rw [evalK_agree (s.one (by simp [Op.operands]))]
  congr 1; funext p
  rw [evalK_agree (s.one (by simp [Op.operands]))]
  rfl
theorem fixed_load (t : Nat) (x : Operand) : Fixed true M X (.load t x) := fun ρ H => by
  refine ⟨Det.eval ρ x fun u => det_loadK t u H, fun ρ' H' d' K Pk s => ?_⟩
  show loadO (propSig M) X ρ' H' d' K t x = loadO (propSig M) X ρ H [] (fun x _ _ _ => K x ρ' H' d') t x
  unfold loadO
  rw [evalK_agree (s.one (by simp [Op.operands]))]
  exact evalK_like (s.heap rfl x (by simp [Op.operands])) fun y hy => loadK_like hy _
theorem fixed_nilCheck (x : Operand) : Fixed false M X (.nilCheck x) := fun ρ H => by
  refine ⟨Det.eval ρ x fun u => ?_, fun ρ' H' d' K Pk s => ?_⟩
  · unfold nilCheckV
    split <;> first | exact .ret _ | exact .fail
  · show nilCheckO _ _ _ _ _ _ = nilCheckO _ _ _ _ _ _
    unfold nilCheckO
    rw [evalK_agree (s.one (by simp [Op.operands]))]
    congr 1
theorem fixed_bin (op : BinOp) (t : Nat) (x y : Operand) (u : Nat) : Fixed false M X (.binOp op t x y u) := fun ρ H => by
  refine ⟨Det.eval ρ x fun p => Det.eval ρ y fun q => det_binK op t _ p q, fun ρ' H' d' K Pk s => ?_⟩
  show binO (propSig M) X ρ' H' d' K op t x y = binO (propSig M) X ρ H [] (fun x _ _ _ => K x ρ' H' d') op t x y
  unfold binO
  rw [evalK_agree (s.one (by simp [Op.operands]))]
  congr 1; funext p
  rw [evalK_agree (s.one (by simp [Op.operands]))]
theorem fixed_un (op : UnOp) (t : Nat) (x : Operand) : Fixed false M X (.unOp op t x) := fun ρ H => by
  refine ⟨Det.eval ρ x fun p => det_unK op p, fun ρ' H' d' K Pk s => ?_⟩
  show unO (propSig M) ρ' H' d' K op x = unO (propSig M) ρ H [] (fun x _ _ _ => K x ρ' H' d') op x
  unfold unO
  rw [evalK_agree (s.one (by simp [Op.operands]))]
theorem fixed_iface (t : Nat) (x : Operand) : Fixed false M X (.makeInterface t x) := fun ρ H => by
  refine ⟨Det.ti t fun i => ?_, fun ρ' H' d' K Pk s => ?_⟩
  · split
    · exact .fail
    · refine Det.eval ρ x fun p => ?_
      unfold ifaceV
      split <;> exact .ret _
  · show ifaceO _ _ _ _ _ _ _ _ = ifaceO _ _ _ _ _ _ _ _
    unfold ifaceO
    congr 1; funext i
    split
    · rfl
    · rw [evalK_agree (s.one (by simp [Op.operands]))]
      refine congrArg _ (funext fun y => ?_)
      unfold ifaceV
      split <;> rfl
theorem fixed_func (f : Fn) (first caps : Array Operand) : Fixed false M X (.makeFunc f first caps) := fun ρ H => by
  refine ⟨?_, fun ρ' H' d' K Pk s => ?_⟩
  · show Det fun K => makeFuncO _ _ _ _ (fun x _ _ _ => K x) f first.toList caps.toList
    unfold makeFuncO
    cases f with
    | func f => exact Det.condF _ ((Det.mapK (fun x => Det.eval ρ x fun y => .ret y) _).map _)
    | _ => exact .fail
  · show makeFuncO _ _ _ _ _ _ _ _ = makeFuncO _ _ _ _ _ _ _ _
    unfold makeFuncO
    cases f with
    | func f =>
      simp only
      unfold funcO
      rw [evalsK_agree (ρ := ρ) fun x hx => s.one (by simp [Op.operands]; exact .inr (by simpa using hx))]
    | _ => rfl
theorem fixed_extract (x : Operand) (n : Nat) : Fixed false M X (.extract x n) := fun ρ H => by
  refine ⟨Det.eval ρ x fun p => ?_, fun ρ' H' d' K Pk s => ?_⟩
  · split
    · exact det_getK _ _ fun y => .ret y
    · exact .fail
  · show extractO (propSig M) ρ' H' d' K x n = extractO (propSig M) ρ H [] (fun x _ _ _ => K x ρ' H' d') x n
    unfold extractO
    rw [evalK_agree (s.one (by simp [Op.operands]))]
theorem det_moved (ρ : Regs) (H : Heap) (a : AV) (n : Nat) : Det (fun K : AV → Prop => moved (propSig M) ρ H [] (fun x _ _ _ => K x) a n) := by
  unfold moved
  split <;> first | exact .ret _ | exact .fail
theorem moved_eq (a : AV) (n : Nat) (K : VK Prop) : moved (propSig M) ρ' H' d' K a n = moved (propSig M) ρ H [] (fun x _ _ _ => K x ρ' H' d') a n := by
  unfold moved
  split <;> rfl
theorem fixed_fieldAddr (t : Nat) (x : Operand) (f : Nat) : Fixed false M X (.fieldAddr t x f) := fun ρ H => by
  refine ⟨Det.ti t fun i => Det.eval ρ x fun p => ?_, fun ρ' H' d' K Pk s => ?_⟩
  · split
    · exact det_moved _ _ _ _
    · exact .fail
  · show fieldAddrO _ _ _ _ _ _ _ _ _ = fieldAddrO _ _ _ _ _ _ _ _ _
    unfold fieldAddrO
    congr 1; funext i
    rw [evalK_agree (s.one (by simp [Op.operands]))]
    refine congrArg _ (funext fun p => ?_)
    split
    · exact moved_eq _ _ _
    · rfl
theorem fixed_field (t : Nat) (x : Operand) (f : Nat) : Fixed false M X (.field t x f) := fun ρ H => by
  refine ⟨Det.ti t fun i => Det.eval ρ x fun p => ?_, fun ρ' H' d' K Pk s => ?_⟩
  · split
    · split
      · exact Det.ti _ fun j => det_partK _ _ _
      · exact .fail
    · exact .fail
  · show fieldO (propSig M) X ρ' H' d' K t x f = fieldO (propSig M) X ρ H [] (fun x _ _ _ => K x ρ' H' d') t x f
    unfold fieldO
    congr 1; funext i
    rw [evalK_agree (s.one (by simp [Op.operands]))]
theorem det_indexV (ρ : Regs) (H : Heap) (size : Nat) (a : AV) (n : Nat) : Det (fun K : AV → Prop => indexV (propSig M) ρ H [] (fun x _ _ _ => K x) size a n) := by
  unfold indexV
  split
  · exact det_sizedK _ _ _ fun es => Det.elem es n fun e => .ret _
  · exact det_objK (g := fun o (K : AV → Prop) => match o with | .arr z es => sizedK (propSig M) z size _ fun k => (propSig M).need (n < es.length) (K (.aptr k n 0)) | _ => False) H _ fun o => by
      cases o <;> first | exact det_sizedK _ _ _ fun k => Det.need _ (.ret _) | exact .fail
  · rename_i k lo len
    exact det_objK (g := fun o (K : AV → Prop) => match o with | .arr z es => sizedK (propSig M) z size k fun k => (propSig M).need (n < len) (K (.aptr k (lo + n) 0)) | _ => False) H _ fun o => by
      cases o <;> first | exact det_sizedK _ _ _ fun k => Det.need _ (.ret _) | exact .fail
  · exact .fail
theorem indexV_like {size : Nat} {a : AV} {n : Nat} (h : Like H H' a) (K : VK Prop) : indexV (propSig M) ρ' H' d' K size a n = indexV (propSig M) ρ H [] (fun x _ _ _ => K x ρ' H' d') size a n := by
  unfold indexV
  cases a with
  | ar k => exact objK_like (h k (by simp [idsAV])) _
  | sl k lo len => exact objK_like (h k (by simp [idsAV])) _
  | _ => rfl
theorem fixed_indexAddr (t : Nat) (x y : Operand) : Fixed true M X (.indexAddr t x y) := fun ρ H => by
  refine ⟨Det.ti t fun i => Det.eval ρ x fun p => Det.eval ρ y fun q => (det_asNat q).bind fun n => ?_, fun ρ' H' d' K Pk s => ?_⟩
  · split
    · exact Det.ti _ fun j => Det.need _ (det_moved _ _ _ _)
    · exact Det.ti _ fun j => det_indexV _ _ _ _ _
    · exact .fail
  · show indexAddrO _ _ _ _ _ _ _ _ _ = indexAddrO _ _ _ _ _ _ _ _ _
    unfold indexAddrO
    congr 1; funext i
    rw [evalK_agree (s.one (by simp [Op.operands]))]
    refine evalK_like (s.heap rfl x (by simp [Op.operands])) fun p hp => ?_
    rw [evalK_agree (s.one (by simp [Op.operands]))]
    refine congrArg _ (funext fun q => congrArg _ (funext fun n => ?_))
    split
    · refine congrArg _ (funext fun j => congrArg _ ?_)
      exact moved_eq _ _ _
    · refine congrArg _ (funext fun j => ?_)
      exact indexV_like hp _
    · rfl
theorem fixed_index (t : Nat) (x y : Operand) : Fixed false M X (.index t x y) := fun ρ H => by
  refine ⟨Det.ti t fun i => Det.eval ρ x fun p => Det.eval ρ y fun q => (det_asNat q).bind fun n => ?_, fun ρ' H' d' K Pk s => ?_⟩
  · split
    · split
      · exact Det.need _ (.ret _)
      · exact .fail
    · split
      · exact Det.ti _ fun j => Det.need _ (det_partK _ _ _)
      · exact .fail
    · exact .fail
  · show indexO _ _ _ _ _ _ _ _ _ = indexO _ _ _ _ _ _ _ _ _
    unfold indexO
    congr 1; funext i
    rw [evalK_agree (s.one (by simp [Op.operands]))]
    congr 1; funext p
    rw [evalK_agree (s.one (by simp [Op.operands]))]
    congr 1
theorem det_keyK (u : UT) (a b : Value) : Det (keyK (propSig M) u a b) := by
  unfold keyK
  split
  · exact .ret _
  · exact .fail
theorem det_findK {α : Type} (u : UT) (key : Value) (F : (α → Prop) → Prop) (g : AV → (α → Prop) → Prop) (hF : Det F) (hg : ∀ y, Det (g y)) : ∀ l : List (Value × AV), Det (fun K => findK (propSig M) u key l (F K) fun y => g y K)
  | [] => hF
  | (k, x) :: l => (det_keyK u key k).bind (g := fun t K => cond t (g x K) (findK (propSig M) u key l (F K) fun y => g y K)) fun t => Det.cond t (hg x) (det_findK u key F g hF hg l)
theorem det_mapT {α : Type} (t : Nat) {g : UT → Nat → (α → Prop) → Prop} (h : ∀ u e, Det (g u e)) : Det (fun K => mapT (propSig M) X t fun u e => g u e K) := by
  unfold mapT
  refine Det.ti t fun i => ?_
  split
  · refine Det.ti _ fun j => ?_
    split
    · exact h _ _
    · exact h _ _
    · exact .fail
  · exact .fail
theorem det_foundV (ρ : Regs) (H : Heap) (u : UT) (j : TI) (ok : Bool) (key : Value) (kv : List (Value × AV)) : Det (fun K : AV → Prop => foundV (propSig M) ρ H [] (fun x _ _ _ => K x) u j ok key kv) :=
  det_findK u key _ _ (.ret _) (fun _ => .ret _) kv
theorem det_lookupV (ρ : Regs) (H : Heap) (u : UT) (j : TI) (ok : Bool) (a b : AV) : Det (fun K : AV → Prop => lookupV (propSig M) ρ H [] (fun x _ _ _ => K x) u j ok a b) := by
  unfold lookupV
  split
  · split
    · exact det_objK (g := fun o (K : AV → Prop) => match o with | .map kv => foundV (propSig M) ρ H [] (fun x _ _ _ => K x) u j ok _ kv | _ => False) H _ fun o => by cases o <;> first | exact det_foundV _ _ _ _ _ _ _ | exact .fail
    · exact det_foundV _ _ _ _ _ _ _
    · exact .fail
  · exact .fail
theorem fixed_lookup (t : Nat) (x y : Operand) (ok : Bool) : Fixed true M X (.lookup t x y ok) := fun ρ H => by
  refine ⟨?_, fun ρ' H' d' K Pk s => ?_⟩
  · exact det_mapT (P := P) (G := G) (X := X) t (g := fun u e (K : AV → Prop) => tiK (propSig M) X e fun j => evalK (propSig M) ρ x fun a => evalK (propSig M) ρ y fun b => lookupV (propSig M) ρ H [] (fun x _ _ _ => K x) u j ok a b)
      fun u e => Det.ti e fun j => Det.eval ρ x fun p => Det.eval ρ y fun q => det_lookupV ρ H u j ok p q
  · show lookupO (propSig M) X ρ' H' d' K t x y ok = lookupO (propSig M) X ρ H [] (fun x _ _ _ => K x ρ' H' d') t x y ok
    unfold lookupO
    congr 1; funext u e
    congr 1; funext j
    rw [evalK_agree (s.one (by simp [Op.operands]))]
    refine evalK_like (s.heap rfl x (by simp [Op.operands])) fun p hp => ?_
    rw [evalK_agree (s.one (by simp [Op.operands]))]
    congr 1; funext q
    unfold lookupV
    cases q with
    | v key =>
      cases p with
      | mp k => exact objK_like (hp k (by simp [idsAV])) _
      | v m => cases m with
        | map m => cases m <;> rfl
        | _ => rfl
      | _ => rfl
    | _ => rfl
theorem fixed_typeAssert (x : Operand) (t u : Nat) (ok : Bool) : Fixed false M X (.typeAssert x t u ok) := fun ρ H => by
  have hn : ∀ j, Det (fun K : AV → Prop => noAssert (propSig M) ρ H [] (fun x _ _ _ => K x) j ok) := fun j => Det.condF _ (.ret _)
  have ha : ∀ j t y, Det (fun K : AV → Prop => assertV (propSig M) ρ H [] (fun x _ _ _ => K x) j t u ok y) := fun j t y => Det.cond _ (.ret _) (hn j)
  refine ⟨Det.eval ρ x fun p => Det.ti u fun j => Det.ite _ .fail ?_, fun ρ' H' d' K Pk s => ?_⟩
  · split
    · exact ha _ _ _
    · exact ha _ _ _
    · exact hn _
    · exact .fail
  · show typeAssertO _ _ _ _ _ _ _ _ _ = typeAssertO _ _ _ _ _ _ _ _ _
    unfold typeAssertO
    rw [evalK_agree (s.one (by simp [Op.operands]))]
    refine congrArg _ (funext fun p => congrArg _ (funext fun j => ?_))
    split
    · rfl
    · split
      · show assertV _ _ _ _ _ _ _ _ _ _ = assertV _ _ _ _ _ _ _ _ _ _
        unfold assertV noAssert
        rfl
      · unfold assertV noAssert
        rfl
      · unfold noAssert
        rfl
      · rfl
end
end Am
end Go.Proofs.YtbdnfkmcfencdaaGreatDoor
/- The abstract machine: operations that only compute or read (the third part). No condition. -/
namespace Go.Proofs.YtbdnfkmcfencdaaGreatDoor
namespace Am
open Go

section
variable {P : Program} {G : Nat → Option (List Value)} {M : Md P G} {X : Ctx} {ρ ρ' : Regs} {H H' : Heap} {d d' : Dx}
theorem det_partsK (ρ : Regs) (l : List (Nat × Operand)) : Det (partsK (propSig M) ρ l) :=
  Det.mapK (fun p => by obtain ⟨i, x⟩ := p; exact Det.eval ρ x fun y => .ret _) l
theorem partsK_agree {l : List (Nat × Operand)} (h : ∀ p ∈ l, valOf ρ' p.2 = valOf ρ p.2) (K : List (Nat × AV) → Prop) : partsK (propSig M) ρ' l K = partsK (propSig M) ρ l K := by
  induction l generalizing K with
  | nil => rfl
  | cons p l ih =>
    obtain ⟨i, x⟩ := p
    show evalK (propSig M) ρ' x (fun a => partsK (propSig M) ρ' l fun r => K ((i, a) :: r)) = evalK (propSig M) ρ x fun a => partsK (propSig M) ρ l fun r => K ((i, a) :: r)
    rw [evalK_agree (h (i, x) (by simp))]
    exact congrArg _ (funext fun a => ih (fun p hp => h p (by simp [hp])) _)
theorem det_fillK (place : Nat → Option (Nat × Nat)) : ∀ (l : List (Nat × AV)) (cs : List AV), Det (fillK (propSig M) place l cs)
  | [], cs => .ret cs
  | (i, x) :: l, cs => by
    show Det fun K => match place i with
      | some (off, size) => cellsK (propSig M) x fun xs => sizedK (propSig M) xs.length size xs fun xs => List.casesOn xs False fun _ _ => pasteK cs off xs False fun cs => fillK (propSig M) place l cs K
      | none => False
    cases place i with
    | none => exact .fail
    | some q =>
      obtain ⟨off, size⟩ := q
      refine (det_cellsK x).bind (g := fun xs K => sizedK (propSig M) xs.length size xs fun xs => List.casesOn xs False fun _ _ => pasteK cs off xs False fun cs => fillK (propSig M) place l cs K) fun xs => ?_
      refine det_sizedK _ _ _ (g := fun xs K => List.casesOn xs False fun _ _ => pasteK cs off xs False fun cs => fillK (propSig M) place l cs K) fun xs => ?_
      cases xs with
      | nil => exact .fail
      | cons y ys =>
        by_cases hl : off + (y :: ys).length ≤ cs.length
        · simp only [pasteK_some _ _ _ _ _ hl]
          exact det_fillK place l _
        · have e := fun K => pasteK_none (β := Prop) cs off (y :: ys) False K (by omega) (by simp)
          simp only [e]
          exact .fail
theorem det_builtT {α : Type} (i : TI) {F : (α → Prop) → Prop} (h : Det F) : Det (fun K => builtT (propSig M) X i (F K)) := by
  unfold builtT
  split
  · exact h
  · exact Det.ti _ fun j => h
  · exact .fail
theorem fixed_build (t : Nat) (ps : Array (Nat × Operand)) : Fixed false M X (.build t ps) := fun ρ H => by
  refine ⟨Det.ti t fun i => det_builtT i ((det_partsK ρ _).bind fun l => (det_fillK _ l _).map _), fun ρ' H' d' K Pk s => ?_⟩
  show buildO (propSig M) X ρ' H' d' K t ps.toList = buildO (propSig M) X ρ H [] (fun x _ _ _ => K x ρ' H' d') t ps.toList
  unfold buildO
  refine congrArg _ (funext fun i => congrArg _ ?_)
  exact partsK_agree (fun p hp => s.one (by simp [Op.operands]; exact ⟨p.1, by simpa using hp⟩)) _
theorem det_boundK (ρ : Regs) (x : Option Operand) (n : Nat) : Det (boundK (propSig M) ρ x n) := by
  unfold boundK
  split
  · exact .ret _
  · exact Det.eval ρ _ fun a => det_asNat a
theorem boundK_agree {x : Option Operand} {n : Nat} (h : ∀ o, x = some o → valOf ρ' o = valOf ρ o) (K : Nat → Prop) : boundK (propSig M) ρ' x n K = boundK (propSig M) ρ x n K := by
  unfold boundK
  split
  · rfl
  · exact evalK_agree (h _ rfl) _
theorem det_elemT {α : Type} (t : Nat) {g : TI → (α → Prop) → Prop} (h : ∀ j, Det (g j)) : Det (fun K => elemT (propSig M) X t fun j => g j K) := by
  unfold elemT
  refine Det.ti t fun i => ?_
  split
  · exact Det.ti _ h
  · exact .fail
theorem det_lenK (H : Heap) (x : AV) : Det (lenK (propSig M) H x) := by
  unfold lenK
  split
  · exact .ret _
  · exact .ret _
  · exact .ret _
  · exact det_objK (g := fun o (K : Nat → Prop) => match o with | .arr _ es => K es.length | _ => False) H _ fun o => by cases o <;> first | exact .ret _ | exact .fail
  · exact .ret _
  · exact .fail
theorem det_elemsK (z : Nat) (H : Heap) (x : AV) : Det (elemsK (propSig M) z H x) := by
  unfold elemsK
  split
  · exact det_sizedK _ _ _ (g := fun y K => K y) fun y => .ret y
  · exact .ret _
  · exact .ret _
  · exact det_sizedK _ _ _ (g := fun y K => K y) fun y => .ret y
  · exact det_objK (g := fun o (K : List (List AV) → Prop) => match o with | .arr z' es => sizedK (propSig M) z' z es K | _ => False) H _ fun o => by
      cases o <;> first | exact det_sizedK _ _ _ (g := fun y K => K y) fun y => .ret y | exact .fail
  · rename_i k lo len
    exact det_objK (g := fun o (K : List (List AV) → Prop) => match o with | .arr z' es => sizedK (propSig M) z' z ((es.drop lo).take len) K | _ => False) H _ fun o => by
      cases o <;> first | exact det_sizedK _ _ _ (g := fun y K => K y) fun y => .ret y | exact .fail
  · exact .fail
theorem det_cutV (ρ : Regs) (H : Heap) (size : Nat) (a : AV) (l h : Nat) : Det (fun K : AV → Prop => cutV (propSig M) ρ H [] (fun x _ _ _ => K x) size a l h) := by
  unfold cutV
  split
  · exact det_sizedK _ _ _ fun es => .ret _
  · exact det_objK (g := fun o (K : AV → Prop) => match o with | .arr z es => sizedK (propSig M) z size _ fun k => K (.sl k l (h - l)) | _ => False) H _ fun o => by
      cases o <;> first | exact det_sizedK _ _ _ fun k => .ret _ | exact .fail
  · rename_i k b _
    exact det_objK (g := fun o (K : AV → Prop) => match o with | .arr z es => sizedK (propSig M) z size k fun k => K (.sl k (b + l) (h - l)) | _ => False) H _ fun o => by
      cases o <;> first | exact det_sizedK _ _ _ fun k => .ret _ | exact .fail
  · exact .ret _
  · exact .ret _
  · exact .fail
theorem cutV_like {size : Nat} {a : AV} {l h : Nat} (hl : Like H H' a) (K : VK Prop) : cutV (propSig M) ρ' H' d' K size a l h = cutV (propSig M) ρ H [] (fun x _ _ _ => K x ρ' H' d') size a l h := by
  unfold cutV
  split
  · rfl
  · rename_i k; exact objK_like (hl k (by simp [idsAV])) _
  · rename_i k b n; exact objK_like (hl k (by simp [idsAV])) _
  · rfl
  · rfl
  · rfl
theorem det_sliceV (ρ : Regs) (H : Heap) (size : Nat) (a : AV) (lo hi mx : Option Operand) : Det (fun K : AV → Prop => sliceV (propSig M) ρ H [] (fun x _ _ _ => K x) size a lo hi mx) := by
  unfold sliceV
  refine (det_lenK H a).bind fun n => (det_boundK ρ lo 0).bind fun l => (det_boundK ρ hi n).bind fun h => ?_
  split
  · exact Det.condF _ (Det.eval ρ _ fun m => (det_asNat m).bind fun m => Det.need _ (.ret _))
  · exact Det.need _ (det_cutV _ _ _ _ _ _)
theorem fixed_slice (t : Nat) (x : Operand) (lo hi mx : Option Operand) : Fixed true M X (.slice t x lo hi mx) := fun ρ H => by
  refine ⟨Det.eval ρ x fun a => ?_, fun ρ' H' d' K Pk s => ?_⟩
  · split
    · refine Det.ti t fun i => ?_
      split
      · exact Det.condF _ ((det_boundK ρ lo 0).bind fun l => (det_boundK ρ hi _).bind fun h => Det.need _ (.ret _))
      · exact .fail
    · exact det_elemT t fun j => det_sliceV ρ H _ _ _ _ _
  · have hlo : ∀ o, lo = some o → valOf ρ' o = valOf ρ o := fun o e => s.one (by simp [Op.operands, e])
    have hhi : ∀ o, hi = some o → valOf ρ' o = valOf ρ o := fun o e => s.one (by simp [Op.operands, e])
    have hmx : ∀ o, mx = some o → valOf ρ' o = valOf ρ o := fun o e => s.one (by simp [Op.operands, e])
    show sliceO (propSig M) X ρ' H' d' K t x lo hi mx = sliceO (propSig M) X ρ H [] (fun x _ _ _ => K x ρ' H' d') t x lo hi mx
    unfold sliceO
    rw [evalK_agree (s.one (by simp [Op.operands]))]
    refine evalK_like (s.heap rfl x (by simp [Op.operands])) fun a ha => ?_
    split
    · refine congrArg _ (funext fun i => ?_)
      split
      · refine congrArg (fun z => cond _ z _) ?_
        unfold cutString
        rw [boundK_agree hlo]
        refine congrArg _ (funext fun l => ?_)
        rw [boundK_agree hhi]
      · rfl
    · refine congrArg _ (funext fun j => ?_)
      unfold sliceV
      rw [lenK_like ha]
      refine congrArg _ (funext fun n => ?_)
      rw [boundK_agree hlo]
      refine congrArg _ (funext fun l => ?_)
      rw [boundK_agree hhi]
      refine congrArg _ (funext fun h => ?_)
      split
      · rw [evalK_agree (hmx _ rfl)]
      · rw [cutV_like ha]
theorem det_bytesV (ρ : Regs) (H : Heap) (i : TI) (x : AV) : Det (fun K : AV → Prop => bytesV (propSig M) X ρ H [] (fun x _ _ _ => K x) i x) := by
  unfold bytesV
  split
  · refine Det.ti _ fun k => ?_
    split
    · refine (det_elemsK 1 H x).bind fun es => ?_
      split
      · exact .ret _
      · exact .fail
    · exact .fail
  · exact .fail
theorem fixed_convert (t u : Nat) (x : Operand) : Fixed true M X (.convert t u x) := fun ρ H => by
  refine ⟨Det.ti t fun i => Det.ti u fun j => Det.eval ρ x fun a => ?_, fun ρ' H' d' K Pk s => ?_⟩
  · unfold convV
    split
    · split
      · exact (det_numK _ _).map _
      · exact .fail
    · split
      · exact .ret _
      · exact det_bytesV _ _ _ _
    · exact .fail
  · show convertO (propSig M) X ρ' H' d' K t u x = convertO (propSig M) X ρ H [] (fun x _ _ _ => K x ρ' H' d') t u x
    unfold convertO
    refine congrArg _ (funext fun i => congrArg _ (funext fun j => ?_))
    rw [evalK_agree (s.one (by simp [Op.operands]))]
    refine evalK_like (s.heap rfl x (by simp [Op.operands])) fun a ha => ?_
    unfold convV
    split
    · rfl
    · split
      · rfl
      · unfold bytesV
        split
        · refine congrArg _ (funext fun k => ?_)
          split
          · exact elemsK_like ha _
          · rfl
        · rfl
    · rfl
theorem det_lenO (ρ : Regs) (H : Heap) (t : Nat) (x : AV) : Det (fun K : AV → Prop => lenO (propSig M) X ρ H [] (fun x _ _ _ => K x) t x) := by
  unfold lenO
  refine Det.ti t fun i => ?_
  split
  · exact .ret _
  · exact (det_lenK H x).map _
  · split
    · exact .ret _
    · exact .fail
  · split
    · exact .ret _
    · exact det_objK (g := fun o (K : AV → Prop) => match o with | .map kv => K (.v (.int .i64 kv.length)) | _ => False) H _ fun o => by cases o <;> first | exact .ret _ | exact .fail
    · exact .fail
  · exact .fail
theorem lenO_like {t : Nat} {x : AV} (h : Like H H' x) (K : VK Prop) : lenO (propSig M) X ρ' H' d' K t x = lenO (propSig M) X ρ H [] (fun x _ _ _ => K x ρ' H' d') t x := by
  unfold lenO
  refine congrArg _ (funext fun i => ?_)
  split
  · rfl
  · exact lenK_like h _
  · split <;> rfl
  · split
    · rfl
    · rename_i k; exact objK_like (h k (by simp [idsAV])) _
    · rfl
  · rfl
theorem det_minmaxK (m : Bool) : ∀ (l : List AV) (x : AV), Det (minmaxK (propSig M) m l x)
  | [], x => .ret x
  | y :: l, x => by
    show Det fun K => match (generalizing := false) x, y with
      | .v (.int k a), .v (.int k' b) => if k = k' then numK (propSig M) k (pickInt m a b) fun c => minmaxK (propSig M) m l (.v c) K else False
      | _, _ => False
    split
    · exact Det.ite _ ((det_numK _ _).bind (g := fun c K => minmaxK (propSig M) m l (.v c) K) fun c => det_minmaxK m l _) .fail
    · exact .fail
/-- The builtin functions that only compute or read. -/
def plainBuiltin : Builtin → Bool
  | .len | .max | .min => true
  | _ => false
theorem mapK_like : ∀ {l : List Operand}, (∀ x ∈ l, ∀ y, valOf ρ x = some y → Like H H' y) → ∀ {f f' : List AV → Prop}, (∀ ys, (∀ y ∈ ys, Like H H' y) → f' ys = f ys) → mapK (evalK (propSig M) ρ) l f' = mapK (evalK (propSig M) ρ) l f
  | [], _, f, f', hf => hf [] (by simp)
  | x :: l, h, f, f', hf => by
    rw [mapK_cons, mapK_cons]
    refine evalK_like (h x (by simp)) fun y hy => ?_
    exact mapK_like (fun x hx => h x (by simp [hx])) fun ys hys => hf _ (by simpa using ⟨hy, hys⟩)
theorem fixed_builtin (c : Go.Call) (b : Builtin) (hc : c.callee = .builtin b) (hb : plainBuiltin b = true) : Fixed true M X (.call c) := fun ρ H => by
  have hop : (Op.call c).operands = c.args := by simp [Op.operands, Go.Call.operands, hc]
  refine ⟨?_, fun ρ' H' d' K Pk s => ?_⟩
  · show Det fun K => callO (propSig M) X ρ H [] (fun x _ _ _ => K x) c fun _ _ _ _ => False
    unfold callO
    rw [hc]
    refine (Det.mapK (fun x => Det.eval ρ x fun y => .ret y) _).bind fun xs => ?_
    simp only
    unfold builtinO
    split
    · exact det_lenO _ _ _ _
    · simp [plainBuiltin] at hb
    · simp [plainBuiltin] at hb
    · simp [plainBuiltin] at hb
    · exact det_minmaxK _ _ _
    · exact det_minmaxK _ _ _
    · simp [plainBuiltin] at hb
    · exact .fail
  · show callO (propSig M) X ρ' H' d' K c Pk = callO (propSig M) X ρ H [] (fun x _ _ _ => K x ρ' H' d') c fun _ _ _ _ => False
    unfold callO
    rw [hc, evalsK_agree (ρ := ρ) fun x hx => s.one (by rw [hop]; simpa using hx)]
    refine mapK_like (H := H) (H' := H') (fun x hx => s.heap rfl x (by rw [hop]; simpa using hx)) fun ys hys => ?_
    simp only
    unfold builtinO
    split
    · exact lenO_like (hys _ (by simp)) _
    · simp [plainBuiltin] at hb
    · simp [plainBuiltin] at hb
    · simp [plainBuiltin] at hb
    · rfl
    · rfl
    · simp [plainBuiltin] at hb
    · rfl
end
end Am
end Go.Proofs.YtbdnfkmcfencdaaGreatDoor
/- The abstract machine is sound: what a call leaves alone; operations that make an object. No condition. -/
namespace Go.Proofs.YtbdnfkmcfencdaaGreatDoor
namespace Am
open Go

section
variable {P : Program} {G : Nat → Option (List Value)} {M : Md P G} {X : Ctx} {ρ ρ' : Regs} {H H' : Heap} {d d' : Dx}
theorem objK_det {k : Nat} {K : AObj → Prop} (h : objK (propSig M) H k K) : ∃ o, H[k]? = some o ∧ K o ∧ ∀ K' : AObj → Prop, K' o → objK (propSig M) H k K' := by
  obtain ⟨o, e, h⟩ := objK_inv h
  refine ⟨o, e, h, fun K' h' => ?_⟩
  unfold objK
  rw [getK_eq, e]
  exact h'
/-- H1 is H but for what S has, and shows no more. -/
structure Kin (S : Nat → Prop) (H H1 : Heap) : Prop where
  len : H1.length = H.length
  same : ∀ k, ¬ S k → H1[k]? = H[k]?
  ids : ∀ k, ∀ j ∈ idsAt H1 k, j ∈ idsAt H k
theorem Kin.refl {S : Nat → Prop} (H : Heap) : Kin S H H := ⟨rfl, fun _ _ => rfl, fun _ _ h => h⟩
theorem Kin.trans {S : Nat → Prop} {A B C : Heap} (h : Kin S A B) (k : Kin S B C) : Kin S A C :=
  ⟨k.len.trans h.len, fun i hi => (k.same i hi).trans (h.same i hi), fun i j hj => h.ids i j (k.ids i j hj)⟩
theorem idsAt_set (H : Heap) (k : Nat) (o : AObj) (i : Nat) : idsAt (H.set k o) i = if i = k ∧ k < H.length then idsObj o else idsAt H i := by
  unfold idsAt
  by_cases h : i = k
  · subst h
    by_cases hk : i < H.length
    · rw [List.getElem?_set_self hk]; simp [hk]
    · rw [List.getElem?_eq_none (by simpa using hk), List.getElem?_eq_none (by omega)]; simp [hk]
  · rw [List.getElem?_set_ne (fun e => h e.symm)]; simp [h]
theorem Kin.set {S : Nat → Prop} {k : Nat} (hk : S k) {o : AObj} (ho : ∀ j ∈ idsObj o, j ∈ idsAt H k) : Kin S H (H.set k o) := by
  refine ⟨by simp, fun i hi => List.getElem?_set_ne (fun e => hi (by subst e; exact hk)), fun i j hj => ?_⟩
  rw [idsAt_set] at hj
  split at hj
  · rename_i h; rw [h.1]; exact ho j hj
  · exact hj
theorem inCellK_kin {S : Nat → Prop} {x : AV} {H : Heap} {K : AV → Heap → Prop} (hS : ∀ k ∈ idsAV x, S k) (h : inCellK (propSig M) x H K) :
    ∃ y H1, K y H1 ∧ Kin S H H1 ∧ (∀ j ∈ idsAV y, j ∈ idsAV x) ∧ ∀ K' : AV → Heap → Prop, K' y H1 → inCellK (propSig M) x H K' := by
  have plain : K x H → (∀ K' : AV → Heap → Prop, K' x H → inCellK (propSig M) x H K') →
      ∃ y H1, K y H1 ∧ Kin S H H1 ∧ (∀ j ∈ idsAV y, j ∈ idsAV x) ∧ ∀ K' : AV → Heap → Prop, K' y H1 → inCellK (propSig M) x H K' := fun h k => ⟨x, H, h, .refl H, fun j hj => hj, k⟩
  cases x with
  | ar k =>
    obtain ⟨o, e, h1, h2⟩ := objK_det h
    cases o with
    | arr z es =>
      simp only [setK_eq] at h1
      exact ⟨_, _, h1, Kin.set (hS k (by simp [idsAV])) (by simp [idsObj]), by simp [idsAV], fun K' h' => h2 _ (by simp only [setK_eq]; exact h')⟩
    | _ => exact h1.elim
  | sl k lo len =>
    cases lo with
    | succ lo => exact h.elim
    | zero =>
      have h : arrK (propSig M) H k (fun z es => setK H k .dead fun H => K (.own z (es.take len)) H) := h
      obtain ⟨o, e, h1, h2⟩ := objK_det h
      cases o with
      | arr z es =>
        simp only [setK_eq] at h1
        exact ⟨_, _, h1, Kin.set (hS k (by simp [idsAV])) (by simp [idsObj]), by simp [idsAV], fun K' h' => h2 _ (by simp only [setK_eq]; exact h')⟩
      | _ => exact h1.elim
  | mp k =>
    obtain ⟨o, e, h1, h2⟩ := objK_det h
    cases o with
    | map kv =>
      simp only [setK_eq] at h1
      exact ⟨_, _, h1, Kin.set (hS k (by simp [idsAV])) (by simp [idsObj]), by simp [idsAV], fun K' h' => h2 _ (by simp only [setK_eq]; exact h')⟩
    | _ => exact h1.elim
  | _ => exact plain h fun K' h' => h'
theorem inCellsK_kin {S : Nat → Prop} : ∀ {cs : List AV} {H : Heap} {K : List AV → Heap → Prop}, (∀ k ∈ idsAVs cs, S k) → inCellsK (propSig M) cs H K →
    ∃ ys H1, K ys H1 ∧ Kin S H H1 ∧ (∀ j ∈ idsAVs ys, j ∈ idsAVs cs) ∧ ∀ K' : List AV → Heap → Prop, K' ys H1 → inCellsK (propSig M) cs H K'
  | [], H, K, _, h => ⟨[], H, h, .refl H, fun j hj => hj, fun K' h' => h'⟩
  | x :: cs, H, K, hS, h => by
    have h : inCellK (propSig M) x H fun y H => inCellsK (propSig M) cs H fun l H => K (y :: l) H := h
    obtain ⟨y, H1, h1, h2, h3, h4⟩ := inCellK_kin (S := S) (fun k hk => hS k (by simp [idsAVs, hk])) h
    obtain ⟨ys, H2, k1, k2, k3, k4⟩ := inCellsK_kin (S := S) (fun k hk => hS k (by simp [idsAVs, hk])) h1
    refine ⟨_, H2, k1, h2.trans k2, fun j hj => ?_, fun K' h' => h4 (fun y H => inCellsK (propSig M) cs H fun l H => K' (y :: l) H) (k4 (fun l H => K' (y :: l) H) h')⟩
    rw [idsAVs, List.mem_append] at hj ⊢
    exact hj.imp (h3 j) (k3 j)
theorem inBoxesK_kin {S : Nat → Prop} : ∀ {ks : List Nat} {H : Heap} {K : Heap → Prop}, (∀ k ∈ ks, S k) → (∀ k, S k → ∀ j ∈ idsAt H k, S j) → inBoxesK (propSig M) ks H K →
    ∃ H1, K H1 ∧ Kin S H H1 ∧ ∀ K' : Heap → Prop, K' H1 → inBoxesK (propSig M) ks H K'
  | [], H, K, _, _, h => ⟨H, h, .refl H, fun K' h' => h'⟩
  | k :: ks, H, K, hS, hc, h => by
    obtain ⟨o, e, h1, h2⟩ := objK_det h
    have hk := hS k (by simp)
    cases o with
    | box cs =>
      have h1 : inCellsK (propSig M) cs H fun cs H => setK H k (.box cs) fun H => inBoxesK (propSig M) ks H K := h1
      have hids : idsAt H k = idsAVs cs := by simp [idsAt, e, idsObj]
      obtain ⟨ys, H1, k1, k2, k3, k4⟩ := inCellsK_kin (S := S) (fun j hj => hc k hk j (by rw [hids]; exact hj)) h1
      rw [setK_eq] at k1
      have h4 : Kin S H (H1.set k (.box ys)) := by
        refine ⟨by simp [k2.len], fun i hi => ?_, fun i j hj => ?_⟩
        · rw [List.getElem?_set_ne (fun e => hi (by subst e; exact hk))]; exact k2.same i hi
        · rw [idsAt_set] at hj
          split at hj
          · rename_i hik; rw [hik.1, hids]; exact k3 j hj
          · exact k2.ids i j hj
      obtain ⟨H2, m1, m2, m3⟩ := inBoxesK_kin (S := S) (fun j hj => hS j (by simp [hj])) (fun i hi j hj => hc i hi j (h4.ids i j hj)) k1
      exact ⟨H2, m1, h4.trans m2, fun K' h' => h2 _ (k4 _ (by rw [setK_eq]; exact m3 _ h'))⟩
    | _ =>
      have h1 : inBoxesK (propSig M) ks H K := h1
      obtain ⟨H2, m1, m2, m3⟩ := inBoxesK_kin (S := S) (fun j hj => hS j (by simp [hj])) hc h1
      exact ⟨H2, m1, m2, fun K' h' => h2 _ (m3 _ h')⟩
theorem reach_in {S : Nat → Prop} (hc : ∀ k, S k → ∀ j ∈ idsAt H k, S j) : ∀ (n : Nat) (todo seen : List Nat), (∀ k ∈ todo, S k) → (∀ k ∈ seen, S k) → ∀ k ∈ reach H n todo seen, S k
  | 0, _, seen, _, h2, k, hk => h2 k (by simpa [reach] using hk)
  | n + 1, [], seen, _, h2, k, hk => h2 k (by simpa [reach] using hk)
  | n + 1, i :: todo, seen, h1, h2, k, hk => by
    simp only [reach] at hk
    cases e : memb i seen with
    | true => rw [e] at hk; exact reach_in hc n todo seen (fun j hj => h1 j (by simp [hj])) h2 k hk
    | false =>
      rw [e] at hk
      refine reach_in hc n _ _ (fun j hj => ?_) (fun j hj => ?_) k hk
      · rcases List.mem_append.1 hj with hj | hj
        · exact hc i (h1 i (by simp)) j hj
        · exact h1 j (by simp [hj])
      · rcases List.mem_append.1 hj with hj | hj
        · exact h2 j hj
        · simp at hj; subst hj; exact h1 j (by simp)
theorem outCell_ok {x : AV} (h : okCell x = true) (n : Nat) : outCell x n = (x, []) := by cases x <;> first | rfl | simp [okCell] at h
theorem outCells_ok : ∀ {cs : List AV}, okCells cs = true → ∀ n, outCells cs n = (cs, [])
  | [], _, _ => rfl
  | x :: cs, h, n => by
    simp only [okCells, Bool.and_eq_true] at h
    simp [outCells, outCell_ok h.1, outCells_ok h.2]
theorem outBoxes_get : ∀ {H : Heap} {n k : Nat} {o : AObj}, H[k]? = some o → (∀ cs, o = .box cs → okCells cs = true) → (outBoxes H n).1[k]? = some o
  | [], _, _, _, h, _ => by simp at h
  | p :: H, n, 0, o, h, ho => by
    simp at h; subst h
    simp only [outBoxes, List.getElem?_cons_zero, Option.some.injEq]
    cases p with
    | box cs => simp [outObj, outCells_ok (ho cs rfl)]
    | _ => rfl
  | p :: H, n, k + 1, o, h, ho => by
    simp only [outBoxes, List.getElem?_cons_succ] at h ⊢
    exact outBoxes_get h ho
theorem layOut_get {k : Nat} {o : AObj} (h : H[k]? = some o) (ho : ∀ cs, o = .box cs → okCells cs = true) : (layOut H)[k]? = some o := by
  unfold layOut
  rw [List.getElem?_append_left (by rw [outBoxes_length]; exact (List.getElem?_eq_some_iff.1 h).1)]
  exact outBoxes_get h ho
theorem layOut_len (H : Heap) : H.length ≤ (layOut H).length := by
  unfold layOut
  rw [List.length_append, outBoxes_length]
  omega
/-- What H' leaves of H. -/
def Left (S : Nat → Prop) (H H' : Heap) : Prop := H.length ≤ H'.length ∧ ∀ k o, ¬ S k → H[k]? = some o → (∀ cs, o = .box cs → okCells cs = true) → H'[k]? = some o
theorem renObjK_det {r : List (Nat × Nat)} {o : AObj} {K : AObj → Prop} (h : renObjK (propSig M) r o K) : K (renObj r o) ∧ ∀ K' : AObj → Prop, K' (renObj r o) → renObjK (propSig M) r o K' := by
  obtain ⟨h1, h2⟩ := renObjK_inv h
  refine ⟨h1, fun K' h' => ?_⟩
  cases o with
  | box cs =>
    show forces (renAVs r cs) (fun cs => cond (okCellsO cs) (K' (.box cs)) False)
    rw [forces_eq, h2 cs rfl]
    exact h'
  | _ => exact h'
theorem mapRen_det {r : List (Nat × Nat)} : ∀ {Pc : Heap} {K : Heap → Prop}, mapK (renObjK (propSig M) r) Pc K → ∃ P1, K P1 ∧ ∀ K' : Heap → Prop, K' P1 → mapK (renObjK (propSig M) r) Pc K'
  | [], K, h => ⟨[], h, fun K' h' => h'⟩
  | p :: Pc, K, h => by
    rw [mapK_cons] at h
    obtain ⟨h1, h2⟩ := renObjK_det h
    obtain ⟨P1, h3, h4⟩ := mapRen_det h1
    exact ⟨_, h3, fun K' h' => by rw [mapK_cons]; exact h2 _ (h4 _ h')⟩
theorem putBackK_det : ∀ {ks : List Nat} {H Pc : Heap} {K : Heap → Prop}, ks.Nodup → putBackK (propSig M) ks H Pc K → ∃ H', K H' ∧ PutBack ks H Pc H' ∧ ∀ K' : Heap → Prop, K' H' → putBackK (propSig M) ks H Pc K'
  | [], H, Pc, K, hn, h => by
    obtain ⟨H', h1, h2⟩ := putBackK_inv hn (show putBackK (propSig M) [] H Pc (fun H' => K H' ∧ H' = H ++ Pc) from by
      have h : appK H Pc K := h
      show appK H Pc _
      rw [appK_eq] at h ⊢
      exact ⟨h, rfl⟩)
    exact ⟨H', h1.1, h2, fun K' h' => by show appK H Pc _; rw [appK_eq, ← h1.2]; exact h'⟩
  | k :: ks, H, Pc, K, hn, h => by
    cases Pc with
    | nil => exact h.elim
    | cons o Pc =>
      have h0 : setK H k o fun H => putBackK (propSig M) ks H Pc K := h
      rw [setK_eq] at h0
      obtain ⟨H', h1, _, h3⟩ := putBackK_det (List.nodup_cons.1 hn).2 h0
      have h4 : putBackK (propSig M) (k :: ks) H (o :: Pc) fun H'' => H'' = H' := by
        show setK H k o fun H => putBackK (propSig M) ks H Pc _
        rw [setK_eq]
        exact h3 _ rfl
      obtain ⟨H'', rfl, h5⟩ := putBackK_inv hn h4
      exact ⟨_, h1, h5, fun K' h' => by show setK H k o fun H => putBackK (propSig M) ks H Pc _; rw [setK_eq]; exact h3 _ h'⟩
theorem backK_left {S : Nat → Prop} {H0 : Heap} {ks : List Nat} (hn : ks.Nodup) (hks : ∀ k ∈ ks, S k) (hkin : Kin S H0 H) {P' : Heap} {x : AV} {K : AV → Heap → Prop} (h : backK (propSig M) ks H P' x K) :
    ∃ y H2, K y H2 ∧ Left S H0 H2 ∧ ∀ K' : AV → Heap → Prop, K' y H2 → backK (propSig M) ks H P' x K' := by
  unfold backK at h
  rw [spineK_eq] at h
  obtain ⟨P1, h1, h2⟩ := mapRen_det h
  obtain ⟨H', h3, hpb, h4⟩ := putBackK_det hn h1
  rw [layOutK_eq, force_eq] at h3
  refine ⟨_, _, h3, ⟨?_, fun k o hk ho hok => ?_⟩, fun K' h' => ?_⟩
  · have := layOut_len H'
    have h1 := hpb.len
    rw [hkin.len] at h1
    omega
  · refine layOut_get ?_ hok
    rw [hpb.old k (fun hm => hk (hks k hm)) (by rw [hkin.len]; exact (List.getElem?_eq_some_iff.1 ho).1), hkin.same k hk]
    exact ho
  · unfold backK
    rw [spineK_eq]
    exact h2 _ (h4 _ (by rw [layOutK_eq, force_eq]; exact h'))
theorem Run.mono {f : Nat} {xs : List AV} {H : Heap} {Q Q' : Out → Heap → Prop} (hq : ∀ o H, Q o H → Q' o H) (h : Run P G f xs H Q) : Run P G f xs H Q' := by
  unfold Run at h ⊢
  intro E w own cs h1 h2 h3 h4 h5
  exact (h E w own cs h1 h2 h3 h4 h5).mono fun e w' ⟨o, H', E', own', k1, k2⟩ => ⟨o, H', E', own', hq _ _ k1, k2⟩
theorem gatherK_det {r : List (Nat × Nat)} : ∀ {ks : List Nat} {K : Heap → Prop}, gatherK (propSig M) H r ks K → ∃ Pc, K Pc ∧ ∀ K' : Heap → Prop, K' Pc → gatherK (propSig M) H r ks K'
  | [], K, h => ⟨[], h, fun K' h' => h'⟩
  | a :: ks, K, h => by
    have h : objK (propSig M) H a fun o => renObjK (propSig M) r o fun o => gatherK (propSig M) H r ks fun Pc => K (o :: Pc) := h
    obtain ⟨o, e, h1, h2⟩ := objK_det h
    obtain ⟨h3, h4⟩ := renObjK_det h1
    obtain ⟨Pc, h5, h6⟩ := gatherK_det h3
    exact ⟨_, h5, fun K' h' => h2 _ (h4 _ (h6 _ h'))⟩
theorem inBoxesK_any {M M' : Md P G} {ks : List Nat} {H : Heap} {K : Heap → Prop} : inBoxesK (propSig M) ks H K = inBoxesK (propSig M') ks H K := rfl
theorem gatherK_any {M M' : Md P G} {ks : List Nat} {H : Heap} {r : List (Nat × Nat)} {K : Heap → Prop} : gatherK (propSig M) H r ks K = gatherK (propSig M') H r ks K := rfl
theorem backK_any {M M' : Md P G} {ks : List Nat} {H P' : Heap} {x : AV} {K : AV → Heap → Prop} : backK (propSig M) ks H P' x K = backK (propSig M') ks H P' x K := rfl
/-- What a call leaves of the heap, if its arguments show no array: what they don't lead to. -/
theorem callK_left {S : Nat → Prop} {f : Nat} {xs : List AV} {K : Out → Regs → Heap → Prop} (ha : X.byref f = true ∨ arrsAVs xs = []) (hx : ∀ k ∈ idsAVs xs, S k) (hc : ∀ k, S k → ∀ j ∈ idsAt H k, S j)
    (h : callK (propSig M) X f xs ρ H K) : callK (propSig (symMd P G)) X f xs ρ H fun o ρ' H' => K o ρ' H' ∧ ρ' = ρ ∧ Left S H H' := by
  have key : callK' (propSig M) f xs ρ H K → callK' (propSig (symMd P G)) f xs ρ H fun o ρ' H' => K o ρ' H' ∧ ρ' = ρ ∧ Left S H H' := by
    intro h
    unfold callK' pieceK at h ⊢
    rw [spineK_eq] at h ⊢
    have hr : ∀ k ∈ reachB H (H.length + 100) [] xs, S k := reach_in hc _ _ _ (fun k hk => by
      rcases List.mem_append.1 hk with hk | hk
      · simp [idsAll] at hk
      · exact hx k hk) (by simp)
    obtain ⟨H1, h1, hkin, h2⟩ := inBoxesK_kin (S := S) hr hc h
    rw [inBoxesK_any (M' := M)]
    refine h2 _ ?_
    rw [spineK_eq, spineK_eq, forces_eq] at h1 ⊢
    have hc1 : ∀ k, S k → ∀ j ∈ idsAt H1 k, S j := fun k hk j hj => hc k hk j (hkin.ids k j hj)
    have hr1 : ∀ k ∈ reachB H1 (H1.length + 100) [] xs, S k := reach_in hc1 _ _ _ (fun k hk => by
      rcases List.mem_append.1 hk with hk | hk
      · simp [idsAll] at hk
      · exact hx k hk) (by simp)
    have hn : (reachB H1 (H1.length + 100) [] xs).Nodup := reach_nodup _ _ _ _ List.nodup_nil
    obtain ⟨Pc, h3, h4⟩ := gatherK_det h1
    rw [gatherK_any (M' := M)]
    refine h4 _ ?_
    refine Run.mono (fun o Pc' hq => ?_) (M.call_run _ _ _ _ h3)
    cases o with
    | ret x =>
      obtain ⟨y, H2, k1, k2, k3⟩ := backK_left hn hr1 hkin hq

      exact k3 _ ⟨k1, rfl, k2⟩
    | panic x =>
      obtain ⟨y, H2, k1, k2, k3⟩ := backK_left hn hr1 hkin hq

      exact k3 _ ⟨k1, rfl, k2⟩
  unfold callK at h ⊢
  cases hb : X.byref f with
  | true => rw [hb] at h; exact key h
  | false =>
    rw [hb] at h
    simp only [cond_false, freezeK, ha.resolve_left (by rw [hb]; nofun)] at h ⊢
    exact key h
end
end Am
end Go.Proofs.YtbdnfkmcfencdaaGreatDoor
/- The abstract machine is sound: an object that is made late. No condition. -/
namespace Go.Proofs.YtbdnfkmcfencdaaGreatDoor
namespace Am
open Go

section
variable {P : Program} {G : Nat → Option (List Value)} {M : Md P G} {L : Nat → Prop} {X : Ctx} {E E' : Env} {own own' : Nat → List Nat} {ρ ρ' : Regs} {H H' : Heap} {d d' : Dx} {a a' : Act} {w w' : World}
/-- The value of a new object. -/
def newAV : AObj → Nat → AV
  | .box _, k => .ref k 0
  | .arr _ _, k => .ar k
  | .map _, k => .mp k
  | .siter _ _, k => .it k
  | .dead, _ => .undef
def okObj (ob : AObj) : Prop := ∀ cs, ob = .box cs → okCells cs = true
/-- An operation that makes an object, out of its operands alone. -/
def Grows {P : Program} {G : Nat → Option (List Value)} (M : Md P G) (X : Ctx) (o : Op) : Prop :=
  ∀ ρ : Regs, ∃ F : (AObj → Prop) → Prop, Det F ∧
    (∀ K, F K → F fun ob => K ob ∧ (okObj ob ∧ ob ≠ .dead) ∧ ∀ j ∈ idsObj ob, ∃ x ∈ o.operands, ∃ y, valOf ρ x = some y ∧ j ∈ idsAV y) ∧
    ∀ ρ' H' d' (K Pk : VK Prop), (∀ x ∈ o.operands, valOf ρ' x = valOf ρ x) → (∀ x ∈ o.operands, ∀ y, valOf ρ x = some y → arrsAV y = []) →
      opK (propSig M) X o K Pk ρ' H' d' = F fun ob => K (newAV ob H'.length) ρ' (H' ++ [ob]) d'
theorem constV_ids {c : Value} {y : AV} (h : constV c = some y) : idsAV y = [] := by
  have hv : ∀ l : List Value, idsAVs (l.map .v) = [] := by
    intro l
    induction l with
    | nil => rfl
    | cons x l ih => simp [idsAVs, idsAV, ih]
  cases c <;> simp only [constV] at h <;> first | (split at h <;> first | (cases h; simp [idsAV, hv]) | cases h) | (cases h; rfl)
theorem valOf_ids {x : Operand} {y : AV} (h : valOf ρ x = some y) {k : Nat} (hk : k ∈ idsAV y) : ∃ t, x = .tmp t ∧ y = ρ.get t := by
  cases x with
  | tmp t => simp only [valOf, Option.some.injEq] at h; exact ⟨t, rfl, h.symm⟩
  | const c => rw [constV_ids h] at hk; cases hk
  | global g => simp only [valOf, Option.some.injEq] at h; subst h; simp [idsAV] at hk
  | func f => simp only [valOf, Option.some.injEq] at h; subst h; simp [idsAV, idsAVs] at hk
theorem valOf_there (r : Rel G L E own ρ H d a w) {x : Operand} (hx : Vis L x) {y : AV} (h : valOf ρ x = some y) : ∀ k ∈ idsAV y, E.loc k ≠ .absent := fun k hk => by
  obtain ⟨t, rfl, rfl⟩ := valOf_ids h hk
  exact (r.regs t hx).ids k hk
theorem grows_alloc (hT : Agree P X.T) (t : Nat) : Grows M X (.alloc t) := fun ρ => by
  refine ⟨fun K => tiK (propSig M) X t fun i => K (.box i.zero), Det.ti t fun i => .ret _, fun K h => ?_, fun ρ' H' d' K Pk _ _ => ?_⟩
  · show tiK (propSig M) X t _
    have h : tiK (propSig M) X t fun i => K (.box i.zero) := h
    unfold tiK at h ⊢
    split at h
    · rename_i i e
      obtain ⟨j, hj, _, _, z, hz, hz1, _⟩ := (hT.is e).info
      refine ⟨h, ⟨fun cs e => by cases e; rw [hz1]; exact okCells_v _, nofun⟩, fun j hj => ?_⟩
      exfalso
      simp only [idsObj, hz1] at hj
      have hv : ∀ l : List Value, idsAVs (l.map .v) = [] := by
        intro l
        induction l with
        | nil => rfl
        | cons x l ih => simp [idsAVs, idsAV, ih]
      rw [hv] at hj; cases hj
    · exact h.elim
  · show allocO (propSig M) X ρ' H' d' K t = _
    unfold allocO
    simp only [newK_eq', newAV]
theorem idsAVs_cellsOf (x : AV) : ∀ j ∈ idsAVs (cellsOf x), j ∈ idsAV x := by
  cases x <;> simp [cellsOf, idsAVs, idsAV]
theorem grows_box (t : Nat) (x : Operand) : Grows M X (.box t x) := fun ρ => by
  refine ⟨fun K => evalK (propSig M) ρ x fun a => cellsK (propSig M) a fun cs => K (.box cs), Det.eval ρ x fun a => (det_cellsK a).map _, fun K h => ?_, fun ρ' H' d' K Pk s _ => ?_⟩
  · have h : evalK (propSig M) ρ x fun a => cellsK (propSig M) a fun cs => K (.box cs) := h
    show evalK (propSig M) ρ x _
    rw [evalK_eq] at h ⊢
    cases hv : valOf ρ x with
    | none => rw [hv] at h; exact h.elim
    | some y =>
      rw [hv] at h
      obtain ⟨ho, h⟩ := condF h
      show cond (okCells (cellsOf y)) _ False
      rw [ho]
      exact ⟨h, ⟨fun cs e => by cases e; exact ho, nofun⟩, fun j hj => ⟨x, by simp [Op.operands], y, hv, idsAVs_cellsOf y j hj⟩⟩
  · show boxO (propSig M) ρ' H' d' K x = _
    unfold boxO
    rw [evalK_agree (s x (by simp [Op.operands]))]
    simp only [newK_eq', newAV]
def partsV (ρ : Regs) : List (Nat × Operand) → Option (List (Nat × AV))
  | [] => some []
  | (i, x) :: l => match valOf ρ x, partsV ρ l with
    | some a, some r => some ((i, a) :: r)
    | _, _ => none
theorem partsK_eq (ρ : Regs) : ∀ (l : List (Nat × Operand)) (K : List (Nat × AV) → Prop), partsK (propSig M) ρ l K = match partsV ρ l with | some r => K r | none => False
  | [], K => rfl
  | (i, x) :: l, K => by
    show evalK (propSig M) ρ x (fun a => partsK (propSig M) ρ l fun r => K ((i, a) :: r)) = _
    rw [evalK_eq]
    simp only [partsV]
    cases hv : valOf ρ x with
    | none => rfl
    | some a =>
      simp only
      rw [partsK_eq ρ l]
      cases partsV ρ l <;> rfl
theorem partsV_arrs : ∀ {l : List (Nat × Operand)} {r : List (Nat × AV)}, partsV ρ l = some r → (∀ p ∈ l, ∀ y, valOf ρ p.2 = some y → arrsAV y = []) → arrsAVs (r.map (·.2)) = []
  | [], r, h, _ => by cases h; rfl
  | (i, x) :: l, r, h, ha => by
    simp only [partsV] at h
    cases hv : valOf ρ x with
    | none => rw [hv] at h; cases h
    | some a =>
      rw [hv] at h
      cases hl : partsV ρ l with
      | none => rw [hl] at h; cases h
      | some q =>
        rw [hl] at h; cases h
        simp only [List.map_cons, arrsAVs, ha (i, x) (by simp) a hv, List.nil_append]
        exact partsV_arrs hl fun p hp => ha p (by simp [hp])
theorem grows_buildSlice (t n : Nat) (ps : Array (Nat × Operand)) : Grows M X (.buildSlice t n ps) := fun ρ => by
  have hps : ∀ p ∈ ps.toList, p.2 ∈ (Op.buildSlice t n ps).operands := fun p hp => by simp [Op.operands]; exact ⟨p.1, by simpa using hp⟩
  refine ⟨fun K => elemT (propSig M) X t fun j => match partsV ρ ps.toList with
    | some l => if l.map (·.1) = List.range n then cond (pureAVs (l.map (·.2)) && Nat.ble (n * j.size) 16777216) (mapK (fun x K => cellsK (propSig M) x fun cs => sizedK (propSig M) cs.length j.size cs K) (l.map (·.2)) fun es => K (.arr j.size es)) False else False
    | none => False, det_elemT t fun j => ?_, fun K h => ?_, fun ρ' H' d' K Pk s ha => ?_⟩
  · cases partsV ρ ps.toList with
    | none => exact .fail
    | some l => exact Det.ite _ (Det.condF _ ((Det.mapK (fun x => (det_cellsK x).bind fun cs => det_sizedK _ _ _ (g := fun y K => K y) fun y => .ret y) _).map _)) .fail
  · have h : elemT (propSig M) X t fun j => match partsV ρ ps.toList with
      | some l => if l.map (·.1) = List.range n then cond (pureAVs (l.map (·.2)) && Nat.ble (n * j.size) 16777216) (mapK (fun x K => cellsK (propSig M) x fun cs => sizedK (propSig M) cs.length j.size cs K) (l.map (·.2)) fun es => K (.arr j.size es)) False else False
      | none => False := h
    have key : ∀ z es, K (.arr z es) → (K (.arr z es) ∧ (okObj (.arr z es) ∧ AObj.arr z es ≠ .dead) ∧ ∀ j ∈ idsObj (.arr z es), ∃ x ∈ (Op.buildSlice t n ps).operands, ∃ y, valOf ρ x = some y ∧ j ∈ idsAV y) :=
      fun z es h => ⟨h, ⟨nofun, nofun⟩, fun j hj => by simp [idsObj] at hj⟩
    have e3 : ∀ z, (fun es => K (.arr z es) ∧ (okObj (.arr z es) ∧ AObj.arr z es ≠ .dead) ∧ ∀ j ∈ idsObj (.arr z es), ∃ x ∈ (Op.buildSlice t n ps).operands, ∃ y, valOf ρ x = some y ∧ j ∈ idsAV y) = fun es => K (.arr z es) :=
      fun z => funext fun es => propext ⟨fun h => h.1, key z es⟩
    show elemT (propSig M) X t fun j => match partsV ρ ps.toList with
      | some l => if l.map (·.1) = List.range n then cond (pureAVs (l.map (·.2)) && Nat.ble (n * j.size) 16777216) (mapK (fun x K => cellsK (propSig M) x fun cs => sizedK (propSig M) cs.length j.size cs K) (l.map (·.2)) fun es => K (.arr j.size es) ∧ (okObj (.arr j.size es) ∧ AObj.arr j.size es ≠ .dead) ∧ ∀ i ∈ idsObj (.arr j.size es), ∃ x ∈ (Op.buildSlice t n ps).operands, ∃ y, valOf ρ x = some y ∧ i ∈ idsAV y) False else False
      | none => False
    simp only [e3]
    exact h
  · show buildSliceO (propSig M) X ρ' H' d' K t n ps.toList = _
    unfold buildSliceO
    refine congrArg _ (funext fun j => ?_)
    rw [partsK_agree (ρ := ρ) fun p hp => s p.2 (hps p hp), partsK_eq]
    cases hp : partsV ρ ps.toList with
    | none => rfl
    | some l =>
      simp only
      have hz := partsV_arrs hp fun p hp => ha p.2 (hps p hp)
      split
      · rw [spineK_eq]
        simp only [freezeK, hz]
        show cond _ (mapK _ (l.map (·.2)) fun es => newK H' (.arr j.size es) fun k H => K (.ar k) ρ' H d') False = _
        simp only [newK_eq', newAV]
      · rfl
/-! ### Landing -/
theorem renAV_id {r : List (Nat × Nat)} : ∀ {x : AV}, (∀ k ∈ idsAV x, look r k = some k) → renAV r x = x
  | .v _, _ => rfl
  | .agg cs, h => by simp only [renAV]; rw [renAVs_id h]
  | .tup cs, h => by simp only [renAV]; rw [renAVs_id h]
  | .imm _ _, _ => rfl
  | .own _ _, _ => rfl
  | .omap _, _ => rfl
  | .mt, _ => rfl
  | .eptr _ _, _ => rfl
  | .ref k off, h => by simp [renAV, h k (by simp [idsAV])]
  | .aptr k e off, h => by simp [renAV, h k (by simp [idsAV])]
  | .ar k, h => by simp [renAV, h k (by simp [idsAV])]
  | .sl k lo len, h => by simp [renAV, h k (by simp [idsAV])]
  | .mp k, h => by simp [renAV, h k (by simp [idsAV])]
  | .it k, h => by simp [renAV, h k (by simp [idsAV])]
  | .fn f cs, h => by simp only [renAV]; rw [renAVs_id h]
  | .iface t x, h => by simp only [renAV]; rw [renAV_id (x := x) h]
  | .glob _ _, _ => rfl
  | .undef, _ => rfl
where
  renAVs_id {r : List (Nat × Nat)} : ∀ {l : List AV}, (∀ k ∈ idsAVs l, look r k = some k) → renAVs r l = l
  | [], _ => rfl
  | x :: l, h => by
    simp only [renAVs]
    rw [renAV_id (fun k hk => h k (by simp [idsAVs, hk])), renAVs_id (fun k hk => h k (by simp [idsAVs, hk]))]
open Classical in
noncomputable def landNums (E : Env) (n k : Nat) : List (Nat × Nat) := (n, k) :: ((List.range n).filter fun i => decide (E.loc i ≠ .absent)).map fun i => (i, i)
open Classical in
noncomputable def landEnv (E E' : Env) (n k : Nat) : Env where
  Γ := E'.Γ
  im := E'.im
  loc j := if j = k then E'.loc n else if E.loc j = .absent then .absent else E'.loc j
  n j := if j = k then E'.n n else E'.n j
  tot j := if j = k then E'.tot n else E'.tot j
  z j := if j = k then E'.z n else E'.z j
open Classical in
noncomputable def landOwn (E : Env) (own' : Nat → List Nat) (n k j : Nat) : List Nat := if j = k then own' n else if E.loc j = .absent then [] else own' j
theorem look_same : ∀ {l : List Nat} {k : Nat}, k ∈ l → look (l.map fun i => (i, i)) k = some k
  | [], _, h => by cases h
  | i :: l, k, h => by
    simp only [List.map_cons, look]
    cases hb : Nat.beq i k with
    | true => rw [Nat.eq_of_beq_eq_true hb]; rfl
    | false =>
      rcases List.mem_cons.1 h with rfl | h
      · rw [Nat.beq_refl] at hb; cases hb
      · exact look_same h
theorem landNums_old {n k i : Nat} (hi : i < n) (h : E.loc i ≠ .absent) : look (landNums E n k) i = some i := by
  unfold landNums
  simp only [look]
  cases hb : Nat.beq n i with
  | true => have := Nat.eq_of_beq_eq_true hb; omega
  | false => exact look_same (by simp [hi, h])
theorem landNums_new (n k : Nat) : look (landNums E n k) n = some k := by simp [landNums, look]
theorem land_ren {n k : Nat} (hk : E.loc k = .absent) : Ren E' (landEnv E E' n k) (landNums E n k) := by
  refine ⟨⟨fun b o _ h => h, fun b h => h⟩, fun i j hij _ => ?_⟩
  have hm := look_some hij
  unfold landNums at hm
  rcases List.mem_cons.1 hm with h | h
  · cases h
    simp [landEnv]
  · simp only [List.mem_map, List.mem_filter, Prod.mk.injEq, decide_eq_true_eq] at h
    obtain ⟨i', ⟨_, hi'⟩, rfl, rfl⟩ := h
    have hne : i' ≠ k := fun e => hi' (by rw [e]; exact hk)
    simp [landEnv, hne, hi']
theorem renObj_id {r : List (Nat × Nat)} {o : AObj} (h : ∀ k ∈ idsObj o, look r k = some k) : renObj r o = o := by
  cases o with
  | box cs => simp only [renObj]; rw [renAV_id.renAVs_id h]
  | _ => rfl
theorem RepO.box_ok {E : Env} {w : World} {k : Nat} {o : AObj} {B : List Nat} (h : RepO E w k o B) : ∀ cs, o = .box cs → okCellsO cs = true := fun cs e => by
  subst e
  simp only [RepO] at h
  exact h.1
theorem land_heap (r : RepH E w H own) {k : Nat} {ob : AObj} (e : H[k]? = some ob) (hk : E.loc k = .absent) (hids : ∀ j ∈ idsObj ob, E.loc j ≠ .absent) (r' : RepH E' w' (H ++ [ob]) own') :
    RepH (landEnv E E' H.length k) w' H (landOwn E own' H.length k) := by
  have hkl : k < H.length := (List.getElem?_eq_some_iff.1 e).1
  have old : ∀ {j : Nat}, E.loc j ≠ .absent → look (landNums E H.length k) j = some j := fun {j} h => landNums_old (lt_of_there r h) h
  refine ⟨fun j o ho => ?_, fun j hj => ?_, fun j => ?_, fun i j b hij hb => ?_, fun j b hb => ?_⟩
  · by_cases hjk : j = k
    · subst hjk
      rw [e] at ho; cases ho
      have h := r'.obj H.length ob (by simp)
      have h2 := RepO.ren (land_ren (E' := E') (n := H.length) hk) (k := H.length) (j := j) (by simp [landEnv]) (fun cs e => by rw [renAV_id.renAVs_id fun i hi => old (hids i (by rw [e]; exact hi))]; exact h.box_ok cs e) h
      rw [renObj_id fun i hi => old (hids i hi)] at h2
      simpa [landOwn] using h2
    · by_cases hja : E.loc j = .absent
      · have h := r.obj j o ho
        simp only [landOwn, hjk, if_false, hja, if_true]
        cases o <;> simp_all [RepO, landEnv]
      · have hio : ∀ i ∈ idsObj o, look (landNums E H.length k) i = some i := fun i hi => old (idsAt_there r hja i (by simpa [idsAt, ho] using hi))
        have h := r'.obj j o (by rw [List.getElem?_append_left (List.getElem?_eq_some_iff.1 ho).1]; exact ho)
        have h2 := RepO.ren (land_ren (E' := E') (n := H.length) hk) (k := j) (j := j) (by simp [landEnv, hjk, hja]) (fun cs e => by rw [renAV_id.renAVs_id fun i hi => hio i (by rw [e]; exact hi)]; exact h.box_ok cs e) h
        rw [renObj_id hio] at h2
        simpa [landOwn, hjk, hja] using h2
  · have hjk : j ≠ k := by omega
    have := (r.beyond j hj).1
    simp [landEnv, landOwn, hjk, this]
  · unfold landOwn
    split
    · exact r'.nodup _
    · split
      · exact List.nodup_nil
      · exact r'.nodup _
  · unfold landOwn at hb ⊢
    have hlt : ∀ {j : Nat}, ¬ E.loc j = .absent → j < H.length := fun {j} h => lt_of_there r h
    split at hb
    · rename_i hik
      split
      · rename_i hjk; exact absurd (hik.trans hjk.symm) hij
      · split
        · simp
        · rename_i hja
          exact r'.apart _ _ b (by have := hlt hja; omega) hb
    · split at hb
      · cases hb
      · rename_i hia
        split
        · exact r'.apart _ _ b (by have := hlt hia; omega) hb
        · split
          · simp
          · exact r'.apart _ _ b hij hb
  · unfold landOwn at hb
    split at hb
    · exact r'.free _ b hb
    · split at hb
      · cases hb
      · exact r'.free _ b hb
theorem RepD.ids {E : Env} : ∀ {D : Dx} {l : List Deferred}, RepD E D l → ∀ f xs, (f, xs) ∈ D → ∀ k ∈ idsAVs xs, E.loc k ≠ .absent
  | [], [], _, f, xs, h, _, _ => by cases h
  | (g, ys) :: D, c :: l, r, f, xs, h, k, hk => by
    obtain ⟨⟨cs, _, hx⟩, r⟩ := r
    rcases List.mem_cons.1 h with h | h
    · cases h; exact hx.ids k hk
    · exact RepD.ids r f xs h k hk
  | [], _ :: _, r, _, _, _, _, _ => r.elim
  | _ :: _, [], r, _, _, _, _, _ => r.elim
theorem RepD.ren_id {E E' : Env} {rr : List (Nat × Nat)} (hr : Ren E E' rr) : ∀ {D : Dx} {l : List Deferred}, (∀ f xs, (f, xs) ∈ D → ∀ k ∈ idsAVs xs, look rr k = some k) → RepD E D l → RepD E' D l
  | [], [], _, _ => trivial
  | (g, ys) :: D, c :: l, h, r => by
    obtain ⟨⟨cs, e, hx⟩, r⟩ := r
    refine ⟨⟨cs, e, ?_⟩, RepD.ren_id hr (fun f xs hf => h f xs (by simp [hf])) r⟩
    have := hx.ren hr
    rwa [renAV_id.renAVs_id (h g ys (by simp))] at this
  | [], _ :: _, _, r => r.elim
  | _ :: _, [], _, r => r.elim
/-- An object that was made in the abstract machine alone comes to be in the model. -/
theorem land (r : Rel G L E own ρ H d a w) {k : Nat} {ob : AObj} (e : H[k]? = some ob) (hk : E.loc k = .absent) (hids : ∀ j ∈ idsObj ob, E.loc j ≠ .absent)
    (r' : Rel G L E' own' ρ (H ++ [ob]) d a' w') (ha : a'.tmps = a.tmps) (g : Goes E w E' w') {v : Value} (hv : RepV E' (newAV ob H.length) v) :
    ∃ E2 own2, Rel G L E2 own2 ρ H d a' w' ∧ RepV E2 (newAV ob k) v ∧ Goes E w E2 w' ∧ ∀ j, j ≠ k → E.loc j = .absent → E2.loc j = .absent := by
  have hr := land_ren (E := E) (E' := E') (n := H.length) hk
  have hle : E.Le (landEnv E E' H.length k) := ⟨g.le.Γ, g.le.im, fun j hj => by
    have hjk : j ≠ k := fun h => hj (by rw [h]; exact hk)
    have := g.le.loc j hj
    simpa [landEnv, hjk, hj] using this⟩
  refine ⟨landEnv E E' H.length k, landOwn E own' H.length k, ⟨fun s hs => ?_, land_heap r.heap e hk hids r'.heap, ⟨r'.ok.mem, r'.ok.im, r'.ok.norec⟩, r'.glob, ?_, r.laid⟩, ?_, ⟨hle, g.new, g.beside⟩, fun j hj ha => by simp [landEnv, hj, ha]⟩
  · rw [ha]; exact (r.regs s hs).mono hle
  · exact RepD.ren_id hr (fun f xs hf i hi => landNums_old (lt_of_there r.heap (r.defs.ids f xs hf i hi)) (r.defs.ids f xs hf i hi)) r'.defs
  · have h := hv.ren hr
    have hn := landNums_new (E := E) H.length k
    cases ob <;> simpa [newAV, renAV, hn] using h
end
end Am
end Go.Proofs.YtbdnfkmcfencdaaGreatDoor
/- The abstract machine is sound: regions that draw their order: what may be late. No condition. -/
namespace Go.Proofs.YtbdnfkmcfencdaaGreatDoor
namespace Am
open Go

section
variable {P : Program} {G : Nat → Option (List Value)} {M : Md P G} {L : Nat → Prop} {X : Ctx} {E E' : Env} {own own' : Nat → List Nat} {ρ ρ' : Regs} {H H' : Heap} {d d' : Dx} {a a' : Act} {w w' : World}
theorem Rel.ext (r : Rel G L E own ρ H d a w) (h : ∀ s, ρ'.get s = ρ.get s) : Rel G L E own ρ' H d a w := ⟨fun s hs => by rw [h]; exact r.regs s hs, r.heap, r.ok, r.glob, r.defs, r.laid⟩
theorem Rel.less {L' : Nat → Prop} (r : Rel G L E own ρ H d a w) (h : ∀ s, L' s → L s) : Rel G L' E own ρ H d a w := ⟨fun s hs => r.regs s (h s hs), r.heap, r.ok, r.glob, r.defs, r.laid⟩
theorem RepH.late (r : RepH E w H own) {ob : AObj} (ho : okObj ob) : RepH E w (H ++ [ob]) own := by
  refine ⟨fun k o e => ?_, fun k hk => r.beyond k (by simp at hk; omega), r.nodup, r.apart, r.free⟩
  rcases Nat.lt_or_ge k H.length with h | h
  · rw [List.getElem?_append_left h] at e; exact r.obj k o e
  · have hk : k = H.length := by
      have := (List.getElem?_eq_some_iff.1 e).1
      simp at this; omega
    subst hk
    simp at e; subst e
    have hb := r.beyond H.length (Nat.le_refl _)
    rw [hb.2]
    cases ob with
    | box cs => simp only [RepO, hb.1]; exact ⟨okCells_O (ho cs rfl), trivial⟩
    | dead => rfl
    | arr z es => simp only [RepO, hb.1]
    | map kv => simp only [RepO, hb.1]
    | siter s p => simp only [RepO, hb.1]
theorem Rel.late (r : Rel G L E own ρ H d a w) {ob : AObj} (ho : okObj ob) : Rel G L E own ρ (H ++ [ob]) d a w := ⟨r.regs, r.heap.late ho, r.ok, r.glob, r.defs, laid_add r.laid ho⟩
/-! ### Guards -/
def GYes (ops : Array Oper) (ρ : Regs) (o : Oper) : Prop := ∀ g want, o.guard = some (g, want) → ∃ s, (ops[g]?).bind (·.dst) = some s ∧ ρ.get s = .v (.bool want)
def GNo (ops : Array Oper) (ρ : Regs) (o : Oper) : Prop := ∃ g want, o.guard = some (g, want) ∧ ∀ s, (ops[g]?).bind (·.dst) = some s → ρ.get s = .v (.bool (!want)) ∨ ∃ l, ρ.get s = .tup l
theorem guard_split {ops : Array Oper} {o : Oper} {yes no : Regs → Prop} (h : guardK (propSig M) ops.toList o.guard yes no ρ) :
    (GYes ops ρ o ∧ ∃ ρ', yes ρ' ∧ ∀ s, ρ'.get s = ρ.get s) ∨ (GNo ops ρ o ∧ ∃ ρ', no ρ' ∧ ∀ s, ρ'.get s = ρ.get s) := by
  unfold guardK at h
  cases hg : o.guard with
  | none =>
    rw [hg] at h
    exact .inl ⟨fun g want e => (by rw [hg] at e; cases e), ρ, h, fun _ => rfl⟩
  | some p =>
    obtain ⟨j, want⟩ := p
    rw [hg] at h
    simp only at h
    rw [dstK_eq, Array.getElem?_toList] at h
    cases hj : (ops[j]?).bind (·.dst) with
    | none =>
      rw [hj] at h
      exact .inr ⟨⟨j, want, hg, fun s hs => by rw [hj] at hs; cases hs⟩, ρ, h, fun _ => rfl⟩
    | some s =>
      rw [hj] at h
      simp only at h
      rw [Regs.getK_eq] at h
      have same : ∀ b, ρ.get s = .v (.bool b) → ∀ t, (Regs.cons s (.v (.bool b)) ρ).get t = ρ.get t := fun b hb t => by
        simp only [Regs.get]
        split
        · rename_i e; subst e; exact hb.symm
        · rfl
      have yes' : ∀ b, ρ.get s = .v (.bool b) → b = want → GYes ops ρ o := fun b hb hw g want' e => by
        rw [hg] at e; cases e
        exact ⟨s, hj, hw ▸ hb⟩
      have no' : ∀ b, ρ.get s = .v (.bool b) → b = !want → GNo ops ρ o := fun b hb hw => ⟨j, want, hg, fun t ht => by
        rw [hj] at ht; cases ht
        exact .inl (hw ▸ hb)⟩
      split at h
      · rename_i b e
        cases b <;> cases want
        · exact .inl ⟨yes' _ e rfl, _, h, same _ e⟩
        · exact .inr ⟨no' _ e rfl, _, h, same _ e⟩
        · exact .inr ⟨no' _ e rfl, _, h, same _ e⟩
        · exact .inl ⟨yes' _ e rfl, _, h, same _ e⟩
      · rename_i l e
        exact .inr ⟨⟨j, want, hg, fun t ht => by rw [hj] at ht; cases ht; exact .inr ⟨l, e⟩⟩, ρ, h, fun _ => rfl⟩
      · exact h.elim
theorem GYes.wanted (r : Rel G L E own ρ H d a w) {ops : Array Oper} {o : Oper} (hs : guardSees ops o.guard L) (h : GYes ops ρ o) : Region.wanted o (yielded ops a.tmps) = true := by
  cases hg : o.guard with
  | none => simp [Region.wanted, hg]
  | some p =>
    obtain ⟨j, want⟩ := p
    obtain ⟨s, hj, hv⟩ := h j want hg
    have hrep := r.regs s (hs j want s hg hj)
    rw [hv] at hrep
    obtain ⟨_, hv⟩ := hrep
    have hy : yielded ops a.tmps j = some want := by
      unfold yielded
      rw [hj]
      simp only [Option.bind_some]
      rw [Array.getD_eq_getD_getElem?] at hv
      cases ht : a.tmps[s]? with
      | none => rw [ht] at hv; simp [undef] at hv
      | some v => rw [ht] at hv; simp at hv; rw [hv]
    simp [Region.wanted, hg, hy]
theorem GNo.wanted (r : Rel G L E own ρ H d a w) {ops : Array Oper} {o : Oper} (hs : guardSees ops o.guard L) (h : GNo ops ρ o) : Region.wanted o (yielded ops a.tmps) = false := by
  obtain ⟨j, want, hg, h⟩ := h
  cases hj : (ops[j]?).bind (·.dst) with
  | none => simp [Region.wanted, hg, yielded, hj]
  | some s =>
    have hrep := r.regs s (hs j want s hg hj)
    have hv : (∃ b, b = (!want) ∧ a.tmps[s]? = some (.bool b)) ∨ ∀ b, a.tmps[s]? ≠ some (.bool b) := by
      rcases h s hj with e | ⟨l, e⟩
      · rw [e] at hrep
        obtain ⟨_, hv⟩ := hrep
        rw [Array.getD_eq_getD_getElem?] at hv
        cases ht : a.tmps[s]? with
        | none => exact .inr nofun
        | some v => rw [ht] at hv; simp at hv; exact .inl ⟨_, rfl, by rw [hv]⟩
      · rw [e] at hrep
        obtain ⟨xs, hv, _⟩ := hrep
        rw [Array.getD_eq_getD_getElem?] at hv
        refine .inr fun b hb => ?_
        rw [hb] at hv
        simp at hv
    rcases hv with ⟨b, hb, hv⟩ | hv
    · have hy : yielded ops a.tmps j = some b := by unfold yielded; rw [hj]; simp only [Option.bind_some]; rw [hv]
      rw [hb] at hy
      simp [Region.wanted, hg, hy]
    · have hy : yielded ops a.tmps j = none := by
        unfold yielded; rw [hj]
        show (match a.tmps[s]? with | some (.bool b) => some b | _ => none) = none
        split
        · rename_i b e; exact absurd e (hv b)
        · rfl
      simp [Region.wanted, hg, hy]
/-! ### What is owed of an operation that the abstract machine has done, and the model has not -/
def QuietAt {P : Program} {G : Nat → Option (List Value)} (M : Md P G) (X : Ctx) (x : AV) (o : Op) (ρ : Regs) (H : Heap) : Prop :=
  ∀ d, opK (propSig M) X o (fun y ρ' H' d' => y = x ∧ ρ' = ρ ∧ H' = H ∧ d' = d) (fun _ _ _ _ => False) ρ H d
structure GrowAt {P : Program} {G : Nat → Option (List Value)} (M : Md P G) (X : Ctx) (ob : AObj) (o : Op) (ρ : Regs) : Prop where
  ok : okObj ob
  live : ob ≠ .dead
  ids : ∀ j ∈ idsObj ob, ∃ x ∈ o.operands, ∃ y, valOf ρ x = some y ∧ j ∈ idsAV y
  arrs : ∀ x ∈ o.operands, ∀ y, valOf ρ x = some y → arrsAV y = []
  op : ∀ H d, opK (propSig M) X o (fun y ρ' H' d' => y = newAV ob H.length ∧ ρ' = ρ ∧ H' = H ++ [ob] ∧ d' = d) (fun _ _ _ _ => False) ρ H d
theorem fixed_of_quiet {o : Op} {hb : Bool} (h : clsOf o = .quiet hb) : Fixed hb M X o := by
  cases o with
  | move x => cases h; exact fixed_move x
  | pick c x y => cases h; exact fixed_pick c x y
  | build t ps => cases h; exact fixed_build t ps
  | nilCheck x => cases h; exact fixed_nilCheck x
  | binOp op t x y u => cases h; exact fixed_bin op t x y u
  | unOp op t x => cases h; exact fixed_un op t x
  | makeInterface t x => cases h; exact fixed_iface t x
  | makeFunc f first caps => cases h; exact fixed_func f first caps
  | fieldAddr t x f => cases h; exact fixed_fieldAddr t x f
  | field t x f => cases h; exact fixed_field t x f
  | index t x y => cases h; exact fixed_index t x y
  | typeAssert x t u ok => cases h; exact fixed_typeAssert x t u ok
  | extract x n => cases h; exact fixed_extract x n
  | load t x => cases h; exact fixed_load t x
  | lookup t x y ok => cases h; exact fixed_lookup t x y ok
  | indexAddr t x y => cases h; exact fixed_indexAddr t x y
  | slice t x lo hi mx => cases h; exact fixed_slice t x lo hi mx
  | convert s t x => cases h; exact fixed_convert s t x
  | call c =>
    simp only [clsOf] at h
    split at h
    · rename_i e; cases h; exact fixed_builtin c _ e rfl
    · rename_i e; cases h; exact fixed_builtin c _ e rfl
    · rename_i e; cases h; exact fixed_builtin c _ e rfl
    · cases h
    · cases h
  | _ => cases h
theorem grows_of_alloc (hT : Agree P X.T) {o : Op} (h : clsOf o = .alloc) : Grows M X o := by
  cases o with
  | alloc t => exact grows_alloc hT t
  | box t x => exact grows_box t x
  | buildSlice t n ps => exact grows_buildSlice t n ps
  | call c => simp only [clsOf] at h; split at h <;> cases h
  | _ => cases h
theorem Det.mono {α : Type} {F : (α → Prop) → Prop} (h : Det F) {K K' : α → Prop} (hk : ∀ x, K x → K' x) (hf : F K) : F K' := by
  obtain ⟨y, h1, h2⟩ := h K hf
  exact h2 K' (hk y h1)
theorem sees_refl (hb : Bool) (ρ : Regs) (H : Heap) (o : Op) : Sees hb ρ ρ H H o := ⟨fun _ _ => rfl, fun _ _ _ _ _ _ _ => rfl⟩
/-- A quiet operation, done. -/
theorem quiet_do {o : Op} {hb : Bool} (hc : clsOf o = .quiet hb) {K Pk : VK Prop} (h : opK (propSig M) X o K Pk ρ H d) : ∃ x, K x ρ H d ∧ QuietAt M X x o ρ H := by
  obtain ⟨hD, hE⟩ := fixed_of_quiet (P := P) (G := G) (X := X) hc ρ H
  rw [hE ρ H d K Pk (sees_refl hb ρ H o)] at h
  obtain ⟨x, h1, h2⟩ := hD _ h
  refine ⟨x, h1, fun d' => ?_⟩
  rw [hE ρ H d' _ _ (sees_refl hb ρ H o)]
  exact h2 _ ⟨rfl, rfl, rfl, rfl⟩
theorem QuietAt.step {x : AV} {o : Op} {hb : Bool} (hc : clsOf o = .quiet hb) (h : QuietAt M X x o ρ H) (s : Sees hb ρ ρ' H H' o) : QuietAt M X x o ρ' H' := fun d => by
  obtain ⟨hD, hE⟩ := fixed_of_quiet (P := P) (G := G) (X := X) hc ρ H
  have h1 := h d
  rw [hE ρ H d _ _ (sees_refl hb ρ H o)] at h1
  rw [hE ρ' H' d _ _ s]
  exact hD.mono (fun y hy => ⟨hy.1, rfl, rfl, rfl⟩) h1
/-- An object, made. -/
theorem grow_do (hT : Agree P X.T) {o : Op} (hc : clsOf o = .alloc) (ha : ∀ x ∈ o.operands, ∀ y, valOf ρ x = some y → arrsAV y = []) {K Pk : VK Prop} (h : opK (propSig M) X o K Pk ρ H d) :
    ∃ ob, K (newAV ob H.length) ρ (H ++ [ob]) d ∧ GrowAt M X ob o ρ := by
  obtain ⟨F, hD, hI, hE⟩ := grows_of_alloc (G := G) hT hc ρ
  rw [hE ρ H d K Pk (fun _ _ => rfl) ha] at h
  obtain ⟨ob, ⟨h1, ⟨h2, h2'⟩, h3⟩, h4⟩ := hD _ (hI _ h)
  refine ⟨ob, h1, h2, h2', h3, ha, fun H' d' => ?_⟩
  rw [hE ρ H' d' _ _ (fun _ _ => rfl) ha]
  exact h4 _ ⟨rfl, rfl, rfl, rfl⟩
theorem GrowAt.step (hT : Agree P X.T) {ob : AObj} {o : Op} (hc : clsOf o = .alloc) (h : GrowAt M X ob o ρ) (s : ∀ x ∈ o.operands, valOf ρ' x = valOf ρ x) : GrowAt M X ob o ρ' := by
  obtain ⟨F, hD, hI, hE⟩ := grows_of_alloc (G := G) hT hc ρ
  refine ⟨h.ok, h.live, fun j hj => ?_, fun x hx y hy => h.arrs x hx y (by rw [← s x hx]; exact hy), fun H d => ?_⟩
  · obtain ⟨x, hx, y, hy, hj⟩ := h.ids j hj
    exact ⟨x, hx, y, by rw [s x hx]; exact hy, hj⟩
  · have h1 := h.op H d
    rw [hE ρ H d _ _ (fun _ _ => rfl) h.arrs] at h1
    rw [hE ρ' H d _ _ s h.arrs]
    exact hD.mono (fun y hy => ⟨hy.1, rfl, hy.2.2.1, rfl⟩) h1
end
end Am
end Go.Proofs.YtbdnfkmcfencdaaGreatDoor
/- The abstract machine is sound: regions that draw their order: what is asked of an order. No condition. -/
namespace Go.Proofs.YtbdnfkmcfencdaaGreatDoor
namespace Am
open Go

def predsOf (o : Oper) : List Nat := (o.after.toList.filter fun e => Region.binds .any e).map (·.on)
def tmpsOf (o : Op) : List Nat := tmpsIn o.operands.toList
def dstAt (ops : List Oper) (g : Nat) : Option Nat := (ops[g]?).bind (·.dst)
def readsOf (ops : List Oper) (o : Oper) : List Nat := tmpsOf o.op ++ (match o.guard with | some (g, _) => (dstAt ops g).toList | none => [])
def predsAt (ops : List Oper) (i : Nat) : List Nat := match ops[i]? with | some o => predsOf o | none => []
def ancLook : List (Nat × List Nat) → Nat → List Nat
  | [], _ => []
  | (k, l) :: t, n => cond (Nat.beq k n) l (ancLook t n)
def flatAnc (t : List (Nat × List Nat)) : List Nat → List Nat
  | [] => []
  | j :: l => j :: (ancLook t j ++ flatAnc t l)
def ancTbl (ops : List Oper) : List Nat → List (Nat × List Nat) → List (Nat × List Nat)
  | [], t => t
  | i :: l, t => ancTbl ops l ((i, flatAnc t (predsAt ops i)) :: t)
def floatOk (ops : List Oper) (l : List Nat) (j : Nat) : Bool := match ops[j]? with
  | some o => match clsOf o.op with
    | .quiet true => subB (tmpsOf o.op) l
    | .quiet false => true
    | .alloc => true
    | _ => false
  | none => false
def readsNot (ops : List Oper) (d j : Nat) : Bool := match ops[j]? with | some o => !memb d (readsOf ops o) | none => true
def dstNot (ops : List Oper) (d j : Nat) : Bool := match dstAt ops j with | some e => !Nat.beq e d | none => true
def lagOk (ops : List Oper) (tbl : List (Nat × List Nat)) (B A : List Nat) (i : Nat) (dst : Option Nat) : Bool := match dst with
  | none => true
  | some d => B.all (readsNot ops d) && (readsNot ops d i && A.all fun j => readsNot ops d j || memb i (ancLook tbl j))
def effOk (ops : List Oper) (tbl : List (Nat × List Nat)) (B A : List Nat) (i : Nat) (dst : Option Nat) (late : Bool) (fl : Option (List Nat)) : Bool :=
  (A.all fun j => memb i (ancLook tbl j)) && ((match dst with | some d => B.all fun j => memb j (ancLook tbl i) || readsNot ops d j | none => true) &&
    (match fl with | none => B.all fun j => memb j (ancLook tbl i) | some l => late && B.all fun j => memb j (ancLook tbl i) || floatOk ops l j))
def clsOk (ops : List Oper) (tbl : List (Nat × List Nat)) (B A : List Nat) (i : Nat) (dst : Option Nat) (c : Cls) (fl : Option (List Nat)) : Bool := match c with
  | .quiet _ => fl.isNone && lagOk ops tbl B A i dst
  | .alloc => fl.isNone && (dst.isSome && lagOk ops tbl B A i dst)
  | .assign => effOk ops tbl B A i dst true fl
  | .call => effOk ops tbl B A i dst true fl
  | .store => effOk ops tbl B A i dst true fl
  | .other => effOk ops tbl B A i dst false fl
def itemOk (ops : List Oper) (n : Nat) (tbl : List (Nat × List Nat)) (B A : List Nat) (i : Nat) (fl : Option (List Nat)) : Bool := match ops[i]? with
  | none => false
  | some o => dstFits n o && (subB (predsOf o) B && ((match o.guard with | some (g, _) => memb g (predsOf o) | none => true) &&
      ((match o.dst with | some d => (B ++ A).all (dstNot ops d) | none => true) && clsOk ops tbl B A i o.dst (clsOf o.op) fl)))
def ordOk (ops : List Oper) (n : Nat) (tbl : List (Nat × List Nat)) : List Nat → List (Nat × Option (List Nat)) → Bool
  | _, [] => true
  | B, p :: l => itemOk ops n tbl B (l.map (·.1)) p.1 p.2 && ordOk ops n tbl (B ++ [p.1]) l
def nodupB : List Nat → Bool
  | [] => true
  | k :: l => !memb k l && nodupB l
/-- May the last three be gone through in either order? -/
def tailOk (ops : List Oper) (n : Nat) (idx : List Nat) : List Nat → Bool
  | [] => true
  | [i, j, k] => match ops[i]?, ops[j]?, ops[k]? with
    | some oi, some oj, some ok => oi.guard.isNone && (oj.guard.isNone && (ok.guard.isNone && (oj.dst.isNone && (ok.dst.isNone && (memb i (predsOf oj) && (subB (predsOf oi) idx && (subB (predsOf oj) (i :: idx) && (subB (predsOf ok) idx && (dstFits n oi &&
      (match oi.dst with
        | some d => !memb d (tmpsOf ok.op) && (!memb d (tmpsOf oi.op) && (match oj.op with | .store _ (.tmp t) v => Nat.beq t d && (match v with | .tmp u => !Nat.beq u d | _ => true) | _ => false))
        | none => false))))))))))
    | _, _, _ => false
  | _ => false
/-- May a region be gone through in this order? -/
def drawOk (ops : List Oper) (n : Nat) (ord : List (Nat × Option (List Nat))) (tail : List Nat) : Bool :=
  subB (List.range ops.length) (ord.map (·.1) ++ tail) && (nodupB (ord.map (·.1) ++ tail) && (ordOk ops n (ancTbl ops (ord.map (·.1)) []) [] ord &&
    ((tail.all fun t => (ord.map (·.1)).all fun j => memb j (ancLook (ancTbl ops (ord.map (·.1) ++ tail) []) t)) && tailOk ops n (ord.map (·.1)) tail)))

/-- Whoever is done with what j wants, is done with i. -/
def Anc (ops : List Oper) (i j : Nat) : Prop := ∀ D : Nat → Prop, (∀ m, D m → ∀ p ∈ predsAt ops m, D p) → (∀ p ∈ predsAt ops j, D p) → D i
section
variable {ops : List Oper} {n : Nat} {tbl : List (Nat × List Nat)}
theorem subB_iff : ∀ {l m : List Nat}, subB l m = true ↔ ∀ k ∈ l, k ∈ m
  | [], m => by simp [subB]
  | k :: l, m => by
    simp only [subB]
    cases h : memb k m with
    | true => simp [subB_iff (l := l), memb_iff.1 h]
    | false =>
      simp only [cond_false, Bool.false_eq_true, false_iff]
      intro hk
      have := memb_iff.2 (hk k (by simp))
      rw [h] at this; cases this
theorem apartB_iff : ∀ {l m : List Nat}, apartB l m = true ↔ ∀ k ∈ l, k ∉ m
  | [], m => by simp [apartB]
  | k :: l, m => by
    simp only [apartB]
    cases h : memb k m with
    | true => simp only [cond_true, Bool.false_eq_true, false_iff]; exact fun hk => hk k (by simp) (memb_iff.1 h)
    | false =>
      have : k ∉ m := fun hk => by rw [memb_iff.2 hk] at h; cases h
      simp [apartB_iff (l := l), this]
theorem nodupB_iff : ∀ {l : List Nat}, nodupB l = true → l.Nodup
  | [], _ => List.nodup_nil
  | k :: l, h => by
    simp only [nodupB, Bool.and_eq_true, Bool.not_eq_true'] at h
    exact List.nodup_cons.2 ⟨fun hk => (by rw [memb_iff.2 hk] at h; cases h.1), nodupB_iff h.2⟩
theorem flatAnc_anc {t : List (Nat × List Nat)} (ht : ∀ j, ∀ i ∈ ancLook t j, Anc ops i j) (k : Nat) : ∀ {l : List Nat}, (∀ p ∈ l, p ∈ predsAt ops k) → ∀ i ∈ flatAnc t l, Anc ops i k
  | [], _, i, hi => by simp [flatAnc] at hi
  | j :: l, hl, i, hi => by
    simp only [flatAnc, List.mem_cons, List.mem_append] at hi
    rcases hi with rfl | hi | hi
    · exact fun D _ hp => hp i (hl i (by simp))
    · exact fun D hc hp => ht j i hi D hc (hc j (hp j (hl j (by simp))))
    · exact flatAnc_anc ht k (fun p hp => hl p (by simp [hp])) i hi
theorem ancTbl_anc : ∀ (l : List Nat) {t : List (Nat × List Nat)}, (∀ j, ∀ i ∈ ancLook t j, Anc ops i j) → ∀ j, ∀ i ∈ ancLook (ancTbl ops l t) j, Anc ops i j
  | [], _, h => h
  | k :: l, t, h => ancTbl_anc l fun j i hi => by
    simp only [ancLook] at hi
    cases hb : Nat.beq k j with
    | true =>
      rw [hb] at hi
      obtain rfl := Nat.eq_of_beq_eq_true hb
      exact flatAnc_anc h k (fun p hp => hp) i hi
    | false => rw [hb] at hi; exact h j i hi
def lagC : Cls → Bool
  | .quiet _ => true
  | .alloc => true
  | _ => false
/-- What may be late past an effect. -/
def Floats (ops : List Oper) (c : Cls) (B : List Nat) (i : Nat) : Option (List Nat) → Prop
  | none => ∀ j ∈ B, Anc ops j i
  | some l => c ≠ .other ∧ ∀ j ∈ B, Anc ops j i ∨ ∃ q, ops[j]? = some q ∧ (clsOf q.op = .quiet false ∨ clsOf q.op = .alloc ∨ (clsOf q.op = .quiet true ∧ ∀ t ∈ tmpsOf q.op, t ∈ l))
/-- What an order keeps to at one of its operations. -/
structure Item (ops : List Oper) (n : Nat) (B A : List Nat) (i : Nat) (fl : Option (List Nat)) (o : Oper) : Prop where
  at_ : ops[i]? = some o
  fits : dstFits n o = true
  preds : ∀ j ∈ predsOf o, j ∈ B
  guard : ∀ g want, o.guard = some (g, want) → g ∈ predsOf o
  uniq : ∀ d, o.dst = some d → ∀ j, j ∈ B ∨ j ∈ A → dstAt ops j ≠ some d
  lag : lagC (clsOf o.op) = true → fl = none ∧ ∀ d, o.dst = some d → (∀ j, j ∈ B ∨ j = i → ∀ q, ops[j]? = some q → d ∉ readsOf ops q) ∧ ∀ j ∈ A, ∀ q, ops[j]? = some q → d ∈ readsOf ops q → Anc ops i j
  alloc : clsOf o.op = .alloc → o.dst ≠ none
  eff : lagC (clsOf o.op) = false → (∀ j ∈ A, Anc ops i j) ∧ (∀ d, o.dst = some d → ∀ j ∈ B, ∀ q, ops[j]? = some q → Anc ops j i ∨ d ∉ readsOf ops q) ∧
    Floats ops (clsOf o.op) B i fl
theorem readsNot_spec {d j : Nat} (h : readsNot ops d j = true) : ∀ q, ops[j]? = some q → d ∉ readsOf ops q := fun q e hd => by
  unfold readsNot at h
  rw [e] at h
  simp [memb_iff.2 hd] at h
theorem dstNot_spec {d j : Nat} (h : dstNot ops d j = true) : dstAt ops j ≠ some d := fun e => by
  unfold dstNot at h
  rw [e] at h
  simp at h
theorem item_of (ht : ∀ j, ∀ i ∈ ancLook tbl j, Anc ops i j) {B A : List Nat} {i : Nat} {fl : Option (List Nat)} (h : itemOk ops n tbl B A i fl = true) : ∃ o, Item ops n B A i fl o := by
  unfold itemOk at h
  split at h
  · cases h
  · rename_i o e
    simp only [Bool.and_eq_true] at h
    obtain ⟨h1, h2, h3, h4, h5⟩ := h
    have hlag : lagOk ops tbl B A i o.dst = true → ∀ d, o.dst = some d → (∀ j, j ∈ B ∨ j = i → ∀ q, ops[j]? = some q → d ∉ readsOf ops q) ∧ ∀ j ∈ A, ∀ q, ops[j]? = some q → d ∈ readsOf ops q → Anc ops i j := by
      intro hl d hd
      unfold lagOk at hl
      rw [hd] at hl
      simp only [Bool.and_eq_true, List.all_eq_true, Bool.or_eq_true] at hl
      obtain ⟨l1, l2, l3⟩ := hl
      refine ⟨fun j hj => ?_, fun j hj q hq hr => ?_⟩
      · rcases hj with hj | rfl
        · exact readsNot_spec (l1 j hj)
        · exact readsNot_spec l2
      · rcases l3 j hj with l | l
        · exact absurd hr (readsNot_spec l q hq)
        · exact ht j i (memb_iff.1 l)
    have heff : ∀ late, effOk ops tbl B A i o.dst late fl = true → (late = true → clsOf o.op ≠ .other) → (∀ j ∈ A, Anc ops i j) ∧ (∀ d, o.dst = some d → ∀ j ∈ B, ∀ q, ops[j]? = some q → Anc ops j i ∨ d ∉ readsOf ops q) ∧
        Floats ops (clsOf o.op) B i fl := by
      intro late he hlate
      unfold effOk at he
      simp only [Bool.and_eq_true, List.all_eq_true] at he
      obtain ⟨e1, e2, e3⟩ := he
      refine ⟨fun j hj => ht j i (memb_iff.1 (e1 j hj)), fun d hd j hj q hq => ?_, ?_⟩
      · rw [hd] at e2
        simp only [List.all_eq_true, Bool.or_eq_true] at e2
        exact (e2 j hj).imp (fun h => ht i j (memb_iff.1 h)) (fun h => readsNot_spec h q hq)
      · cases fl with
        | none =>
          simp only [List.all_eq_true] at e3
          exact fun j hj => ht i j (memb_iff.1 (e3 j hj))
        | some l =>
          simp only [Bool.and_eq_true, List.all_eq_true, Bool.or_eq_true] at e3
          refine ⟨hlate e3.1, fun j hj => (e3.2 j hj).imp (fun h => ht i j (memb_iff.1 h)) fun h => ?_⟩
          unfold floatOk at h
          split at h
          · rename_i q hq
            refine ⟨q, hq, ?_⟩
            split at h
            · rename_i hc; exact .inr (.inr ⟨hc, subB_iff.1 h⟩)
            · rename_i hc; exact .inl hc
            · rename_i hc; exact .inr (.inl hc)
            · cases h
          · cases h
    refine ⟨o, e, h1, subB_iff.1 h2, fun g want hg => ?_, fun d hd j hj => ?_, fun hc => ?_, fun hc => ?_, fun hc => ?_⟩
    · rw [hg] at h3; exact memb_iff.1 h3
    · rw [hd] at h4
      simp only [List.all_eq_true] at h4
      exact dstNot_spec (h4 j (List.mem_append.2 hj))
    · cases e' : clsOf o.op with
      | quiet b => rw [e'] at h5; simp only [clsOk, Bool.and_eq_true] at h5; exact ⟨by simpa using h5.1, hlag h5.2⟩
      | alloc => rw [e'] at h5; simp only [clsOk, Bool.and_eq_true] at h5; exact ⟨by simpa using h5.1, hlag h5.2.2⟩
      | _ => rw [e'] at hc; cases hc
    · rw [hc] at h5
      simp only [clsOk, Bool.and_eq_true] at h5
      intro hd
      rw [hd] at h5; simp at h5
    · cases e' : clsOf o.op with
      | quiet b => rw [e'] at hc; cases hc
      | alloc => rw [e'] at hc; cases hc
      | assign => rw [e'] at h5; have := heff true h5 (fun _ => by rw [e']; nofun); rwa [e'] at this
      | call => rw [e'] at h5; have := heff true h5 (fun _ => by rw [e']; nofun); rwa [e'] at this
      | store => rw [e'] at h5; have := heff true h5 (fun _ => by rw [e']; nofun); rwa [e'] at this
      | other => rw [e'] at h5; have := heff false h5 nofun; rwa [e'] at this
theorem ordOk_at : ∀ {l : List (Nat × Option (List Nat))} {B : List Nat} {B2 A : List (Nat × Option (List Nat))} {i : Nat} {fl : Option (List Nat)}, ordOk ops n tbl B l = true → l = B2 ++ (i, fl) :: A →
    itemOk ops n tbl (B ++ B2.map (·.1)) (A.map (·.1)) i fl = true
  | [], B, B2, A, i, fl, _, e => by simp at e
  | p :: l, B, [], A, i, fl, h, e => by
    simp only [ordOk, Bool.and_eq_true] at h
    simp only [List.nil_append, List.cons.injEq] at e
    obtain ⟨rfl, rfl⟩ := e
    simpa using h.1
  | p :: l, B, q :: B2, A, i, fl, h, e => by
    simp only [ordOk, Bool.and_eq_true] at h
    simp only [List.cons_append, List.cons.injEq] at e
    obtain ⟨rfl, e⟩ := e
    have := ordOk_at h.2 e
    simpa using this
/-- An order that may be gone through. -/
structure Order (ops : List Oper) (n : Nat) (ord : List (Nat × Option (List Nat))) (tail : List Nat) : Prop where
  all : ∀ i, i < ops.length → i ∈ ord.map (·.1) ∨ i ∈ tail
  nodup : (ord.map (·.1)).Nodup
  tnodup : tail.Nodup
  apart : ∀ i ∈ tail, i ∉ ord.map (·.1)
  item : ∀ B A i fl, ord = B ++ (i, fl) :: A → ∃ o, Item ops n (B.map (·.1)) (A.map (·.1)) i fl o
  anc : ∀ i ∈ tail, ∀ j ∈ ord.map (·.1), Anc ops j i
  tail : tailOk ops n (ord.map (·.1)) tail = true
theorem order_of {ord : List (Nat × Option (List Nat))} {tail : List Nat} (h : drawOk ops n ord tail = true) : Order ops n ord tail := by
  unfold drawOk at h
  simp only [Bool.and_eq_true, List.all_eq_true] at h
  obtain ⟨h1, h2, h3, h4, h5⟩ := h
  have hn := nodupB_iff h2
  rw [List.nodup_append] at hn
  refine ⟨fun i hi => List.mem_append.1 (subB_iff.1 h1 i (by simpa using hi)), hn.1, hn.2.1, fun i hi hj => hn.2.2 i hj i hi rfl, fun B A i fl e => item_of (ancTbl_anc (t := []) (ord.map (·.1)) (fun _ _ h => by simp [ancLook] at h)) ?_,
    fun i hi j hj => ancTbl_anc (t := []) (ord.map (·.1) ++ tail) (fun _ _ h => by simp [ancLook] at h) i j (memb_iff.1 (h4 i hi j hj)), h5⟩
  have := ordOk_at h3 e
  simpa using this
end
end Am
end Go.Proofs.YtbdnfkmcfencdaaGreatDoor
/- The abstract machine is sound: regions that draw their order: the simulation. No condition. -/
namespace Go.Proofs.YtbdnfkmcfencdaaGreatDoor
namespace Am
open Go

section
variable {P : Program} {G : Nat → Option (List Value)} {M : Md P G} {X : Ctx} {E E0 E' : Env} {own own' : Nat → List Nat} {ρ ρ' : Regs} {H H' : Heap} {d d' : Dx} {a a' : Act} {w w' w0 : World} {ops : Array Oper} {n : Nat} {ord done rest : List (Nat × Option (List Nat))} {tail : List Nat} {K : EK Prop} {l : Array Bool}
def lis (l : Array Bool) (i : Nat) : Prop := l.getD i false = true
def Hidden (ops : List Oper) (done : List Nat) (l : Array Bool) (s : Nat) : Prop := ∃ i ∈ done, ¬ lis l i ∧ dstAt ops i = some s
/-- What the model still owes of an operation. -/
def Owed {P : Program} {G : Nat → Option (List Value)} (M : Md P G) (X : Ctx) (ops : Array Oper) (o : Oper) (ρ : Regs) (H : Heap) (E : Env) : Prop :=
  (GNo ops ρ o ∧ ∀ s, o.dst = some s → ρ.get s = .tup []) ∨
  (GYes ops ρ o ∧ (∃ hb, clsOf o.op = .quiet hb) ∧ ∃ x, (∀ s, o.dst = some s → ρ.get s = x) ∧ QuietAt M X x o.op ρ H ∧ (clsOf o.op = .quiet true → ∀ t ∈ tmpsOf o.op, ∀ k ∈ idsAV (ρ.get t), k < H.length)) ∨
  (GYes ops ρ o ∧ clsOf o.op = .alloc ∧ ∃ ob k s, o.dst = some s ∧ ρ.get s = newAV ob k ∧ H[k]? = some ob ∧ E.loc k = .absent ∧ GrowAt M X ob o.op ρ)
structure Sim {P : Program} {G : Nat → Option (List Value)} (M : Md P G) (X : Ctx) (ops : Array Oper) (n : Nat) (ord : List (Nat × Option (List Nat))) (K : EK Prop) (E0 : Env) (w0 : World)
    (done rest : List (Nat × Option (List Nat))) (l : Array Bool) (ρ : Regs) (H : Heap) (d : Dx) (a : Act) (w : World) (E : Env) (own : Nat → List Nat) : Prop where
  split : ord = done ++ rest
  lsize : l.size = ops.size
  sub : ∀ i, lis l i → i ∈ done.map (·.1)
  closed : ∀ i, lis l i → ∀ p ∈ predsAt ops.toList i, lis l p
  eff : ∀ i ∈ done.map (·.1), ∀ o, ops.toList[i]? = some o → lagC (clsOf o.op) = false → lis l i
  owed : ∀ i ∈ done.map (·.1), ¬ lis l i → ∀ o, ops.toList[i]? = some o → Owed M X ops o ρ H E
  dist : ∀ i j oi oj si sj, i ∈ done.map (·.1) → j ∈ done.map (·.1) → ¬ lis l i → ¬ lis l j → i ≠ j → ops.toList[i]? = some oi → ops.toList[j]? = some oj → clsOf oi.op = .alloc → clsOf oj.op = .alloc →
    oi.dst = some si → oj.dst = some sj → ∀ k ∈ idsAV (ρ.get si), k ∉ idsAV (ρ.get sj)
  low : ∀ i ∈ done.map (·.1), ¬ lis l i → ∀ o s, ops.toList[i]? = some o → clsOf o.op = .alloc → o.dst = some s → ∀ k ∈ idsAV (ρ.get s), k < H.length
  rel : Rel G (fun s => ¬ Hidden ops.toList (done.map (·.1)) l s) E own ρ H d a w
  goes : Goes E0 w0 E w
  tsize : n ≤ a.tmps.size
  run : drawK (propSig M) X ops.toList K rest ρ H d

theorem tmpsIn_mem : ∀ {l : List Operand} {t : Nat}, .tmp t ∈ l → t ∈ tmpsIn l
  | x :: l, t, h => by
    rcases List.mem_cons.1 h with rfl | h
    · simp [tmpsIn]
    · have := tmpsIn_mem h
      cases x <;> simp [tmpsIn, this]
theorem tmpsOf_mem {o : Op} {t : Nat} (h : .tmp t ∈ o.operands) : t ∈ tmpsOf o := tmpsIn_mem (by simpa using h)
theorem valOf_same {o : Op} (h : ∀ t ∈ tmpsOf o, ρ'.get t = ρ.get t) : ∀ x ∈ o.operands, valOf ρ' x = valOf ρ x := fun x hx => by
  cases x with
  | tmp t => simp only [valOf]; rw [h t (tmpsOf_mem hx)]
  | _ => rfl
theorem readsOf_tmp {ops : List Oper} {o : Oper} {t : Nat} (h : t ∈ tmpsOf o.op) : t ∈ readsOf ops o := by unfold readsOf; exact List.mem_append_left _ h
theorem readsOf_guard {ops : List Oper} {o : Oper} {g : Nat} {want : Bool} {s : Nat} (hg : o.guard = some (g, want)) (hs : dstAt ops g = some s) : s ∈ readsOf ops o := by
  unfold readsOf
  rw [hg]
  simp [hs]
theorem dstAt_arr (g : Nat) : dstAt ops.toList g = (ops[g]?).bind (·.dst) := by simp [dstAt]
theorem GYes.step {o : Oper} (h : GYes ops ρ o) (hr : ∀ s ∈ readsOf ops.toList o, ρ'.get s = ρ.get s) : GYes ops ρ' o := fun g want hg => by
  obtain ⟨s, hs, hv⟩ := h g want hg
  exact ⟨s, hs, by rw [hr s (readsOf_guard hg (by rw [dstAt_arr]; exact hs))]; exact hv⟩
theorem GNo.step {o : Oper} (h : GNo ops ρ o) (hr : ∀ s ∈ readsOf ops.toList o, ρ'.get s = ρ.get s) : GNo ops ρ' o := by
  obtain ⟨g, want, hg, h⟩ := h
  refine ⟨g, want, hg, fun s hs => ?_⟩
  rw [hr s (readsOf_guard hg (by rw [dstAt_arr]; exact hs))]
  exact h s hs
theorem newAV_ids {ob : AObj} {k : Nat} (h : ob ≠ .dead) : k ∈ idsAV (newAV ob k) := by
  cases ob <;> first | exact absurd rfl h | simp [newAV, idsAV]
/-- What is owed stays so. -/
theorem Owed.step (hT : Agree P X.T) {o : Oper} (h : Owed M X ops o ρ H E) (hr : ∀ s ∈ readsOf ops.toList o, ρ'.get s = ρ.get s) (hd : ∀ s, o.dst = some s → ρ'.get s = ρ.get s) (hlen : H.length ≤ H'.length)
    (hq : clsOf o.op = .quiet true → ∀ t ∈ tmpsOf o.op, ∀ k ∈ idsAV (ρ.get t), k < H.length → H'[k]? = H[k]?)
    (ha : clsOf o.op = .alloc → ∀ s k ob, o.dst = some s → k ∈ idsAV (ρ.get s) → H[k]? = some ob → E.loc k = .absent → okObj ob → H'[k]? = some ob ∧ E'.loc k = .absent) : Owed M X ops o ρ' H' E' := by
  have ht : ∀ t ∈ tmpsOf o.op, ρ'.get t = ρ.get t := fun t ht => hr t (readsOf_tmp ht)
  rcases h with ⟨h1, h2⟩ | ⟨h1, ⟨hb, hc⟩, x, h2, h3, h4⟩ | ⟨h1, hc, ob, k, s, h2, h3, h4, h5, h6⟩
  · exact .inl ⟨h1.step hr, fun s hs => by rw [hd s hs]; exact h2 s hs⟩
  · refine .inr (.inl ⟨h1.step hr, ⟨hb, hc⟩, x, fun s hs => by rw [hd s hs]; exact h2 s hs, h3.step hc ⟨valOf_same ht, fun e y hy v hv k hk => ?_⟩, fun hc' t htt k hk => ?_⟩)
    · subst e
      obtain ⟨t, rfl, rfl⟩ := valOf_ids hv hk
      have htt := tmpsOf_mem hy
      exact hq hc t htt k hk (h4 hc t htt k hk)
    · rw [ht t htt] at hk
      have := h4 hc' t htt k hk
      omega
  · obtain ⟨g1, g2⟩ := ha hc s k ob h2 (by rw [h3]; exact newAV_ids h6.live) h4 h5 h6.ok
    exact .inr (.inr ⟨h1.step hr, hc, ob, k, s, h2, by rw [hd s h2]; exact h3, g1, g2, h6.step hT hc (valOf_same ht)⟩)

theorem ops_lt {i : Nat} {o : Oper} (h : ops.toList[i]? = some o) : i < ops.size := by
  have := (List.getElem?_eq_some_iff.1 h).1
  simpa using this
theorem Sim.item (_s : Sim M X ops n ord K E0 w0 done rest l ρ H d a w E own) (ho : Order ops.toList n ord tail) {i : Nat} (hi : i ∈ ord.map (·.1)) :
    ∃ B fl A o, ord = B ++ (i, fl) :: A ∧ Item ops.toList n (B.map (·.1)) (A.map (·.1)) i fl o := by
  obtain ⟨⟨i', fl⟩, hm, rfl⟩ := List.mem_map.1 hi
  obtain ⟨B, A, e⟩ := List.append_of_mem hm
  obtain ⟨o, h⟩ := ho.item B A i' fl e
  exact ⟨B, fl, A, o, e, h⟩
theorem Sim.done_ord (s : Sim M X ops n ord K E0 w0 done rest l ρ H d a w E own) {i : Nat} (hi : i ∈ done.map (·.1)) : i ∈ ord.map (·.1) := by
  rw [s.split]; simp only [List.map_append, List.mem_append]; exact .inl hi
/-- What the next operation looks at is to be seen. -/
theorem Sim.seen (s : Sim M X ops n ord K E0 w0 done rest l ρ H d a w E own) (ho : Order ops.toList n ord tail) {i : Nat} {o : Oper} (hio : i ∈ ord.map (·.1)) (hi : ops.toList[i]? = some o) (hp : ∀ p ∈ predsAt ops.toList i, lis l p) :
    ∀ t ∈ readsOf ops.toList o, ¬ Hidden ops.toList (done.map (·.1)) l t := by
  rintro t ht ⟨j, hj, hlj, hd⟩
  obtain ⟨B, fl, A, q, e, it⟩ := s.item ho (s.done_ord hj)
  have hq : q.dst = some t := by unfold dstAt at hd; rw [it.at_] at hd; exact hd
  have hlag : lagC (clsOf q.op) = true := by
    cases hc : lagC (clsOf q.op) with
    | true => rfl
    | false => exact absurd (s.eff j hj q it.at_ hc) hlj
  obtain ⟨_, h2⟩ := it.lag hlag
  obtain ⟨h3, h4⟩ := h2 t hq
  rw [e] at hio
  simp only [List.map_append, List.map_cons, List.mem_append, List.mem_cons] at hio
  rcases hio with hio | rfl | hio
  · exact h3 i (.inl hio) o hi ht
  · exact h3 i (.inr rfl) o hi ht
  · exact hlj (h4 i hio o hi ht (lis l) s.closed hp)
end
end Am
end Go.Proofs.YtbdnfkmcfencdaaGreatDoor
/- The abstract machine is sound: regions that draw their order: late operations in the model. No condition. -/
namespace Go.Proofs.YtbdnfkmcfencdaaGreatDoor
namespace Am
open Go

section
variable {P : Program} {G : Nat → Option (List Value)} {M : Md P G} {L : Nat → Prop} {X : Ctx} {E E0 E' : Env} {own own' : Nat → List Nat} {ρ ρ' : Regs} {H H' : Heap} {d d' : Dx} {a a' : Act} {w w' w0 : World}
theorem builtin_lands0 (r : Rel G L E own ρ H d a w) (hT : Agree P X.T) {o : Oper} {c : Go.Call} {b : Builtin} (hb : plainBuiltin b = true) {K Pk : VK Prop} {xs : List AV} {vs : Array Value} {cst : Array Bool}
    (hx : RepVs E xs vs.toList) (h : builtinO (propSig M) X ρ H d K b c.argTypes.toList xs Pk) : Lands0 E w ρ H d K ((builtin b c.argTypes o.type cst vs).run P w) := by
  unfold builtinO at h
  have toArr : ∀ l : List Value, vs.toList = l → vs = l.toArray := fun l e => by rw [← e]
  split at h
  · rename_i x t _ e
    obtain ⟨v, m, hv, h1, h2⟩ := hx.cons_inv
    obtain rfl := h2.nil_inv
    rw [toArr _ hv]
    exact len_lands r hT h1 h (by rw [← Array.getElem?_toList, e]; rfl)
  · simp [plainBuiltin] at hb
  · simp [plainBuiltin] at hb
  · simp [plainBuiltin] at hb
  · rename_i x l _
    obtain ⟨v, m, hv, h1, h2⟩ := hx.cons_inv
    obtain ⟨y, q, h3, h4, h5⟩ := minmax_lands (w := w) true h2 h1 h
    refine Lands0.value r h3 h4 ?_
    simp only [builtin, Builtin.max_, hv, Sem.run_bind]
    erw [h5]
    rfl
  · rename_i x l _
    obtain ⟨v, m, hv, h1, h2⟩ := hx.cons_inv
    obtain ⟨y, q, h3, h4, h5⟩ := minmax_lands (w := w) false h2 h1 h
    refine Lands0.value r h3 h4 ?_
    simp only [builtin, Builtin.min_, hv, Sem.run_bind]
    erw [h5]
    rfl
  · simp [plainBuiltin] at hb
  · exact h.elim
theorem call_lands0 (r : Rel G L E own ρ H d a w) (hT : Agree P X.T) {o : Oper} {c : Go.Call} {b : Builtin} (ho : o.op = .call c) (hc : c.callee = .builtin b) (hb : plainBuiltin b = true) (hv : ∀ x ∈ c.operands, Vis L x) {K Pk : VK Prop}
    (h : callO (propSig M) X ρ H d K c Pk) : Lands0 E w ρ H d K ((execOp a.eval o).run P w) := by
  obtain ⟨xs, h1, hxs⟩ := evalsK_inv r (Vis.args hv) h
  clear h
  simp only [execOp, ho]
  unfold resolve
  rw [hc] at h1 ⊢
  have hxs' : RepVs E xs (c.args.map a.eval).toList := by simpa using hxs
  exact builtin_lands0 r hT hb hxs' h1
/-- A quiet operation: the same state is behind it. -/
theorem quiet_lands (r : Rel G L E own ρ H d a w) (hT : Agree P X.T) (hG : SubG X.G G) {o : Oper} {hb : Bool} (hc : clsOf o.op = .quiet hb) (hv : ∀ x ∈ o.op.operands, Vis L x) {K Pk : VK Prop}
    (h : opK (propSig M) X o.op K Pk ρ H d) : Lands0 E w ρ H d K ((execOp a.eval o).run P w) := by
  obtain ⟨dst, op, type, pos, after, guard⟩ := o
  cases op with
  | move x => exact move_lands r (hv x (by simp [Op.operands])) h rfl
  | pick c x y => exact pick_lands r (hv c (by simp [Op.operands])) (hv x (by simp [Op.operands])) (hv y (by simp [Op.operands])) h
  | build t ps => exact build_lands r hT (fun p hp => hv p.2 (by simp [Op.operands]; exact ⟨p.1, by simpa using hp⟩)) h
  | load t x => exact load_lands r hT hG (hv x (by simp [Op.operands])) h
  | nilCheck x => exact nilCheck_lands r (hv x (by simp [Op.operands])) h rfl
  | binOp op t x y u => exact bin_lands r hT (hv x (by simp [Op.operands])) (hv y (by simp [Op.operands])) h
  | unOp op t x => exact un_lands r (hv x (by simp [Op.operands])) h
  | convert s t x => exact convert_lands r hT (hv x (by simp [Op.operands])) h
  | makeInterface t x => exact iface_lands r hT (hv x (by simp [Op.operands])) h
  | makeFunc f first caps => exact func_lands r (fun x hx => hv x (by simp [Op.operands]; exact .inr (by simpa using hx))) h
  | slice t x lo hi mx => exact slice_lands r hT (hv x (by simp [Op.operands])) (fun y hy => hv y (by simp [Op.operands, hy])) (fun y hy => hv y (by simp [Op.operands, hy])) (fun y hy => hv y (by simp [Op.operands, hy])) h
  | fieldAddr t x f => exact fieldAddr_lands r hT (hv x (by simp [Op.operands])) h
  | field t x f => exact field_lands r hT (hv x (by simp [Op.operands])) h
  | indexAddr t x y => exact indexAddr_lands r hT (hv x (by simp [Op.operands])) (hv y (by simp [Op.operands])) h
  | index t x y => exact index_lands r hT (hv x (by simp [Op.operands])) (hv y (by simp [Op.operands])) h
  | lookup t x y ok => exact lookup_lands r hT (hv x (by simp [Op.operands])) (hv y (by simp [Op.operands])) h
  | typeAssert x t u ok => exact typeAssert_lands r hT (hv x (by simp [Op.operands])) h
  | extract x n => exact extract_lands r (hv x (by simp [Op.operands])) h
  | call c =>
    simp only [clsOf] at hc
    split at hc
    · rename_i e; exact call_lands0 r hT rfl e rfl hv h
    · rename_i e; exact call_lands0 r hT rfl e rfl hv h
    · rename_i e; exact call_lands0 r hT rfl e rfl hv h
    · cases hc
    · cases hc
  | _ => cases hc
/-- An operation that makes an object. -/
theorem alloc_lands1 (r : Rel G L E own ρ H d a w) (hT : Agree P X.T) {o : Oper} (hc : clsOf o.op = .alloc) (hv : ∀ x ∈ o.op.operands, Vis L x) {K Pk : VK Prop}
    (h : opK (propSig M) X o.op K Pk ρ H d) : Lands G L E a w K ((execOp a.eval o).run P w) := by
  obtain ⟨dst, op, type, pos, after, guard⟩ := o
  cases op with
  | alloc t => exact alloc_lands r hT h
  | box t x => exact box_lands r (t := t) (hv x (by simp [Op.operands])) h
  | buildSlice t n ps => exact buildSlice_lands r hT (fun p hp => hv p.2 (by simp [Op.operands]; exact ⟨p.1, by simpa using hp⟩)) h
  | call c => simp only [clsOf] at hc; split at hc <;> cases hc
  | _ => cases hc
/-- A store into a box. -/
theorem store_ref (r : Rel G L E own ρ H d a w) (hT : Agree P X.T) {K : VK Prop} {t : Nat} {p x : Operand} (hp : Vis L p) (hx : Vis L x) {k off : Nat} (hk : valOf ρ p = some (.ref k off))
    (h : storeO (propSig M) X ρ H d K t p x) :
    ∃ cs own' w', K .undef ρ (H.set k (.box cs)) d ∧ Rel G L E own' ρ (H.set k (.box cs)) d a w' ∧ Goes E w E w' ∧
      (do Instr.storeAt t (a.eval p) (a.eval x); pure .skip : Sem Go.Next).run P w = .ok .skip w' := by
  have h : evalK (propSig M) ρ p fun a => evalK (propSig M) ρ x fun x => storeK (propSig M) X t a x ρ H fun ρ H => K .undef ρ H d := h
  rw [evalK_eq, hk] at h
  have hu : RepV E (.ref k off) (a.eval p) := by
    cases p with
    | tmp s => simp only [valOf, Option.some.injEq] at hk; rw [← hk]; exact r.regs s hp
    | const c => 
      exfalso
      have : k ∈ idsAV (.ref k off) := by simp [idsAV]
      rw [constV_ids hk] at this; cases this
    | global g => simp [valOf] at hk
    | func f => simp [valOf] at hk
  obtain ⟨y, h, hy⟩ := evalK_inv r hx h
  obtain ⟨i, h, ht⟩ := tiK_inv hT h
  generalize hcp : a.eval p = cp at hu
  generalize hcx : a.eval x = cx at hy
  obtain ⟨cs, e, h⟩ := boxK_inv h
  obtain ⟨h, ho, hc⟩ := cellsK_inv h hy
  obtain ⟨hsz, h⟩ := sizedK_inv h
  obtain ⟨hl, h⟩ := pasteK_inv h
  rw [setK_eq] at h
  obtain ⟨b, hb, rfl⟩ := hu
  obtain ⟨arr, T, h1, h2, h3, h4⟩ := r.box e hb
  have hlen := hc.length
  have hal : cs.length = arr.size := by simpa using h4.length
  have hok := okCells_paste off h3 ho
  have hr := (h4.paste off hc)
  obtain ⟨r', hg⟩ := r.write h1 (o := .box (paste cs off (cellsOf y))) (ob := .cells (paste arr.toList off cx.cells.toList).toArray T (0, 0)) (by
    simp only [RepO, hb]
    exact ⟨okCells_O hok, _, T, [], rfl, setBlock_same h2, RepCs.mk hok (by simpa using hr)⟩) (fun cs e => by cases e; exact hok)
  refine ⟨_, _, _, h, r'.same, hg, ?_⟩
  rw [Sem.run_bind, run_storeVar ht h2 (by rw [← hlen]; exact hsz) (okCells_one ho hc) (by
    rcases hl with hl | hl
    · left; rw [hl] at hlen; exact List.length_eq_zero_iff.1 hlen.symm
    · right; omega)]
  rfl
end
end Am
end Go.Proofs.YtbdnfkmcfencdaaGreatDoor
/- The abstract machine is sound: regions that draw their order: the steps of the simulation. No condition. -/
namespace Go.Proofs.YtbdnfkmcfencdaaGreatDoor
namespace Am
open Go

section
variable {P : Program} {G : Nat → Option (List Value)} {M : Md P G} {X : Ctx} {E E0 E' : Env} {own own' : Nat → List Nat} {ρ ρ' : Regs} {H H' : Heap} {d d' : Dx} {a a' : Act} {w w' w0 : World} {ops : Array Oper} {n : Nat} {ord done rest : List (Nat × Option (List Nat))} {tail : List Nat} {K : EK Prop} {l : Array Bool}
theorem dstAt_of {ops : List Oper} {i : Nat} {o : Oper} (h : ops[i]? = some o) : dstAt ops i = o.dst := by simp [dstAt, h]
/-- The abstract machine does an operation that the model has not done yet. -/
theorem Sim.adv' (hT : Agree P X.T) {p : Nat × Option (List Nat)} (s : Sim M X ops n ord K E0 w0 done (p :: rest) l ρ H d a w E own) {o : Oper} (it : Item ops.toList n (done.map (·.1)) (rest.map (·.1)) p.1 p.2 o)
    (hnd : (ord.map (·.1)).Nodup) (hlag : lagC (clsOf o.op) = true) (hli : ¬ lis l p.1) {ρ2 : Regs} {H2 : Heap} (hget : ∀ t, o.dst ≠ some t → ρ2.get t = ρ.get t) (hH : H2 = H ∨ ∃ ob, okObj ob ∧ H2 = H ++ [ob])
    (hown : Owed M X ops o ρ2 H2 E) (hdist : clsOf o.op = .alloc → ∀ t, o.dst = some t → ∀ k ∈ idsAV (ρ2.get t), H.length ≤ k ∧ k < H2.length) (hrun : drawK (propSig M) X ops.toList K rest ρ2 H2 d) :
    Sim M X ops n ord K E0 w0 (done ++ [p]) rest l ρ2 H2 d a w E own := by
  have hlen : H.length ≤ H2.length := by
    rcases hH with rfl | ⟨ob, _, rfl⟩
    · exact Nat.le_refl _
    · simp
  have hold : ∀ k, k < H.length → H2[k]? = H[k]? := fun k hk => by
    rcases hH with rfl | ⟨ob, _, rfl⟩
    · rfl
    · exact List.getElem?_append_left hk
  have hpd : p.1 ∉ done.map (·.1) := by
    rw [s.split] at hnd
    simp only [List.map_append, List.map_cons, List.nodup_append] at hnd
    intro h
    exact hnd.2.2 p.1 h p.1 (by simp) rfl
  have mem : ∀ {j : Nat}, j ∈ (done ++ [p]).map (·.1) ↔ j ∈ done.map (·.1) ∨ j = p.1 := fun {j} => by simp
  have hdst : ∀ j ∈ done.map (·.1), ∀ q, ops.toList[j]? = some q → ∀ t, q.dst = some t → o.dst ≠ some t := fun j hj q hq t ht hd => it.uniq t hd j (.inl hj) (by rw [dstAt_of hq]; exact ht)
  refine ⟨by rw [s.split]; simp, s.lsize, fun i hi => mem.2 (.inl (s.sub i hi)), s.closed, fun i hi q hq hc => ?_, fun i hi hl q hq => ?_, ?_, fun i hi hl q t hq hc ht k hk => ?_, ?_, s.goes, s.tsize, hrun⟩
  · rcases mem.1 hi with hi | rfl
    · exact s.eff i hi q hq hc
    · rw [it.at_] at hq; cases hq; rw [hlag] at hc; cases hc
  · rcases mem.1 hi with hi | rfl
    · refine (s.owed i hi hl q hq).step hT (fun t ht => hget t fun hd => ?_) (fun t ht => hget t (hdst i hi q hq t ht)) hlen (fun _ t ht k hk hkl => hold k hkl) fun _ _ k ob _ _ hk ha _ => ⟨?_, ha⟩
      · exact ((it.lag hlag).2 t hd).1 i (.inl hi) q hq ht
      · rw [hold k (List.getElem?_eq_some_iff.1 hk).1]; exact hk
    · rw [it.at_] at hq; cases hq; exact hown
  · intro i j oi oj si sj hi hj hli hlj hij hoi hoj ci cj di dj k hk hk'
    rcases mem.1 hi with hi | rfl <;> rcases mem.1 hj with hj | rfl
    · rw [hget si (hdst i hi oi hoi si di)] at hk
      rw [hget sj (hdst j hj oj hoj sj dj)] at hk'
      exact s.dist i j oi oj si sj hi hj hli hlj hij hoi hoj ci cj di dj k hk hk'
    · rw [it.at_] at hoj; cases hoj
      rw [hget si (hdst i hi oi hoi si di)] at hk
      have h1 := s.low i hi hli oi si hoi ci di k hk
      have h2 := (hdist cj sj dj k hk').1
      omega
    · rw [it.at_] at hoi; cases hoi
      rw [hget sj (hdst j hj oj hoj sj dj)] at hk'
      have h1 := s.low j hj hlj oj sj hoj cj dj k hk'
      have h2 := (hdist ci si di k hk).1
      omega
    · exact hij rfl
  · rcases mem.1 hi with hi | rfl
    · rw [hget t (hdst i hi q hq t ht)] at hk
      have := s.low i hi hl q t hq hc ht k hk
      omega
    · rw [it.at_] at hq; cases hq
      exact (hdist hc t ht k hk).2
  · have r1 : Rel G (fun t => ¬ Hidden ops.toList ((done ++ [p]).map (·.1)) l t) E own ρ2 H d a w := by
      refine ⟨fun t ht => ?_, s.rel.heap, s.rel.ok, s.rel.glob, s.rel.defs, s.rel.laid⟩
      rw [hget t fun hd => ht ⟨p.1, mem.2 (.inr rfl), hli, by rw [dstAt_of it.at_]; exact hd⟩]
      exact s.rel.regs t fun ⟨j, hj, h1, h2⟩ => ht ⟨j, mem.2 (.inl hj), h1, h2⟩
    rcases hH with rfl | ⟨ob, hob, rfl⟩
    · exact r1
    · exact r1.late hob
theorem noArr_of {o : Op} {b : Prop} (h : mapK (evalK (propSig M) ρ) o.operands.toList fun xs => cond (arrsAVs xs).isEmpty b False) : b ∧ ∀ x ∈ o.operands, ∀ y, valOf ρ x = some y → arrsAV y = [] := by
  have key : ∀ {l : List Operand} {f : List AV → Prop}, mapK (evalK (propSig M) ρ) l f → ∃ ys, f ys ∧ ∀ x ∈ l, ∀ y, valOf ρ x = some y → y ∈ ys := by
    intro l
    induction l with
    | nil => exact fun {f} h => ⟨[], h, by simp⟩
    | cons x l ih =>
      intro f h
      rw [mapK_cons, evalK_eq] at h
      cases hv : valOf ρ x with
      | none => rw [hv] at h; exact h.elim
      | some y =>
        rw [hv] at h
        obtain ⟨ys, h1, h2⟩ := ih h
        refine ⟨_, h1, fun z hz u hu => ?_⟩
        rcases List.mem_cons.1 hz with rfl | hz
        · rw [hv] at hu; cases hu; simp
        · exact List.mem_cons_of_mem _ (h2 z hz u hu)
  obtain ⟨ys, h1, h2⟩ := key h
  obtain ⟨h3, h4⟩ := condF h1
  have h5 : arrsAVs ys = [] := by simpa using h3
  have h6 : ∀ {ys : List AV}, arrsAVs ys = [] → ∀ y ∈ ys, arrsAV y = [] := by
    intro ys
    induction ys with
    | nil => intro _ y hy; cases hy
    | cons z ys ih =>
      intro h y hy
      simp only [arrsAVs, List.append_eq_nil_iff] at h
      rcases List.mem_cons.1 hy with rfl | hy
      · exact h.1
      · exact ih h.2 y hy
  exact ⟨h4, fun x hx y hy => h6 h5 y (h2 x (by simpa using hx) y hy)⟩
theorem Regs.val_eq : ∀ (ρ : Regs) (r : Nat), ρ.val r = ρ.get r
  | .nil, _ => rfl
  | .cons s x l, r => by
    simp only [Regs.val, Regs.get]
    cases h : Nat.beq s r with
    | true => rw [if_pos (Nat.eq_of_beq_eq_true h)]; rfl
    | false => rw [if_neg fun e => by subst e; rw [Nat.beq_refl] at h; cases h]; exact Regs.val_eq l r
theorem flIds_mem : ∀ {fl : List Nat} {r k : Nat}, r ∈ fl → k ∈ idsAV (ρ.get r) → k ∈ flIds ρ fl
  | s :: fl, r, k, hr, hk => by
    simp only [flIds, List.mem_append]
    rcases List.mem_cons.1 hr with rfl | hr
    · rw [Regs.val_eq]; exact .inl hk
    · exact .inr (flIds_mem hr hk)
theorem belowB_iff : ∀ {n : Nat} {l : List Nat}, belowB n l = true → ∀ k ∈ l, k < n
  | n, [], _, k, hk => by cases hk
  | n, j :: l, h, k, hk => by
    simp only [belowB] at h
    cases hb : Nat.ble (j + 1) n with
    | false => rw [hb] at h; cases h
    | true =>
      rw [hb] at h
      have := Nat.le_of_ble_eq_true hb
      rcases List.mem_cons.1 hk with rfl | hk
      · omega
      · exact belowB_iff h k hk
theorem Sim.item_head {p : Nat × Option (List Nat)} (s : Sim M X ops n ord K E0 w0 done (p :: rest) l ρ H d a w E own) (ho : Order ops.toList n ord tail) :
    ∃ o, Item ops.toList n (done.map (·.1)) (rest.map (·.1)) p.1 p.2 o := by
  obtain ⟨i, fl⟩ := p
  exact ho.item done rest i fl s.split
/-- The run of the next operation. -/
theorem Sim.step {p : Nat × Option (List Nat)} (s : Sim M X ops n ord K E0 w0 done (p :: rest) l ρ H d a w E own) {o : Oper} (h : ops.toList[p.1]? = some o) :
    guardK (propSig M) ops.toList o.guard (fun ρ => preK (propSig M) X o.op p.2 ρ H (opK (propSig M) X o.op (fun x ρ => drawK (propSig M) X ops.toList K rest (ρ.put o.dst x)) (fun x _ => K (.panic x) .nil) ρ H d))
      (fun ρ => drawK (propSig M) X ops.toList K rest (ρ.put o.dst (.tup [])) H d) ρ := by
  have hr := s.run
  obtain ⟨i, fl⟩ := p
  have hr : getK ops.toList i False fun o => guardK (propSig M) ops.toList o.guard (fun ρ => preK (propSig M) X o.op fl ρ H (opK (propSig M) X o.op (fun x ρ => drawK (propSig M) X ops.toList K rest (ρ.put o.dst x)) (fun x _ => K (.panic x) .nil) ρ H d))
      (fun ρ => drawK (propSig M) X ops.toList K rest (ρ.put o.dst (.tup [])) H d) ρ := hr
  rw [getK_eq, h] at hr
  exact hr
theorem Sim.adv (hT : Agree P X.T) {p : Nat × Option (List Nat)} (s : Sim M X ops n ord K E0 w0 done (p :: rest) l ρ H d a w E own) (ho : Order ops.toList n ord tail)
    (hlag : ∀ o, ops.toList[p.1]? = some o → lagC (clsOf o.op) = true) (hli : ¬ lis l p.1) : ∃ ρ2 H2, Sim M X ops n ord K E0 w0 (done ++ [p]) rest l ρ2 H2 d a w E own := by
  obtain ⟨o, it⟩ := s.item_head ho
  have hl := hlag o it.at_
  have hs := s.step it.at_
  obtain ⟨hfl, hreads⟩ := it.lag hl
  have own_reads : ∀ (ρ1 : Regs) (x : AV), (∀ t, ρ1.get t = ρ.get t) → ∀ t ∈ readsOf ops.toList o, (ρ1.put o.dst x).get t = ρ1.get t := fun ρ1 x _ t ht => by
    rw [Regs.get_put]
    split
    · rename_i hd; exact absurd ht ((hreads t hd).1 p.1 (.inr rfl) o it.at_)
    · rfl
  have getp : ∀ (ρ1 : Regs) (x : AV), (∀ t, ρ1.get t = ρ.get t) → ∀ t, o.dst ≠ some t → (ρ1.put o.dst x).get t = ρ.get t := fun ρ1 x h t ht => by
    rw [Regs.get_put, if_neg ht]; exact h t
  rcases guard_split hs with ⟨hg, ρ1, h1, h2⟩ | ⟨hg, ρ1, h1, h2⟩
  · rw [hfl] at h1
    have h1 : seeK (propSig M) o.op ρ1 H (opK (propSig M) X o.op (fun x ρ => drawK (propSig M) X ops.toList K rest (ρ.put o.dst x)) (fun x _ => K (.panic x) .nil) ρ1 H d) := h1
    have hg1 : GYes ops ρ1 o := hg.step fun t _ => h2 t
    cases hc : clsOf o.op with
    | quiet hb =>
      have h3 : opK (propSig M) X o.op (fun x ρ => drawK (propSig M) X ops.toList K rest (ρ.put o.dst x)) (fun x _ => K (.panic x) .nil) ρ1 H d ∧ (clsOf o.op = .quiet true → ∀ t ∈ tmpsOf o.op, ∀ k ∈ idsAV (ρ1.get t), k < H.length) := by
        unfold seeK at h1
        rw [hc] at h1
        cases hb with
        | false => exact ⟨h1, fun e => by rw [hc] at e; cases e⟩
        | true =>
          obtain ⟨hbe, h1⟩ := condF h1
          exact ⟨h1, fun _ t ht k hk => belowB_iff hbe k (flIds_mem ht hk)⟩
      obtain ⟨x, h4, h5⟩ := quiet_do hc h3.1
      refine ⟨_, H, s.adv' hT it ho.nodup hl hli (getp ρ1 x h2) (.inl rfl) ?_ (fun e => by rw [hc] at e; cases e) h4⟩
      refine .inr (.inl ⟨hg1.step (own_reads ρ1 x h2), ⟨hb, hc⟩, x, fun t ht => by rw [Regs.get_put, if_pos ht], h5.step hc ⟨valOf_same fun t ht => own_reads ρ1 x h2 t (readsOf_tmp ht), fun _ y _ _ _ k _ => rfl⟩, fun e t ht k hk => ?_⟩)
      rw [own_reads ρ1 x h2 t (readsOf_tmp ht)] at hk
      exact h3.2 e t ht k hk
    | alloc =>
      unfold seeK at h1
      rw [hc] at h1
      obtain ⟨h3, h4⟩ := noArr_of h1
      obtain ⟨ob, h5, h6⟩ := grow_do hT hc h4 h3
      obtain ⟨t, ht⟩ := Option.ne_none_iff_exists'.1 (it.alloc hc)
      have hget : (ρ1.put o.dst (newAV ob H.length)).get t = newAV ob H.length := by rw [Regs.get_put, if_pos ht]
      refine ⟨_, _, s.adv' hT it ho.nodup hl hli (getp ρ1 _ h2) (.inr ⟨ob, h6.ok, rfl⟩) ?_ (fun _ t' ht' k hk => ?_) h5⟩
      · exact .inr (.inr ⟨hg1.step (own_reads ρ1 _ h2), hc, ob, H.length, t, ht, hget, by simp, (s.rel.heap.beyond _ (Nat.le_refl _)).1, h6.step hT hc (valOf_same fun t ht => own_reads ρ1 _ h2 t (readsOf_tmp ht))⟩)
      · rw [ht] at ht'; cases ht'
        rw [hget] at hk
        have : k = H.length := by cases ob <;> first | (simp [newAV, idsAV] at hk; done) | simpa [newAV, idsAV] using hk
        simp [this]
    | _ => rw [hc] at hl; cases hl
  · refine ⟨_, H, s.adv' hT it ho.nodup hl hli (getp ρ1 (.tup []) h2) (.inl rfl) ?_ (fun _ t ht k hk => ?_) h1⟩
    · exact .inl ⟨(hg.step fun t _ => h2 t : GNo ops ρ1 o).step (own_reads ρ1 _ h2), fun t ht => by rw [Regs.get_put, if_pos ht]⟩
    · rw [Regs.get_put, if_pos ht] at hk
      simp [idsAV, idsAVs] at hk
end
end Am
end Go.Proofs.YtbdnfkmcfencdaaGreatDoor
/- The abstract machine is sound: regions that draw their order: the model catches up. No condition. -/
namespace Go.Proofs.YtbdnfkmcfencdaaGreatDoor
namespace Am
open Go

section
variable {P : Program} {G : Nat → Option (List Value)} {M : Md P G} {X : Ctx} {E E0 E' : Env} {own own' : Nat → List Nat} {ρ ρ' : Regs} {H H' : Heap} {d d' : Dx} {a a' : Act} {w w' w0 : World} {ops : Array Oper} {n : Nat} {ord done rest : List (Nat × Option (List Nat))} {tail : List Nat} {K : EK Prop} {l : Array Bool}
theorem lis_set {i j : Nat} (hi : i < l.size) : lis (l.setIfInBounds i true) j ↔ j = i ∨ lis l j := by
  unfold lis
  simp only [Array.getD_eq_getD_getElem?, Array.getElem?_setIfInBounds]
  by_cases h : i = j
  · subst h; simp [hi]
  · rw [if_neg h]
    constructor
    · exact fun h' => .inr h'
    · rintro (rfl | h')
      · exact absurd rfl h
      · exact h'
theorem Hidden.less {i : Nat} (hi : i < l.size) {D : List Nat} {t : Nat} (h : Hidden ops.toList D (l.setIfInBounds i true) t) : Hidden ops.toList D l t := by
  obtain ⟨j, hj, h1, h2⟩ := h
  exact ⟨j, hj, fun h => h1 ((lis_set hi).2 (.inr h)), h2⟩
theorem Hidden.more {i : Nat} (hi : i < l.size) {D : List Nat} {t : Nat} (h : Hidden ops.toList D l t) (ht : dstAt ops.toList i ≠ some t) : Hidden ops.toList D (l.setIfInBounds i true) t := by
  obtain ⟨j, hj, h1, h2⟩ := h
  refine ⟨j, hj, fun h => ?_, h2⟩
  rcases (lis_set hi).1 h with rfl | h
  · exact ht h2
  · exact h1 h
/-- The state of a region, somehow. -/
def SimE {P : Program} {G : Nat → Option (List Value)} (M : Md P G) (X : Ctx) (ops : Array Oper) (n : Nat) (ord : List (Nat × Option (List Nat))) (K : EK Prop) (E0 : Env) (w0 : World) (l : Array Bool) (a : Act) (w : World) : Prop :=
  ∃ done rest ρ H d E own, Sim M X ops n ord K E0 w0 done rest l ρ H d a w E own
theorem Sim.vis (s : Sim M X ops n ord K E0 w0 done rest l ρ H d a w E own) (ho : Order ops.toList n ord tail) {i : Nat} {o : Oper} (hor : i ∈ ord.map (·.1)) (hi : ops.toList[i]? = some o) (hp : ∀ p ∈ predsAt ops.toList i, lis l p) :
    (∀ x ∈ o.op.operands, Vis (fun t => ¬ Hidden ops.toList (done.map (·.1)) l t) x) ∧ guardSees ops o.guard (fun t => ¬ Hidden ops.toList (done.map (·.1)) l t) := by
  have h := s.seen ho hor hi hp
  refine ⟨fun x hx => ?_, fun j want t hg ht => h t (readsOf_guard hg (by rw [dstAt_arr]; exact ht))⟩
  cases x with
  | tmp t => exact h t (readsOf_tmp (tmpsOf_mem hx))
  | _ => trivial
/-- A late operation is done by the model: what is left. -/
theorem Sim.landed (s : Sim M X ops n ord K E0 w0 done rest l ρ H d a w E own) (ho : Order ops.toList n ord tail) {i : Nat} {o : Oper} (hi : i ∈ done.map (·.1)) (hio : ops.toList[i]? = some o) (hp : ∀ p ∈ predsAt ops.toList i, lis l p) (hli : ¬ lis l i)
    {E2 : Env} {own2 : Nat → List Nat} {ds : List Deferred} {w2 : World} {v : Value} (r : Rel G (fun t => ¬ Hidden ops.toList (done.map (·.1)) l t) E2 own2 ρ H d ⟨a.tmps, ds⟩ w2) (g : Goes E w E2 w2)
    (hv : ∀ t, o.dst = some t → RepV E2 (ρ.get t) v) (hown : ∀ j ∈ done.map (·.1), ¬ lis l j → j ≠ i → ∀ q, ops.toList[j]? = some q → Owed M X ops q ρ H E2) :
    Sim M X ops n ord K E0 w0 done rest (l.setIfInBounds i true) ρ H d (Act.put ⟨a.tmps, ds⟩ o.dst v) w2 E2 own2 := by
  have hil : i < l.size := by rw [s.lsize]; exact ops_lt hio
  have hli' : ∀ {j : Nat}, ¬ lis (l.setIfInBounds i true) j → j ≠ i ∧ ¬ lis l j := fun h => ⟨fun e => h ((lis_set hil).2 (.inl e)), fun h' => h ((lis_set hil).2 (.inr h'))⟩
  obtain ⟨B, fl, A, q, e, it⟩ := s.item ho (s.done_ord hi)
  rw [it.at_] at hio; cases hio
  have hfit := dstFits_lt it.fits s.tsize
  refine ⟨s.split, by simpa using s.lsize, fun j hj => ?_, fun j hj p hpj => ?_, fun j hj q hq hc => (lis_set hil).2 (.inr (s.eff j hj q hq hc)), fun j hj hl q hq => ?_, ?_, fun j hj hl => s.low j hj (hli' hl).2, ?_, s.goes.trans g, ?_, s.run⟩
  · rcases (lis_set hil).1 hj with rfl | hj
    · exact hi
    · exact s.sub j hj
  · rcases (lis_set hil).1 hj with rfl | hj
    · exact (lis_set hil).2 (.inr (hp p hpj))
    · exact (lis_set hil).2 (.inr (s.closed j hj p hpj))
  · exact hown j hj (hli' hl).2 (hli' hl).1 q hq
  · exact fun i' j oi oj si sj h1 h2 h3 h4 => s.dist i' j oi oj si sj h1 h2 (hli' h3).2 (hli' h4).2
  · refine ⟨fun t ht => ?_, r.heap, r.ok, r.glob, by rw [put_defers]; exact r.defs, r.laid⟩
    rw [put_tmps _ _ _ _ (by exact hfit)]
    split
    · rename_i hd; exact hv t hd
    · rename_i hd
      exact r.regs t fun hh => ht (hh.more hil (by rw [dstAt_of it.at_]; exact hd))
  · rw [put_size]; exact s.tsize
theorem Sim.land (hT : Agree P X.T) (hG : SubG X.G G) (s : Sim M X ops n ord K E0 w0 done rest l ρ H d a w E own) (ho : Order ops.toList n ord tail) {i : Nat} {o : Oper} (hi : i ∈ done.map (·.1)) (hio : ops.toList[i]? = some o)
    (hp : ∀ p ∈ predsAt ops.toList i, lis l p) (hli : ¬ lis l i) {Kn : Act → World → Prop} {Q : Exit → Act → World → Prop} (hK : ∀ a' w', SimE M X ops n ord K E0 w0 (l.setIfInBounds i true) a' w' → Kn a' w') : wpOp P ops Q i Kn a w := by
  obtain ⟨hvis, hsee⟩ := s.vis ho (s.done_ord hi) hio hp
  have hio' : ops[i]? = some o := by simpa using hio
  have hown : ∀ j ∈ done.map (·.1), ¬ lis l j → j ≠ i → ∀ q, ops.toList[j]? = some q → Owed M X ops q ρ H E := fun j hj hl _ q hq => s.owed j hj hl q hq
  unfold wpOp
  rw [hio']
  simp only
  rcases s.owed i hi hli o hio with ⟨h1, h2⟩ | ⟨h1, ⟨hb, hc⟩, x, h2, h3, _⟩ | ⟨h1, hc, ob, k, t, h2, h3, h4, h5, h6⟩
  · rw [if_neg (by simp [h1.wanted s.rel hsee])]
    exact hK _ _ ⟨done, rest, ρ, H, d, E, own, s.landed ho hi hio hp hli (ds := a.defers) s.rel.same (.refl E w) (fun t ht => by rw [h2 t ht]; exact undef_rep) hown⟩
  · rw [if_pos (h1.wanted s.rel hsee)]
    obtain ⟨y, v, ⟨rfl, _⟩, hv, hrun⟩ := quiet_lands s.rel hT hG hc hvis (h3 d)
    refine .inl ?_
    unfold Oper.wp
    rw [hrun]
    exact hK _ _ ⟨done, rest, ρ, H, d, E, own, s.landed ho hi hio hp hli (ds := a.defers) s.rel.same (.refl E w) (fun t ht => by rw [h2 t ht]; exact hv) hown⟩
  · rw [if_pos (h1.wanted s.rel hsee)]
    refine .inl ?_
    unfold Oper.wp
    refine upon_lands (alloc_lands1 s.rel hT hc hvis (h6.op H d)) fun {y ρ' H' d' E' own' ds w' v} hy r hv g => ?_
    obtain ⟨rfl, rfl, rfl, rfl⟩ := hy
    have hids : ∀ j ∈ idsObj ob, E.loc j ≠ .absent := fun j hj => by
      obtain ⟨x, hx, y, hy, hj⟩ := h6.ids j hj
      exact valOf_there s.rel (hvis x hx) hy j hj
    obtain ⟨E2, own2, r2, hv2, g2, ab⟩ := Am.land s.rel h4 h5 hids r rfl g hv
    refine hK _ _ ⟨done, rest, ρ', H, d', E2, own2, s.landed ho hi hio hp hli r2 g2 (fun t' ht' => by rw [h2] at ht'; cases ht'; rw [h3]; exact hv2) fun j hj hl hji q hq => ?_⟩
    refine (s.owed j hj hl q hq).step hT (fun _ _ => rfl) (fun _ _ => rfl) (Nat.le_refl _) (fun _ _ _ _ _ _ => rfl) fun hcq t' k' ob' ht' hkt hk' ha' hob' => ⟨hk', ab k' (fun e => ?_) ha'⟩
    subst e
    exact s.dist i j o q t t' hi hj hli hl (Ne.symm hji) hio hq hc hcq h2 ht' _ (by rw [h3]; exact newAV_ids h6.live) hkt
end
end Am
end Go.Proofs.YtbdnfkmcfencdaaGreatDoor
/- The abstract machine is sound: regions that draw their order: effects. No condition. -/
namespace Go.Proofs.YtbdnfkmcfencdaaGreatDoor
namespace Am
open Go

section
variable {P : Program} {G : Nat → Option (List Value)} {M : Md P G} {L : Nat → Prop} {X : Ctx} {E E0 E' : Env} {own own' : Nat → List Nat} {ρ ρ' : Regs} {H H' : Heap} {d d' : Dx} {a a' : Act} {w w' w0 : World} {ops : Array Oper} {n : Nat} {ord done rest : List (Nat × Option (List Nat))} {K : EK Prop} {l : Array Bool}
theorem Rel.blank (r : Rel G L E own ρ H d a w) : Rel G (fun _ => True) E own .nil H d a w := ⟨fun _ _ => trivial, r.heap, r.ok, r.glob, r.defs, r.laid⟩
/-- An effect is done, by both: what is left. -/
theorem Sim.did (hT : Agree P X.T) {p : Nat × Option (List Nat)} (s : Sim M X ops n ord K E0 w0 done (p :: rest) l ρ H d a w E own) {o : Oper} (it : Item ops.toList n (done.map (·.1)) (rest.map (·.1)) p.1 p.2 o)
    (heff : lagC (clsOf o.op) = false) (hp : ∀ q ∈ predsAt ops.toList p.1, lis l q) {ρ1 : Regs} (h1 : ∀ t, ρ1.get t = ρ.get t) {x : AV} {v : Value} {H2 : Heap} {d2 : Dx} {E2 : Env} {own2 : Nat → List Nat} {ds : List Deferred} {w2 : World}
    (r : Rel G (fun t => ¬ Hidden ops.toList (done.map (·.1)) l t) E2 own2 ρ1 H2 d2 ⟨a.tmps, ds⟩ w2) (hx : RepV E2 x v) (g : Goes E w E2 w2) (hlen : H.length ≤ H2.length)
    (hq : ∀ j ∈ done.map (·.1), ¬ lis l j → ∀ q, ops.toList[j]? = some q → clsOf q.op = .quiet true → ∀ t ∈ tmpsOf q.op, ∀ k ∈ idsAV (ρ.get t), k < H.length → H2[k]? = H[k]?)
    (ha : ∀ j ∈ done.map (·.1), ¬ lis l j → ∀ k ob, H[k]? = some ob → E.loc k = .absent → okObj ob → H2[k]? = some ob ∧ E2.loc k = .absent)
    (hrun : drawK (propSig M) X ops.toList K rest (ρ1.put o.dst x) H2 d2) : SimE M X ops n ord K E0 w0 (l.setIfInBounds p.1 true) (Act.put ⟨a.tmps, ds⟩ o.dst v) w2 := by
  have hil : p.1 < l.size := by rw [s.lsize]; exact ops_lt it.at_
  have hli' : ∀ {j : Nat}, ¬ lis (l.setIfInBounds p.1 true) j → j ≠ p.1 ∧ ¬ lis l j := fun h => ⟨fun e => h ((lis_set hil).2 (.inl e)), fun h' => h ((lis_set hil).2 (.inr h'))⟩
  have mem : ∀ {j : Nat}, j ∈ (done ++ [p]).map (·.1) ↔ j ∈ done.map (·.1) ∨ j = p.1 := fun {j} => by simp
  have hfit := dstFits_lt it.fits s.tsize
  obtain ⟨_, hdr, _⟩ := it.eff heff
  have hanc : ∀ j, Anc ops.toList j p.1 → lis l j := fun j hj => hj (lis l) s.closed hp
  have hreads : ∀ j ∈ done.map (·.1), ¬ lis l j → ∀ q, ops.toList[j]? = some q → ∀ t ∈ readsOf ops.toList q, (ρ1.put o.dst x).get t = ρ.get t := fun j hj hl q hq t ht => by
    rw [Regs.get_put]
    split
    · rename_i hd
      rcases hdr t hd j hj q hq with h | h
      · exact absurd (hanc j h) hl
      · exact absurd ht h
    · exact h1 t
  have hdst : ∀ j ∈ done.map (·.1), ∀ q, ops.toList[j]? = some q → ∀ t, q.dst = some t → (ρ1.put o.dst x).get t = ρ.get t := fun j hj q hq t ht => by
    rw [Regs.get_put, if_neg fun hd => it.uniq t hd j (.inl hj) (by rw [dstAt_of hq]; exact ht)]
    exact h1 t
  refine ⟨done ++ [p], rest, ρ1.put o.dst x, H2, d2, E2, own2, by rw [s.split]; simp, by simpa using s.lsize, fun j hj => ?_, fun j hj q hqj => ?_, fun j hj q hq' hc => ?_, fun j hj hl q hq' => ?_, ?_, fun j hj hl q t hq' hc ht k hk => ?_, ?_, s.goes.trans g, ?_, hrun⟩
  · rcases (lis_set hil).1 hj with rfl | hj
    · exact mem.2 (.inr rfl)
    · exact mem.2 (.inl (s.sub j hj))
  · rcases (lis_set hil).1 hj with rfl | hj
    · exact (lis_set hil).2 (.inr (hp q hqj))
    · exact (lis_set hil).2 (.inr (s.closed j hj q hqj))
  · rcases mem.1 hj with hj | rfl
    · exact (lis_set hil).2 (.inr (s.eff j hj q hq' hc))
    · exact (lis_set hil).2 (.inl rfl)
  · obtain ⟨hne, hlj⟩ := hli' hl
    rcases mem.1 hj with hj | rfl
    · exact (s.owed j hj hlj q hq').step hT (hreads j hj hlj q hq') (hdst j hj q hq') hlen (hq j hj hlj q hq') fun _ t k ob _ _ hk hka hob => ha j hj hlj k ob hk hka hob
    · exact absurd rfl hne
  · intro i j oi oj si sj hi hj hl1 hl2 hij hoi hoj ci cj di dj k hk hk'
    obtain ⟨hne, hl1⟩ := hli' hl1
    obtain ⟨hne', hl2⟩ := hli' hl2
    have hi := (mem.1 hi).resolve_right hne
    have hj := (mem.1 hj).resolve_right hne'
    rw [hdst i hi oi hoi si di] at hk
    rw [hdst j hj oj hoj sj dj] at hk'
    exact s.dist i j oi oj si sj hi hj hl1 hl2 hij hoi hoj ci cj di dj k hk hk'
  · obtain ⟨hne, hlj⟩ := hli' hl
    have hj := (mem.1 hj).resolve_right hne
    rw [hdst j hj q hq' t ht] at hk
    have := s.low j hj hlj q t hq' hc ht k hk
    omega
  · refine ⟨fun t ht => ?_, r.heap, r.ok, r.glob, by rw [put_defers]; exact r.defs, r.laid⟩
    rw [put_tmps _ _ _ _ (by exact hfit), Regs.get_put]
    split
    · exact hx
    · rename_i hd
      refine r.regs t fun ⟨j, hj, h2, h3⟩ => ht ⟨j, mem.2 (.inl hj), fun h => ?_, h3⟩
      rcases (lis_set hil).1 h with rfl | h
      · rw [dstAt_of it.at_] at h3; exact hd h3
      · exact h2 h
  · rw [put_size]; exact s.tsize
/-- An effect that nothing may be late past. -/
theorem Sim.effNone (hT : Agree P X.T) (hG : SubG X.G G) {i : Nat} (s : Sim M X ops n ord K E0 w0 done ((i, none) :: rest) l ρ H d a w E own) {o : Oper} (it : Item ops.toList n (done.map (·.1)) (rest.map (·.1)) i none o)
    (heff : lagC (clsOf o.op) = false) (hp : ∀ q ∈ predsAt ops.toList i, lis l q) {Kn : Act → World → Prop} {Q : Exit → Act → World → Prop} (hK : ∀ a' w', SimE M X ops n ord K E0 w0 (l.setIfInBounds i true) a' w' → Kn a' w')
    (hQ : Good G E0 w0 n K Q) : wpOp P ops Q i Kn a w := by
  have hno : ∀ j ∈ done.map (·.1), ¬ lis l j → False := fun j hj hl => by
    have h3 : Floats ops.toList (clsOf o.op) (done.map (·.1)) i none := (it.eff heff).2.2
    exact hl (h3 j hj (lis l) s.closed hp)
  have hall : ∀ t, ¬ Hidden ops.toList (done.map (·.1)) l t := fun t ⟨j, hj, h, _⟩ => hno j hj h
  have rT : Rel G (fun _ => True) E own ρ H d a w := s.rel.less fun t _ => hall t
  have hio' : ops[i]? = some o := by simpa using it.at_
  unfold wpOp
  rw [hio']
  simp only
  have fin : ∀ {ρ1 ρ2 : Regs} {x : AV} {v : Value} {H2 : Heap} {d2 : Dx} {E2 : Env} {own2 : Nat → List Nat} {ds : List Deferred} {w2 : World}, Rel G (fun _ => True) E2 own2 ρ2 H2 d2 ⟨a.tmps, ds⟩ w2 → RepV E2 x v → Goes E w E2 w2 →
      drawK (propSig M) X ops.toList K rest (ρ2.put o.dst x) H2 d2 → Kn (Act.put ⟨a.tmps, ds⟩ o.dst v) w2 := by
    intro ρ1 ρ2 x v H2 d2 E2 own2 ds w2 r hx g hrun
    have hil : i < l.size := by rw [s.lsize]; exact ops_lt it.at_
    have hli' : ∀ {j : Nat}, ¬ lis (l.setIfInBounds i true) j → j ≠ i ∧ ¬ lis l j := fun h => ⟨fun e => h ((lis_set hil).2 (.inl e)), fun h' => h ((lis_set hil).2 (.inr h'))⟩
    have mem : ∀ {j : Nat}, j ∈ (done ++ [(i, none)] : List (Nat × Option (List Nat))).map (·.1) ↔ j ∈ done.map (·.1) ∨ j = i := fun {j} => by simp
    have hfit := dstFits_lt it.fits s.tsize
    have none' : ∀ {j : Nat}, j ∈ (done ++ [(i, none)] : List (Nat × Option (List Nat))).map (·.1) → ¬ lis (l.setIfInBounds i true) j → False := fun hj hl => by
      obtain ⟨hne, hl⟩ := hli' hl
      exact hno _ ((mem.1 hj).resolve_right hne) hl
    refine hK _ _ ⟨done ++ [(i, none)], rest, ρ2.put o.dst x, H2, d2, E2, own2, by rw [s.split]; simp, by simpa using s.lsize, fun j hj => ?_, fun j hj q hqj => ?_, fun j hj q hq' hc => ?_, fun j hj hl q hq' => (none' hj hl).elim, fun i' j oi oj si sj hi hj hl1 => (none' hi hl1).elim, fun j hj hl => (none' hj hl).elim, ?_, s.goes.trans g, ?_, hrun⟩
    · rcases (lis_set hil).1 hj with rfl | hj
      · exact mem.2 (.inr rfl)
      · exact mem.2 (.inl (s.sub j hj))
    · rcases (lis_set hil).1 hj with rfl | hj
      · exact (lis_set hil).2 (.inr (hp q hqj))
      · exact (lis_set hil).2 (.inr (s.closed j hj q hqj))
    · rcases mem.1 hj with hj | rfl
      · exact (lis_set hil).2 (.inr (s.eff j hj q hq' hc))
      · exact (lis_set hil).2 (.inl rfl)
    · exact (r.put (dst := o.dst) (fun t ht => by exact hfit t ht) hx).less fun _ _ => trivial
    · rw [put_size]; exact s.tsize
  rcases guard_split (s.step it.at_) with ⟨hg, ρ1, h1, h2⟩ | ⟨hg, ρ1, h1, h2⟩
  · rw [if_pos (hg.wanted rT fun _ _ _ _ _ => trivial)]
    have h1 : seeK (propSig M) o.op ρ1 H (opK (propSig M) X o.op (fun x ρ => drawK (propSig M) X ops.toList K rest (ρ.put o.dst x)) (fun x _ => K (.panic x) .nil) ρ1 H d) := h1
    have h3 : opK (propSig M) X o.op (fun x ρ => drawK (propSig M) X ops.toList K rest (ρ.put o.dst x)) (fun x _ => K (.panic x) .nil) ρ1 H d := by
      unfold seeK at h1
      split at h1
      · rename_i e; rw [e] at heff; cases heff
      · rename_i e; rw [e] at heff; cases heff
      · exact h1
    refine .inl (op_sound (rT.ext h2) hT hG (fun x _ => by cases x <;> trivial) h3 (fun {x ρ2 H2 d2 E2 own2 l2 w2 v} k1 k2 k3 k4 => ?_) (fun {x ρ2 H2 d2 E2 own2 w2 v} k1 k2 k3 k4 => ?_))
    · exact fin (ρ1 := ρ) k2 k3 k4 k1
    · exact hQ k1 k2.blank (s.goes.trans k4) s.tsize ⟨v, rfl, k3⟩
  · rw [if_neg (by simp [hg.wanted rT fun _ _ _ _ _ => trivial])]
    exact fin (ρ1 := ρ) (ds := a.defers) (rT.ext h2).same undef_rep (.refl E w) h1
end
end Am
end Go.Proofs.YtbdnfkmcfencdaaGreatDoor
/- The abstract machine is sound: regions that draw their order: effects with something late past them. No condition. -/
namespace Go.Proofs.YtbdnfkmcfencdaaGreatDoor
namespace Am
open Go

section
variable {P : Program} {G : Nat → Option (List Value)} {M : Md P G} {L : Nat → Prop} {X : Ctx} {E E0 E' : Env} {own own' : Nat → List Nat} {ρ ρ' : Regs} {H H' : Heap} {d d' : Dx} {a a' : Act} {w w' w0 : World} {ops : Array Oper} {n : Nat} {ord done rest : List (Nat × Option (List Nat))} {tail : List Nat} {K : EK Prop} {l : Array Bool}
theorem flIds_ext (h : ∀ t, ρ'.get t = ρ.get t) : ∀ fl, flIds ρ' fl = flIds ρ fl
  | [] => rfl
  | r :: fl => by simp only [flIds, Regs.val_eq, h, flIds_ext h fl]
theorem idsAll_mem {S : Nat → Prop} {H : Heap} : ∀ {ks : List Nat}, (∀ k ∈ idsAll H ks, S k) → ∀ k ∈ ks, ∀ j ∈ idsAt H k, S j
  | i :: ks, h, k, hk, j, hj => by
    simp only [idsAll, List.mem_append] at h
    rcases List.mem_cons.1 hk with rfl | hk
    · exact h j (.inl hj)
    · exact idsAll_mem (fun q hq => h q (.inr hq)) k hk j hj
def valsV (ρ : Regs) : List Operand → Option (List AV)
  | [] => some []
  | x :: l => match valOf ρ x, valsV ρ l with
    | some y, some r => some (y :: r)
    | _, _ => none
theorem evalsK_eq (ρ : Regs) : ∀ (l : List Operand) (K : List AV → Prop), mapK (evalK (propSig M) ρ) l K = match valsV ρ l with | some r => K r | none => False
  | [], K => rfl
  | x :: l, K => by
    rw [mapK_cons, evalK_eq]
    simp only [valsV]
    cases valOf ρ x with
    | none => rfl
    | some y =>
      simp only
      rw [evalsK_eq ρ l]
      cases valsV ρ l <;> rfl
theorem valOf_rep (M : Md P G) (r : Rel G L E own ρ H d a w) {x : Operand} (hx : Vis L x) {y : AV} (h : valOf ρ x = some y) : RepV E y (a.eval x) := by
  have : evalK (propSig M) ρ x fun z => z = y := by rw [evalK_eq, h]
  obtain ⟨z, rfl, hz⟩ := evalK_inv r hx this
  exact hz
theorem valsV_rep (M : Md P G) (r : Rel G L E own ρ H d a w) : ∀ {l : List Operand} {ys : List AV}, (∀ x ∈ l, Vis L x) → valsV ρ l = some ys → RepVs E ys (l.map a.eval)
  | [], ys, _, h => by cases h; trivial
  | x :: l, ys, hv, h => by
    simp only [valsV] at h
    cases hx : valOf ρ x with
    | none => rw [hx] at h; cases h
    | some y =>
      rw [hx] at h
      cases hl : valsV ρ l with
      | none => rw [hl] at h; cases h
      | some zs =>
        rw [hl] at h; cases h
        exact ⟨valOf_rep M r (hv x (by simp)) hx, valsV_rep M r (fun x hx => hv x (by simp [hx])) hl⟩
theorem upon_called1 {o : Oper} {next : Act → World → Prop} {Q : Exit → Act → World → Prop} {f : Nat} {args : Array Value}
    (h : Called P f args w fun e w' => match e with | .returned v => next (a.put o.dst v) w' | .panicked ch => Q (.panic ch) a w' | .outgrown => False) :
    o.upon P a next Q ((callFunc f args).run P w) := by
  unfold Called at h
  split at h
  · rename_i v w' e; rw [e]; exact h
  · rename_i g as w' e; rw [e]; exact h.mono fun e w' he => by cases e <;> first | exact he | exact he.elim
  · rename_i v w' e; rw [e]; exact h
  · exact h.elim
theorem Sim.effSome (hT : Agree P X.T) {i : Nat} {fl : List Nat} (s : Sim M X ops n ord K E0 w0 done ((i, some fl) :: rest) l ρ H d a w E own) (ho : Order ops.toList n ord tail) {o : Oper} (it : Item ops.toList n (done.map (·.1)) (rest.map (·.1)) i (some fl) o)
    (heff : lagC (clsOf o.op) = false) (hp : ∀ q ∈ predsAt ops.toList i, lis l q) {Kn : Act → World → Prop} {Q : Exit → Act → World → Prop} (hK : ∀ a' w', SimE M X ops n ord K E0 w0 (l.setIfInBounds i true) a' w' → Kn a' w')
    (hQ : Good G E0 w0 n K Q) : wpOp P ops Q i Kn a w := by
  obtain ⟨hvis, hsee⟩ := s.vis ho (by rw [s.split]; simp) it.at_ hp
  have hio' : ops[i]? = some o := by simpa using it.at_
  have hfloat : ∀ j ∈ done.map (·.1), ¬ lis l j → ∀ q, ops.toList[j]? = some q → clsOf q.op = .quiet true → ∀ t ∈ tmpsOf q.op, t ∈ fl := fun j hj hl q hq hc t ht => by
    have h3 : Floats ops.toList (clsOf o.op) (done.map (·.1)) i (some fl) := (it.eff heff).2.2
    rcases h3.2 j hj with h | ⟨q', hq', h⟩
    · exact absurd (h (lis l) s.closed hp) hl
    · rw [hq] at hq'; cases hq'
      rcases h with h | h | ⟨_, h⟩
      · rw [hc] at h; cases h
      · rw [hc] at h; cases h
      · exact h t ht
  unfold wpOp
  rw [hio']
  simp only
  rcases guard_split (s.step it.at_) with ⟨hg, ρ1, h1, h2⟩ | ⟨hg, ρ1, h1, h2⟩
  · rw [if_pos (hg.wanted s.rel hsee)]
    refine .inl ?_
    have r1 := s.rel.ext h2
    have h1 : chkK (propSig M) X o.op fl ρ1 H (opK (propSig M) X o.op (fun x ρ => drawK (propSig M) X ops.toList K rest (ρ.put o.dst x)) (fun x _ => K (.panic x) .nil) ρ1 H d) := h1
    obtain ⟨dst, op, type, pos, after, guard⟩ := o
    unfold chkK at h1
    cases op with
    | call c =>
      have hvis : ∀ x ∈ c.operands, Vis (fun t => ¬ Hidden ops.toList (done.map (·.1)) l t) x := hvis
      have h1 : mapK (evalK (propSig M) ρ1) c.args.toList fun args => match c.callee with
        | .value f => evalK (propSig M) ρ1 f fun f => match f with
          | .fn g caps => appK args caps fun args => spineK (reachB H (H.length + 200) [] args) fun ks =>
              cond (((arrsAVs args).isEmpty || X.byref g) && (subB (idsAVs args) ks && (subB (idsAll H ks) ks && apartB (flIds ρ1 fl) ks))) (callO (propSig M) X ρ1 H d (fun x ρ => drawK (propSig M) X ops.toList K rest (ρ.put dst x)) c (fun x _ => K (.panic x) .nil)) False
          | _ => False
        | _ => False := h1
      rw [evalsK_eq] at h1
      cases hxs : valsV ρ1 c.args.toList with
      | none => rw [hxs] at h1; exact h1.elim
      | some xs =>
        rw [hxs] at h1
        simp only at h1
        cases hcal : c.callee with
        | value f =>
          rw [hcal] at h1
          simp only at h1
          rw [evalK_eq] at h1
          cases hf : valOf ρ1 f with
          | none => rw [hf] at h1; exact h1.elim
          | some u =>
            rw [hf] at h1
            simp only at h1
            cases u with
            | fn g caps =>
              simp only [appK_eq, spineK_eq] at h1
              obtain ⟨hb, h3⟩ := condF h1
              clear h1
              simp only [Bool.and_eq_true] at hb
              obtain ⟨b1, b2, b3, b4⟩ := hb
              have ha : X.byref g = true ∨ arrsAVs (xs ++ caps) = [] := by
                simp only [Bool.or_eq_true] at b1
                exact b1.symm.imp id (fun h => by simpa using h)
              have hx := subB_iff.1 b2
              have hcl := idsAll_mem (S := fun k => k ∈ reachB H (H.length + 200) [] (xs ++ caps)) (subB_iff.1 b3)
              have hap := apartB_iff.1 b4
              generalize hks : reachB H (H.length + 200) [] (xs ++ caps) = ks at *
              have h3 : callK (propSig M) X g (xs ++ caps) ρ1 H fun out ρ H => match out with
                | .ret x => drawK (propSig M) X ops.toList K rest (ρ.put dst x) H d
                | .panic x => K (.panic x) .nil H d := by
                unfold callO at h3
                rw [evalsK_eq, hxs] at h3
                simp only [hcal] at h3
                rw [evalK_eq, hf] at h3
                simp only [applyO, appK_eq] at h3
                exact h3
              have h4 := callK_left (S := fun k => k ∈ ks) ha hx hcl h3
              obtain ⟨cs, hfe, hcs⟩ := valOf_rep M r1 (hvis f (by simp [Go.Call.operands, hcal])) hf
              have h5 := callK_inv0 r1 ha ((valsV_rep M r1 (Vis.args hvis) hxs).append hcs) h4
              unfold Oper.wp
              have e2 : (execOp a.eval (⟨dst, .call c, type, pos, after, guard⟩ : Oper)).run P w = (callFunc g (List.map a.eval c.args.toList ++ cs).toArray).run P w := by
                simp only [execOp]
                unfold resolve
                simp only [hcal, hfe, Deferred.ofValue]
                have e2 : (c.args.map a.eval ++ cs.toArray) = (List.map a.eval c.args.toList ++ cs).toArray := by rw [← Array.toList_inj]; simp
                simp only [Sem.run_bind, Sem.run_pure, Result.andThen_ok, invoke, Array.empty_append, e2]
              rw [e2]
              refine upon_called1 (h5.mono fun e w' ⟨out, E', own', H', ⟨k1, _, kl⟩, k2, k3, k4, k5⟩ => ?_)
              cases out with
              | ret x =>
                cases e with
                | returned v =>
                  refine hK _ _ (s.did hT it heff hp (ds := a.defers) h2 k2.same k3 k4 kl.1 (fun j hj hl q hq hc t' ht' k' hk' hlt => ?_) (fun j hj hl k' ob hk' hka hob => ⟨?_, k5 k' (List.getElem?_eq_some_iff.1 hk').1 hka⟩) k1)
                  · have hkn : k' ∉ ks := hap k' (by rw [flIds_ext h2]; exact flIds_mem (hfloat j hj hl q hq hc t' ht') hk')
                    obtain ⟨ob, hob⟩ : ∃ ob, H[k']? = some ob := ⟨_, List.getElem?_eq_getElem hlt⟩
                    rw [hob]
                    exact kl.2 k' ob hkn hob fun cs e => s.rel.laid k' cs (e ▸ hob)
                  · refine kl.2 k' ob (fun hk => ?_) hk' hob
                    have hxs' := (valsV_rep M r1 (Vis.args hvis) hxs).append hcs
                    have : E.loc k' ≠ .absent := reachB_there s.rel.heap (H.length + 200) (base := []) (by simp) hxs' k' (by rw [hks]; exact hk)
                    exact this hka
                | _ => exact k3.elim
              | panic x =>
                cases e with
                | panicked ch =>
                  obtain ⟨v, rfl, hv⟩ := k3
                  exact hQ k1 k2.blank (s.goes.trans k4) s.tsize ⟨v, rfl, hv⟩
                | _ => exact k3.elim
            | _ => exact h1.elim
        | _ => rw [hcal] at h1; exact h1.elim
    | store t p x =>
      have h1 : evalK (propSig M) ρ1 p fun u => match u with
        | .ref k _ => cond (apartB (flIds ρ1 fl) [k]) (storeO (propSig M) X ρ1 H d (fun x ρ => drawK (propSig M) X ops.toList K rest (ρ.put dst x)) t p x) False
        | _ => False := h1
      rw [evalK_eq] at h1
      cases hv : valOf ρ1 p with
      | none => rw [hv] at h1; exact h1.elim
      | some u =>
        rw [hv] at h1
        simp only at h1
        cases u with
        | ref k off =>
          obtain ⟨hb, h3⟩ := condF h1
          have hap := apartB_iff.1 hb
          obtain ⟨cs, own', w', k1, k2, k3, k4⟩ := store_ref r1 hT (hvis p (by simp [Op.operands])) (hvis x (by simp [Op.operands])) hv h3
          have hkE : E.loc k ≠ .absent := valOf_there r1 (hvis p (by simp [Op.operands])) hv k (by simp [idsAV])
          unfold Oper.wp
          have e : (execOp a.eval (⟨dst, .store t p x, type, pos, after, guard⟩ : Oper)).run P w = (do Instr.storeAt t (a.eval p) (a.eval x); pure .skip : Sem Go.Next).run P w := rfl
          rw [e, k4]
          refine hK _ _ (s.did hT it heff hp (ds := a.defers) (v := undef) (x := .undef) h2 k2.same trivial k3 (by simp) (fun j hj hl q hq hc t' ht' k' hk' _ => ?_) (fun j hj hl k' ob hk' hka _ => ⟨?_, hka⟩) k1)
          · have : k' ≠ k := fun e => by
              have := hap k' (by rw [flIds_ext h2]; exact flIds_mem (hfloat j hj hl q hq hc t' ht') hk')
              exact this (by simp [e])
            rw [List.getElem?_set_ne (Ne.symm this)]
          · have : k' ≠ k := fun e => hkE (e ▸ hka)
            rw [List.getElem?_set_ne (Ne.symm this)]; exact hk'
        | _ => exact h1.elim
    | assign x =>
      obtain ⟨y, v, k1, k2, k3⟩ := move_lands r1 (hvis x (by simp [Op.operands])) (K := fun x ρ => drawK (propSig M) X ops.toList K rest (ρ.put dst x)) (show moveO (propSig M) ρ1 H d _ x from h1) (R := (execOp a.eval (⟨dst, .assign x, type, pos, after, guard⟩ : Oper)).run P w) rfl
      unfold Oper.wp
      rw [k3]
      exact hK _ _ (s.did hT it heff hp (ds := a.defers) h2 r1.same k2 (.refl E w) (Nat.le_refl _) (fun _ _ _ _ _ _ _ _ _ _ _ => rfl) (fun _ _ _ k ob hk hka _ => ⟨hk, hka⟩) k1)
    | _ => exact h1.elim
  · rw [if_neg (by simp [hg.wanted s.rel hsee])]
    exact hK _ _ (s.did hT it heff hp (ds := a.defers) (x := .tup []) (v := undef) h2 (s.rel.ext h2).same undef_rep (.refl E w) (Nat.le_refl _) (fun _ _ _ _ _ _ _ _ _ _ _ => rfl) (fun _ _ _ k ob hk hka _ => ⟨hk, hka⟩) h1)
end
end Am
end Go.Proofs.YtbdnfkmcfencdaaGreatDoor
