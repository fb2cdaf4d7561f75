/- Law 12: programs as data; what they are in the abstract machine. No condition. -/
import Derived.Test.YtbdnfkmcfencdaaGreatDoorAme
namespace Go.Proofs.YtbdnfkmcfencdaaGreatDoor
namespace Am
open Go
set_option maxRecDepth 100000
set_option maxHeartbeats 1000000

/-! ### Steps of symbolic runs -/
theorem condI {b : Bool} {x y : Prop} (ht : b = true → x) (hf : b = false → y) : cond b x y := by
  cases b
  · exact hf rfl
  · exact ht rfl
theorem needI {c : Prop} {inst : Decidable c} {x : Prop} (hc : c) (h : x) : @ite _ c inst x False := by
  rw [if_pos hc]; exact h
theorem LoopP.rounds {body : EK Prop → SK Prop} {head : SK Prop → SK Prop} {K : EK Prop} {ρ : Regs} {H : Heap} {d : Dx} (n : Nat) (h : loopN False body head K n ρ H d) : LoopP body head K ρ H d := by
  unfold LoopP; exact .inl ⟨n, h⟩
/-- Whatever x stands for, y stands for too. -/
def AV.Sub (x y : AV) : Prop := ∀ E c, RepV E x c → RepV E y c
theorem AV.Sub.refl (x : AV) : AV.Sub x x := fun _ _ h => h
/-- The slice that nobody made is an empty one. -/
theorem sub_nil (z : Nat) : AV.Sub (.v (.slice none 0 0)) (.imm z []) := by
  rintro E c ⟨_, rfl⟩
  exact ⟨none, 0, rfl, Nat.le_refl _, .inl rfl⟩
def SubL : List AV → List AV → Prop
  | [], [] => True
  | x :: l, y :: r => AV.Sub x y ∧ SubL l r
  | _, _ => False
theorem SubL.rep {E : Env} : ∀ {l r : List AV} {cs : List Value}, SubL l r → RepVs E l cs → RepVs E r cs
  | [], [], _, _, h => h
  | _ :: _, _ :: _, _ :: _, s, h => ⟨s.1 _ _ h.1, SubL.rep s.2 h.2⟩
  | _ :: _, _ :: _, [], _, h => h.elim
theorem SubL.refl : ∀ l : List AV, SubL l l
  | [] => trivial
  | x :: l => ⟨AV.Sub.refl x, SubL.refl l⟩
theorem sub_cons {x y : AV} {l r : List AV} (h : AV.Sub x y) (t : SubL l r) : SubL (x :: l) (y :: r) := ⟨h, t⟩
theorem sub_same {x : AV} {l r : List AV} (t : SubL l r) : SubL (x :: l) (x :: r) := ⟨AV.Sub.refl x, t⟩
theorem sub_end : SubL [] [] := trivial
theorem sub_agg {l r : List AV} (h : SubL l r) : AV.Sub (.agg l) (.agg r) := by
  rintro E c ⟨xs, rfl, h2⟩
  exact ⟨xs, rfl, h.rep h2⟩
theorem Run.sub {P : Program} {G : Nat → Option (List Value)} {f : Nat} {xs ys : List AV} {H : Heap} {Q : Out → Heap → Prop} (s : SubL xs ys) (h : Run P G f ys H Q) : Run P G f xs H Q := by
  unfold Run at h ⊢
  intro E w own cs h1 h2 h3 h4 h5
  exact h E w own cs h1 h2 h3 h4 (s.rep h5)
theorem fwrap64 {n : Int} (h : -9223372036854775808 ≤ n) (k : n < 9223372036854775808) : fwrap .i64 n = n := by
  rw [fwrap_eq]
  simp only [IntKind.wrap, IntKind.bits, IntKind.signed]
  simp
  omega
def nameEq (a b : ByteArray) : Bool := sameBytes a.data.toList b.data.toList
theorem nameEq_iff {a b : ByteArray} : nameEq a b = true ↔ a = b := by
  unfold nameEq
  rw [sameBytes_eq, beq_iff_eq]
  constructor
  · intro h
    cases a with | mk a => cases b with | mk b =>
      congr 1
      cases a; cases b; simpa using h
  · rintro rfl; rfl
theorem nameEq_dec (a b : ByteArray) : sameBytes a.data.toList b.data.toList = decide (a = b) := by
  rw [Bool.eq_iff_iff, decide_eq_true_iff]; exact nameEq_iff
theorem rows_get {α : Type} {f : α → List AV} {l : List α} {i : Nat} (h : i < l.length) : (l.map f)[((i : Int)).toNat]? = some (f l[i]) := by
  rw [Int.toNat_natCast]; simp [List.getElem?_eq_getElem h]
theorem lt_cast {i n : Nat} : decide ((i : Int) < (n : Int)) = decide (i < n) := by
  simp

/-! ### Programs -/
/-- An expression. -/
inductive Xp where
  | mk (op : Int) (pl : Int) (b : Bool) (i : Int) (f : Nat) (name : ByteArray) (args : List Xp)
mutual
def Xp.row : Xp → List AV
  | .mk op pl b i f name args => [.v (.int .u8 op), .v (.int .i64 pl), .v (.bool b), .v (.int .i32 i), .v (.int .u64 f), .v (.string name), .imm 7 (exRows args)]
def exRows : List Xp → List (List AV)
  | [] => []
  | e :: l => e.row :: exRows l
end
theorem exRows_eq : ∀ l : List Xp, exRows l = l.map Xp.row
  | [] => rfl
  | e :: l => by simp [exRows, exRows_eq l]
/-- A statement. -/
inductive St where
  | mk (kind : Int) (pl : Int) (name : ByteArray) (index : List Xp) (e : Xp) (lo hi : Int) (thn els : List St)
mutual
def St.row : St → List AV
  | .mk kind pl name index e lo hi thn els => .v (.int .u8 kind) :: .v (.int .i64 pl) :: .v (.string name) :: .imm 7 (exRows index) :: (e.row ++ [.v (.int .i32 lo), .v (.int .i32 hi), .imm 15 (stRows thn), .imm 15 (stRows els)])
def stRows : List St → List (List AV)
  | [] => []
  | s :: l => s.row :: stRows l
end
theorem stRows_eq : ∀ l : List St, stRows l = l.map St.row
  | [] => rfl
  | e :: l => by simp [stRows, stRows_eq l]
/-- A declaration. -/
structure De where
  pl : Int
  input : Bool
  name : ByteArray
  type : Int
  len : Int
  range : Bool
  lo : Xp
  hi : Xp
def De.row (d : De) : List AV := .v (.int .i64 d.pl) :: .v (.bool d.input) :: .v (.string d.name) :: .v (.int .u8 d.type) :: .v (.int .i64 d.len) :: .v (.bool d.range) :: (d.lo.row ++ d.hi.row)
def deRows (l : List De) : List (List AV) := l.map De.row
/-- A program. -/
structure Pr where
  ticks : Int
  decls : List De
  init : List St
  step : List St
def Pr.cells (p : Pr) : List AV := [.v (.int .i64 p.ticks), .imm 20 (deRows p.decls), .imm 15 (stRows p.init), .imm 15 (stRows p.step)]
def Pr.av (p : Pr) : AV := .agg p.cells
mutual
def Xp.Ok : Xp → Prop
  | .mk op pl _ i f name args => (0 ≤ op ∧ op < 256) ∧ (-9223372036854775808 ≤ pl ∧ pl < 9223372036854775808) ∧ (-2147483648 ≤ i ∧ i < 2147483648) ∧ f < 18446744073709551616 ∧ name.size < 2097152 ∧ args.length < 2097152 ∧ XpsOk args
def XpsOk : List Xp → Prop
  | [] => True
  | e :: l => e.Ok ∧ XpsOk l
end
theorem XpsOk.mem : ∀ {l : List Xp}, XpsOk l → ∀ e ∈ l, e.Ok
  | e :: l, h, x, hx => by
    rcases List.mem_cons.1 hx with rfl | hx
    · exact h.1
    · exact XpsOk.mem h.2 x hx
mutual
def St.Ok : St → Prop
  | .mk kind pl name index e lo hi thn els => (0 ≤ kind ∧ kind < 256) ∧ (-9223372036854775808 ≤ pl ∧ pl < 9223372036854775808) ∧ name.size < 2097152 ∧ index.length < 2097152 ∧ XpsOk index ∧ e.Ok ∧ (-2147483648 ≤ lo ∧ lo < 2147483648) ∧ (-2147483648 ≤ hi ∧ hi < 2147483648) ∧ thn.length < 2097152 ∧ StsOk thn ∧ els.length < 2097152 ∧ StsOk els
def StsOk : List St → Prop
  | [] => True
  | s :: l => s.Ok ∧ StsOk l
end
theorem StsOk.mem : ∀ {l : List St}, StsOk l → ∀ e ∈ l, e.Ok
  | e :: l, h, x, hx => by
    rcases List.mem_cons.1 hx with rfl | hx
    · exact h.1
    · exact StsOk.mem h.2 x hx
structure De.Ok (d : De) : Prop where
  pl : -9223372036854775808 ≤ d.pl ∧ d.pl < 9223372036854775808
  name : d.name.size < 2097152
  type : 0 ≤ d.type ∧ d.type < 256
  len : -9223372036854775808 ≤ d.len ∧ d.len < 9223372036854775808
  lo : d.lo.Ok
  hi : d.hi.Ok
structure Pr.Ok (p : Pr) : Prop where
  ticks : -9223372036854775808 ≤ p.ticks ∧ p.ticks < 9223372036854775808
  many : p.decls.length < 2097152
  decls : ∀ d ∈ p.decls, d.Ok
  inits : p.init.length < 2097152
  init : StsOk p.init
  steps : p.step.length < 2097152
  step : StsOk p.step

mutual
/-- Names that are not too long. -/
def Xp.Short : Xp → Prop
  | .mk _ _ _ _ _ name args => name.size < 1048577 ∧ XpsShort args
def XpsShort : List Xp → Prop
  | [] => True
  | e :: l => e.Short ∧ XpsShort l
end
theorem XpsShort.mem : ∀ {l : List Xp}, XpsShort l → ∀ e ∈ l, e.Short
  | e :: l, h, x, hx => by
    rcases List.mem_cons.1 hx with rfl | hx
    · exact h.1
    · exact XpsShort.mem h.2 x hx
theorem xpsShort_of : ∀ l : List Xp, (∀ a ∈ l, a.Short) → XpsShort l
  | [], _ => trivial
  | x :: l, h => ⟨h x (List.mem_cons_self ..), xpsShort_of l fun a ha => h a (List.mem_cons_of_mem _ ha)⟩
mutual
def St.Short : St → Prop
  | .mk _ _ name index e _ _ thn els => name.size < 1048577 ∧ XpsShort index ∧ e.Short ∧ StsShort thn ∧ StsShort els
def StsShort : List St → Prop
  | [] => True
  | s :: l => s.Short ∧ StsShort l
end
theorem StsShort.mem : ∀ {l : List St}, StsShort l → ∀ e ∈ l, e.Short
  | e :: l, h, x, hx => by
    rcases List.mem_cons.1 hx with rfl | hx
    · exact h.1
    · exact StsShort.mem h.2 x hx
theorem stsShort_of : ∀ l : List St, (∀ a ∈ l, a.Short) → StsShort l
  | [], _ => trivial
  | x :: l, h => ⟨h x (List.mem_cons_self ..), stsShort_of l fun a ha => h a (List.mem_cons_of_mem _ ha)⟩
structure Pr.Short (p : Pr) : Prop where
  decls : ∀ d ∈ p.decls, d.name.size < 1048577
  init : StsShort p.init
  step : StsShort p.step

/-! ### The scopes of flyballref12 -/
structure Sc where
  decls : List De
  loops : List ByteArray
  init : Bool
def strRows (l : List ByteArray) : List (List AV) := l.map fun s => [.v (.string s)]
def Sc.av (s : Sc) : AV := .agg [.imm 20 (deRows s.decls), .imm 1 (strRows s.loops), .v (.bool s.init)]
/-- Scopes as they come. -/
structure Sc.Ok (s : Sc) : Prop where
  decls : s.decls.length < 2097152
  loops : s.loops.length < 2097152
/-- A declaration's place, from i on. -/
def findFrom (name : ByteArray) : List De → Nat → Int
  | [], _ => -1
  | d :: l, i => if d.name = name then (i : Int) else findFrom name l (i + 1)
theorem findFrom_drop (name : ByteArray) {l : List De} {i : Nat} (h : i < l.length) (j : Nat) : findFrom name (l.drop i) j = if l[i].name = name then (j : Int) else findFrom name (l.drop (i + 1)) (j + 1) := by
  rw [List.drop_eq_getElem_cons h]; rfl
theorem find_run (m : Int) (s : Sc) (hs : s.Ok) (name : ByteArray) : Run Tryz.prog (GGm m) 47 [s.av, .v (.string name)] [] fun o H => o = .ret (.v (.int .i64 (findFrom name s.decls 0))) ∧ H = [] := by
  have hlen := hs.decls
  refine run_of_body (M := symMd _ _) mixed (FF_ok (subG m) 47 fi47 (by kernel_rfl)) ?_
  conv => whnf
  refine LoopP.inv (fun k ρ H => ∃ i : Nat, i + k = s.decls.length ∧ findFrom name s.decls 0 = findFrom name (s.decls.drop i) i ∧ ρ = .cons 1 (.v (.string name)) (.cons 2 (.ref 0 0) (.cons 5 (.v (.int .i64 i)) .nil)) ∧ H = [.box [.imm 20 (deRows s.decls), .imm 1 (strRows s.loops), .v (.bool s.init)]]) s.decls.length ?_ ?_
  · conv => whnf
    exact ⟨rfl, 0, by simp, rfl, rfl, rfl⟩
  · rintro k ρ H ⟨i, hi, hf, rfl, rfl⟩
    conv => whnf
    refine condI (fun h => ?_) (fun h => ?_) <;> conv => whnf
    · have hlt : i < s.decls.length := by simpa [deRows] using h
      refine elemP_mk (rows_get hlt) ?_
      conv => whnf
      rw [findFrom_drop name hlt] at hf
      refine condI (fun h => ?_) (fun h => ?_) <;> conv => whnf
      · rw [nameEq_dec, decide_eq_true_iff] at h
        rw [hf, if_pos h]
        exact ⟨rfl, rfl⟩
      · rw [nameEq_dec, decide_eq_false_iff_not] at h
        rw [if_neg h] at hf
        exact ⟨rfl, k - 1, by omega, i + 1, by omega, hf, by rw [fwrap64 (by omega) (by omega)]; rfl, rfl⟩
    · have hge : s.decls.length ≤ i := by simpa [deRows] using h
      rw [hf, List.drop_eq_nil_of_le hge]
      exact ⟨rfl, rfl⟩
/-- Is a name that of a loop around? -/
def inLoops (name : ByteArray) : List ByteArray → Bool
  | [] => false
  | s :: l => if s = name then true else inLoops name l
theorem inLoops_drop (name : ByteArray) {l : List ByteArray} {i : Nat} (h : i < l.length) : inLoops name (l.drop i) = if l[i] = name then true else inLoops name (l.drop (i + 1)) := by
  rw [List.drop_eq_getElem_cons h]; rfl
theorem loop_run (m : Int) (s : Sc) (hs : s.Ok) (name : ByteArray) : Run Tryz.prog (GGm m) 59 [s.av, .v (.string name)] [] fun o H => o = .ret (.v (.bool (inLoops name s.loops))) ∧ H = [] := by
  have hlen := hs.loops
  refine run_of_body (M := symMd _ _) mixed (FF_ok (subG m) 59 fi59 (by kernel_rfl)) ?_
  conv => whnf
  refine LoopP.inv (fun k ρ H => ∃ i : Nat, i + k = s.loops.length ∧ inLoops name s.loops = inLoops name (s.loops.drop i) ∧ ρ = .cons 1 (.v (.string name)) (.cons 2 (.ref 0 0) (.cons 5 (.v (.int .i64 i)) .nil)) ∧ H = [.box [.imm 20 (deRows s.decls), .imm 1 (strRows s.loops), .v (.bool s.init)]]) s.loops.length ?_ ?_
  · conv => whnf
    exact ⟨rfl, 0, by simp, rfl, rfl, rfl⟩
  · rintro k ρ H ⟨i, hi, hf, rfl, rfl⟩
    conv => whnf
    refine condI (fun h => ?_) (fun h => ?_) <;> conv => whnf
    · have hlt : i < s.loops.length := by simpa [strRows] using h
      refine elemP_mk (rows_get hlt) ?_
      conv => whnf
      rw [inLoops_drop name hlt] at hf
      refine condI (fun h => ?_) (fun h => ?_) <;> conv => whnf
      · rw [nameEq_dec, decide_eq_true_iff] at h
        rw [hf, if_pos h]
        exact ⟨rfl, rfl⟩
      · rw [nameEq_dec, decide_eq_false_iff_not] at h
        rw [if_neg h] at hf
        exact ⟨rfl, k - 1, by omega, i + 1, by omega, hf, by rw [fwrap64 (by omega) (by omega)]; rfl, rfl⟩
    · have hge : s.loops.length ≤ i := by simpa [strRows] using h
      rw [hf, List.drop_eq_nil_of_le hge]
      exact ⟨rfl, rfl⟩
end Am
end Go.Proofs.YtbdnfkmcfencdaaGreatDoor
/- Law 12: the types of operations, in the program and in the document's answer. No condition. -/
namespace Go.Proofs.YtbdnfkmcfencdaaGreatDoor
namespace Am
open Go
set_option maxRecDepth 100000
set_option maxHeartbeats 1000000

/-- The type of an operation of operands of some types; 0: it may not be. -/
def resultT (op : Int) : List Int → Int
  | [] => if op = 1 then 1 else if op = 2 then 2 else if op = 3 then 3 else 0
  | [a] => if (op = 17 ∨ op = 21) ∧ (a = 2 ∨ a = 3) then a else if op = 18 ∧ a = 1 then a else if op = 19 ∧ a = 3 then 2 else if op = 20 ∧ a = 2 then 3 else 0
  | [a, b] => if a = b then (if (5 ≤ op ∧ op ≤ 8) ∧ (a = 2 ∨ a = 3) then a else if (op = 9 ∨ op = 10 ∨ op = 13 ∨ op = 14) ∧ (a = 2 ∨ a = 3) then 1 else if op = 11 ∨ op = 12 then 1 else if (op = 15 ∨ op = 16) ∧ a = 1 then a else 0) else 0
  | _ => 0
def tyRows (l : List Int) : List (List AV) := l.map fun t => [.v (.int .u8 t)]
theorem number_run (m : Int) (n : Int) : Run Tryz.prog (GGm m) 77 [.v (.int .u8 n)] [] fun o H' => o = .ret (.v (.bool (decide (n = 2 ∨ n = 3)))) ∧ H' = [] := by
  refine run_of_body (M := symMd _ _) mixed (FF_ok (subG m) 77 fi77 (by kernel_rfl)) ?_
  conv => whnf
  repeat' first
    | exact ⟨by simp_all <;> rfl, rfl⟩
    | (refine condI (fun _ => ?_) (fun _ => ?_) <;> (conv => whnf))
theorem plain_run (m : Int) (n : Int) : Run Tryz.prog (GGm m) 55 [.v (.int .u8 n)] [] fun o H' => o = .ret (.v (.int .u8 (resultT n []))) ∧ H' = [] := by
  refine run_of_body (M := symMd _ _) mixed (FF_ok (subG m) 55 fi55 (by kernel_rfl)) ?_
  conv => whnf
  repeat' first
    | exact ⟨by simp_all [resultT], rfl⟩
    | (refine condI (fun _ => ?_) (fun _ => ?_) <;> (conv => whnf))
theorem one_run (m : Int) (op a : Int) : Run Tryz.prog (GGm m) 56 [.v (.int .u8 op), .v (.int .u8 a)] [] fun o H' => o = .ret (.v (.int .u8 (resultT op [a]))) ∧ H' = [] := by
  refine run_of_body (M := symMd _ _) mixed (FF_ok (subG m) 56 fi56 (by kernel_rfl)) ?_
  conv => whnf
  repeat' first
    | exact ⟨by simp_all [resultT], rfl⟩
    | (refine condI (fun _ => ?_) (fun _ => ?_) <;> (conv => whnf))
    | (refine Run.mono (fun o P h => ?_) (number_run m a)
       obtain ⟨rfl, rfl⟩ := h
       conv => whnf)
theorem two_run (m : Int) (op a : Int) : Run Tryz.prog (GGm m) 57 [.v (.int .u8 op), .v (.int .u8 a)] [] fun o H' => o = .ret (.v (.int .u8 (resultT op [a, a]))) ∧ H' = [] := by
  refine run_of_body (M := symMd _ _) mixed (FF_ok (subG m) 57 fi57 (by kernel_rfl)) ?_
  conv => whnf
  repeat' first
    | exact ⟨by simp_all [resultT]; try omega, rfl⟩
    | (refine condI (fun _ => ?_) (fun _ => ?_) <;> (conv => whnf))
    | (refine Run.mono (fun o P h => ?_) (number_run m a)
       obtain ⟨rfl, rfl⟩ := h
       conv => whnf)
theorem result0_run (m : Int) (op : Int) : Run Tryz.prog (GGm m) 36 [.v (.int .u8 op), .imm 1 (tyRows [])] [] fun o H' => o = .ret (.v (.int .u8 (resultT op []))) ∧ H' = [] := by
  refine run_of_body (M := symMd _ _) mixed (FF_ok (subG m) 36 fi36 (by kernel_rfl)) ?_
  conv => whnf
  repeat' first
    | exact ⟨by simp_all [resultT], rfl⟩
    | (refine condI (fun _ => ?_) (fun _ => ?_) <;> (conv => whnf))
theorem result1_run (m : Int) (op a : Int) : Run Tryz.prog (GGm m) 36 [.v (.int .u8 op), .imm 1 (tyRows [a])] [] fun o H' => o = .ret (.v (.int .u8 (resultT op [a]))) ∧ H' = [] := by
  refine run_of_body (M := symMd _ _) mixed (FF_ok (subG m) 36 fi36 (by kernel_rfl)) ?_
  conv => whnf
  repeat' first
    | exact ⟨by simp_all [resultT], rfl⟩
    | (refine elemP_mk rfl ?_; conv => whnf)
    | (refine condI (fun _ => ?_) (fun _ => ?_) <;> (conv => whnf))
theorem result2_run (m : Int) (op a b : Int) : Run Tryz.prog (GGm m) 36 [.v (.int .u8 op), .imm 1 (tyRows [a, b])] [] fun o H' => o = .ret (.v (.int .u8 (resultT op [a, b]))) ∧ H' = [] := by
  refine run_of_body (M := symMd _ _) mixed (FF_ok (subG m) 36 fi36 (by kernel_rfl)) ?_
  conv => whnf
  repeat' first
    | exact ⟨by simp_all [resultT]; try omega, rfl⟩
    | (exfalso; simp_all; done)
    | (refine elemP_mk rfl ?_; conv => whnf)
    | (refine condI (fun _ => ?_) (fun _ => ?_) <;> (conv => whnf))
theorem result3_run (m : Int) (op a b c : Int) (l : List Int) : Run Tryz.prog (GGm m) 36 [.v (.int .u8 op), .imm 1 (tyRows (a :: b :: c :: l))] [] fun o H' => o = .ret (.v (.int .u8 0)) ∧ H' = [] := by
  refine run_of_body (M := symMd _ _) mixed (FF_ok (subG m) 36 fi36 (by kernel_rfl)) ?_
  conv => whnf
  repeat' first
    | exact ⟨rfl, rfl⟩
    | (refine elemP_mk rfl ?_; conv => whnf)
    | (refine condI (fun _ => ?_) (fun _ => ?_) <;> (conv => whnf))
theorem result_run (m : Int) (op : Int) : ∀ l : List Int, Run Tryz.prog (GGm m) 36 [.v (.int .u8 op), .imm 1 (tyRows l)] [] fun o H' => o = .ret (.v (.int .u8 (resultT op l))) ∧ H' = []
  | [] => result0_run m op
  | [a] => result1_run m op a
  | [a, b] => result2_run m op a b
  | a :: b :: c :: l => result3_run m op a b c l
end Am
end Go.Proofs.YtbdnfkmcfencdaaGreatDoor
/- Law 12: the parts and classes of floats, in the program and in the document's answer. No condition. -/
namespace Go.Proofs.YtbdnfkmcfencdaaGreatDoor
namespace Am
open Go
set_option maxRecDepth 100000
set_option maxHeartbeats 1000000

theorem fwrap_nat {k : IntKind} {n : Nat} (h : n ≤ topOf k) : fwrap k (n : Int) = n := by
  show cond (Nat.ble n (topOf k)) (Int.ofNat n) (k.wrap (.ofNat n)) = n
  rw [Nat.ble_eq_true_of_le h]; rfl
theorem tdiv_nat (a b : Nat) : ((a : Int).tdiv (b : Int)) = ((a / b : Nat) : Int) := rfl
theorem tmod_nat (a b : Nat) : ((a : Int).tmod (b : Int)) = ((a % b : Nat) : Int) := rfl
theorem fdiv_nat (a b : Nat) : ((a : Int).fdiv (b : Int)) = ((a / b : Nat) : Int) := by
  rw [Int.fdiv_eq_ediv_of_nonneg _ (Int.natCast_nonneg b)]; rfl
theorem ofInt_nat (w n : Nat) : BitVec.ofInt w (n : Int) = BitVec.ofNat w n := by
  apply BitVec.eq_of_toNat_eq
  simp
/-- The lowest k bits. -/
theorem and_mask (w a k : Nat) (ha : a < 2 ^ w) (hk : k ≤ w) : (BitVec.ofInt w (a : Int) &&& BitVec.ofInt w ((2 ^ k - 1 : Nat) : Int)).toNat = a % 2 ^ k := by
  rw [ofInt_nat, ofInt_nat, BitVec.toNat_and, BitVec.toNat_ofNat, BitVec.toNat_ofNat, Nat.mod_eq_of_lt ha,
    Nat.mod_eq_of_lt (Nat.lt_of_lt_of_le (Nat.sub_lt (Nat.two_pow_pos k) Nat.one_pos) (Nat.pow_le_pow_right (by omega) hk)), Nat.and_two_pow_sub_one_eq_mod]
/-- A float's parts. -/
def negF (n : Nat) : Bool := Nat.ble 9223372036854775808 n
def expF (n : Nat) : Nat := n / 4503599627370496 % 2048
def fracF (n : Nat) : Nat := n % 4503599627370496
def partsAV (n : Nat) : AV := .tup [.v (.bool (negF n)), .v (.int .i64 (expF n : Nat)), .v (.int .u64 (fracF n : Nat))]
theorem refParts_run (m : Int) {n : Nat} (hn : n < 18446744073709551616) : Run Tryz.prog (GGm m) 79 [.v (.int .u64 n)] [] fun o H => o = .ret (partsAV n) ∧ H = [] := by
  refine run_of_body (M := symMd _ _) mixed (FF_ok (subG m) 79 fi79 (by kernel_rfl)) ?_
  conv => whnf
  have e1 : fwrap .u64 ((n : Int).tdiv 9223372036854775808) = ((n / 9223372036854775808 : Nat) : Int) := by
    rw [show (9223372036854775808 : Int) = ((9223372036854775808 : Nat) : Int) from rfl, tdiv_nat]; exact fwrap_nat (by simp only [topOf]; omega)
  have e2 : fwrap .u64 ((n : Int).tdiv 4503599627370496) = ((n / 4503599627370496 : Nat) : Int) := by
    rw [show (4503599627370496 : Int) = ((4503599627370496 : Nat) : Int) from rfl, tdiv_nat]; exact fwrap_nat (by simp only [topOf]; omega)
  have e3 : fwrap .i64 (((n / 4503599627370496 : Nat) : Int).tmod 2048) = ((n / 4503599627370496 % 2048 : Nat) : Int) := by
    rw [show (2048 : Int) = ((2048 : Nat) : Int) from rfl, tmod_nat]; exact fwrap_nat (by simp only [topOf]; omega)
  have e4 : (n : Int).tmod 4503599627370496 = ((n % 4503599627370496 : Nat) : Int) := rfl
  have e5 : (((n / 9223372036854775808 : Nat) : Int) == 1) = negF n := by
    unfold negF
    rw [Bool.eq_iff_iff, beq_iff_eq, Nat.ble_eq]
    omega
  rw [e1, e2, e3, e4, e5]
  exact ⟨rfl, rfl⟩
theorem parts_run (m : Int) {n : Nat} (hn : n < 18446744073709551616) : Run Tryz.prog (GGm m) 95 [.v (.int .u64 n)] [] fun o H => o = .ret (partsAV n) ∧ H = [] := by
  refine run_of_body (M := symMd _ _) mixed (FF_ok (subG m) 95 fi95 (by kernel_rfl)) ?_
  conv => whnf
  have e1 : (n : Int).fdiv (Int.ofNat (2 ^ min (Int.toNat 63) IntKind.u64.bits)) = ((n / 9223372036854775808 : Nat) : Int) := fdiv_nat n 9223372036854775808
  have e2 : (n : Int).fdiv (Int.ofNat (2 ^ min (Int.toNat 52) IntKind.u64.bits)) = ((n / 4503599627370496 : Nat) : Int) := fdiv_nat n 4503599627370496
  have e3 : (BitVec.ofInt IntKind.u64.bits ((n / 4503599627370496 : Nat) : Int) &&& BitVec.ofInt IntKind.u64.bits 2047).toNat = n / 4503599627370496 % 2048 := and_mask 64 _ 11 (by omega) (by omega)
  have e4 : (BitVec.ofInt IntKind.u64.bits (n : Int) &&& BitVec.ofInt IntKind.u64.bits 4503599627370495).toNat = n % 4503599627370496 := and_mask 64 _ 52 (by omega) (by omega)
  have e5 : (((n / 9223372036854775808 : Nat) : Int) == 1) = negF n := by
    unfold negF
    rw [Bool.eq_iff_iff, beq_iff_eq, Nat.ble_eq]
    omega
  rw [e1, e2, e3, e4, e5]
  rw [fwrap_nat (k := .u64) (n := n / 4503599627370496 % 2048) (by simp only [topOf]; omega), fwrap_nat (k := .i64) (n := n / 4503599627370496 % 2048) (by simp only [topOf]; omega), fwrap_nat (k := .u64) (n := n % 4503599627370496) (by simp only [topOf]; omega)]
  exact ⟨rfl, rfl⟩
/-- A float's class. -/
def classF (n : Nat) : Int := if expF n = 2047 then (if fracF n = 0 then 3 else 4) else if expF n = 0 then (if fracF n = 0 then 0 else 1) else 2
/-- Is it a number? -/
def finiteF (n : Nat) : Bool := !(decide (expF n = 2047))
theorem refClass_run (m : Int) {n : Nat} (hn : n < 18446744073709551616) : Run Tryz.prog (GGm m) 60 [.v (.int .u64 n)] [] fun o H => o = .ret (.v (.int .u8 (classF n))) ∧ H = [] := by
  refine run_of_body (M := symMd _ _) mixed (FF_ok (subG m) 60 fi60 (by kernel_rfl)) ?_
  conv => whnf
  refine Run.mono (fun o P h => ?_) (refParts_run m hn)
  obtain ⟨rfl, rfl⟩ := h
  conv => whnf
  repeat' first
    | exact ⟨by simp only [classF]; simp_all <;> omega, rfl⟩
    | (refine condI (fun _ => ?_) (fun _ => ?_) <;> (conv => whnf))
theorem class_run (m : Int) {n : Nat} (hn : n < 18446744073709551616) : Run Tryz.prog (GGm m) 78 [.v (.int .u64 n)] [] fun o H => o = .ret (.v (.int .u8 (classF n))) ∧ H = [] := by
  refine run_of_body (M := symMd _ _) mixed (FF_ok (subG m) 78 fi78 (by kernel_rfl)) ?_
  conv => whnf
  refine Run.mono (fun o P h => ?_) (parts_run m hn)
  obtain ⟨rfl, rfl⟩ := h
  conv => whnf
  repeat' first
    | exact ⟨by simp only [classF]; simp_all <;> omega, rfl⟩
    | (refine condI (fun _ => ?_) (fun _ => ?_) <;> (conv => whnf))
theorem finite_of (n : Nat) : finiteF n = (classF n != 3 && classF n != 4) := by
  unfold finiteF classF
  by_cases h1 : expF n = 2047 <;> by_cases h2 : fracF n = 0 <;> by_cases h3 : expF n = 0 <;> simp_all
theorem refFinite_run (m : Int) {n : Nat} (hn : n < 18446744073709551616) : Run Tryz.prog (GGm m) 37 [.v (.int .u64 n)] [] fun o H => o = .ret (.v (.bool (finiteF n))) ∧ H = [] := by
  refine run_of_body (M := symMd _ _) mixed (FF_ok (subG m) 37 fi37 (by kernel_rfl)) ?_
  conv => whnf
  refine Run.mono (fun o P h => ?_) (refClass_run m hn)
  obtain ⟨rfl, rfl⟩ := h
  conv => whnf
  repeat' first
    | exact ⟨by rw [finite_of]; simp_all; try rfl, rfl⟩
    | (refine condI (fun _ => ?_) (fun _ => ?_) <;> (conv => whnf))
theorem finite_run (m : Int) {n : Nat} (hn : n < 18446744073709551616) : Run Tryz.prog (GGm m) 58 [.v (.int .u64 n)] [] fun o H => o = .ret (.v (.bool (finiteF n))) ∧ H = [] := by
  refine run_of_body (M := symMd _ _) mixed (FF_ok (subG m) 58 fi58 (by kernel_rfl)) ?_
  conv => whnf
  refine Run.mono (fun o P h => ?_) (class_run m hn)
  obtain ⟨rfl, rfl⟩ := h
  conv => whnf
  repeat' first
    | exact ⟨by rw [finite_of]; simp_all; try rfl, rfl⟩
    | (refine condI (fun _ => ?_) (fun _ => ?_) <;> (conv => whnf))
end Am
end Go.Proofs.YtbdnfkmcfencdaaGreatDoor
/- Law 12: the types of expressions; the document's answer (flyballref12). No condition. -/
namespace Go.Proofs.YtbdnfkmcfencdaaGreatDoor
namespace Am
open Go
set_option maxRecDepth 100000
set_option maxHeartbeats 1000000

/-- A type, or what is wrong and where. -/
abbrev TR := Except (Nat × Int) Int
/-- What is wrong (0: a name · 1: twice · 2: a type · 3: a range · 4: it may not be written or read · 5: an index), and where. -/
def wrAV (w : Nat × Int) : AV := .agg [.v (.int .i64 (120 + (w.1 : Int))), .v (.int .i64 w.2)]
def okAV : AV := .agg [.v (.int .i64 0), .v (.int .i64 0)]
def trAV : TR → AV
  | .ok t => .tup [.v (.int .u8 t), okAV]
  | .error w => .tup [.v (.int .u8 0), wrAV w]
/-- What a name is. -/
structure Th where
  t : Int
  size : Int
  input : Bool
  loop : Bool
def lookD (name : ByteArray) : List De → Option De
  | [] => none
  | d :: l => if d.name = name then some d else lookD name l
def De.th (d : De) : Th := ⟨d.type, max d.len 0, d.input, decide (d.type = 0)⟩
def Sc.look (s : Sc) (name : ByteArray) : Option Th := if inLoops name s.loops = true then some ⟨2, 0, false, true⟩ else (lookD name s.decls).map De.th
/-- A name, with an index perhaps: how that is of a type is told by f. -/
def nameTy (s : Sc) (pl : Int) (name : ByteArray) (n : Nat) (f : TR) : TR :=
  match s.look name with
  | none => .error (0, pl)
  | some th => if (s.init && th.input) = true then .error (4, pl) else if n ≠ (min th.size 1).toNat then .error (5, pl)
    else if n = 0 then .ok th.t else match f with
      | .error w => .error w
      | .ok t => if t = 2 then .ok th.t else .error (2, pl)
mutual
def xpTy (s : Sc) : Xp → TR
  | .mk op pl _ _ f name args => if op = 4 then nameTy s pl name args.length (xpTy1 s args)
    else match xpTys s args with
      | .error w => .error w
      | .ok l => if resultT op l = 0 then .error (2, pl) else if op = 3 ∧ finiteF f = false then .error (3, pl) else .ok (resultT op l)
def xpTy1 (s : Sc) : List Xp → TR
  | [] => .ok 0
  | e :: _ => xpTy s e
def xpTys (s : Sc) : List Xp → Except (Nat × Int) (List Int)
  | [] => .ok []
  | e :: l => match xpTy s e with
    | .error w => .error w
    | .ok t => match xpTys s l with
      | .error w => .error w
      | .ok ts => .ok (t :: ts)
end
theorem find_cases (name : ByteArray) : ∀ (l : List De) (i : Nat), (findFrom name l i = -1 ∧ lookD name l = none) ∨ ∃ k d, l[k]? = some d ∧ d.name = name ∧ findFrom name l i = ((i + k : Nat) : Int) ∧ lookD name l = some d
  | [], i => .inl ⟨rfl, rfl⟩
  | d :: l, i => by
    unfold findFrom lookD
    by_cases h : d.name = name
    · rw [if_pos h, if_pos h]
      exact .inr ⟨0, d, rfl, h, rfl, rfl⟩
    · rw [if_neg h, if_neg h]
      rcases find_cases name l (i + 1) with h | ⟨k, d', hk, hn, h1, h2⟩
      · exact .inl h
      · exact .inr ⟨k + 1, d', by simpa using hk, hn, by rw [h1]; congr 1; omega, h2⟩
theorem refName_run (m : Int) (s : Sc) (hs : s.Ok) (op : Int) (pl : Int) (b : Bool) (i : Int) (f : Nat) (name : ByteArray) (args : List Xp) (ih : ∀ e ∈ args, Run Tryz.prog (GGm m) 18 [s.av, .agg e.row] [] fun o H => o = .ret (trAV (xpTy s e)) ∧ H = []) :
    Run Tryz.prog (GGm m) 35 [s.av, .agg (Xp.mk op pl b i f name args).row] [] fun o H => o = .ret (trAV (nameTy s pl name args.length (xpTy1 s args))) ∧ H = [] := by
  have hloop := loop_run m s hs name
  have hfind := find_run m s hs name
  unfold nameTy Sc.look
  refine run_of_body (M := symMd _ _) mixed (FF_ok (subG m) 35 fi35 (by kernel_rfl)) ?_
  conv => whnf
  refine Run.mono (fun o P h => ?_) hloop
  obtain ⟨rfl, rfl⟩ := h
  conv => whnf
  have hlen : (exRows args).length = args.length := by rw [exRows_eq, List.length_map]
  refine condI (fun hl => ?_) (fun hl => ?_) <;> conv => whnf
  · have hl : inLoops name s.loops = false := by simpa using hl
    rcases find_cases name s.decls 0 with ⟨e, e2⟩ | ⟨k, d, hd, hn, e, e2⟩
    · rw [e] at hfind
      refine Run.mono (fun o P h => ?_) hfind
      obtain ⟨rfl, rfl⟩ := h
      conv => whnf
      exact ⟨by simp [hl, e2, trAV, wrAV], rfl⟩
    · rw [Nat.zero_add] at e
      rw [e] at hfind
      have hrow : (deRows s.decls)[k]? = some d.row := by simp [deRows, hd]
      refine Run.mono (fun o P h => ?_) hfind
      obtain ⟨rfl, rfl⟩ := h
      conv => whnf
      rw [e2, if_neg (by rw [hl]; nofun)]
      have hmin : (0 < d.len ∧ (min (max d.len 0) 1).toNat = 1) ∨ (d.len ≤ 0 ∧ (min (max d.len 0) 1).toNat = 0) := by omega
      rcases hmin with ⟨hpos, hmin⟩ | ⟨hpos, hmin⟩ <;> rcases args with _ | ⟨⟨aop, apl, ab, ai, af, an, aa⟩, _ | ⟨a2, rest⟩⟩ <;> simp only [Option.map_some, De.th, hmin, xpTy1] <;>
      repeat' first
        | (refine ⟨?_, rfl⟩; simp_all [trAV, wrAV, okAV]; done)
        | (exfalso; simp_all; done)
        | (exfalso; simp_all; omega)
        | (refine elemP_mk hrow ?_; conv => whnf)
        | (refine elemP_mk rfl ?_; conv => whnf)
        | (refine condI (fun _ => ?_) (fun _ => ?_) <;> (conv => whnf))
        | (refine Run.mono (fun o P h => ?_) (ih _ (List.mem_cons_self ..))
           obtain ⟨rfl, rfl⟩ := h
           generalize hx : xpTy s _ = tr
           cases tr <;> (conv => whnf))
  · have hl : inLoops name s.loops = true := by simpa using hl
    have h0 : (min (0 : Int) 1).toNat = 0 := by decide
    rw [if_pos hl]
    simp only [h0]
    rcases args with _ | ⟨a, rest⟩ <;> (conv => whnf) <;>
    repeat' first
      | exact ⟨rfl, rfl⟩
      | (refine ⟨?_, rfl⟩; simp_all [trAV, wrAV, okAV]; done)
      | (refine ⟨?_, rfl⟩; simp_all [trAV, wrAV, okAV]; omega)
      | (exfalso; simp_all; done)
      | (refine condI (fun _ => ?_) (fun _ => ?_) <;> (conv => whnf))
theorem xpTys_step (s : Sc) {args : List Xp} {i : Nat} (h : i < args.length) : xpTys s (args.drop i) = match xpTy s args[i] with
    | .error w => .error w
    | .ok t => match xpTys s (args.drop (i + 1)) with
      | .error w => .error w
      | .ok ts => .ok (t :: ts) := by
  rw [List.drop_eq_getElem_cons h]; rfl
/-- What came of some operands, ahead of what comes of the others. -/
def behind (ts : List Int) : Except (Nat × Int) (List Int) → Except (Nat × Int) (List Int)
  | .error w => .error w
  | .ok l => .ok (ts ++ l)
theorem refExpr_step (m : Int) (s : Sc) (hs : s.Ok) (op : Int) (pl : Int) (b : Bool) (i : Int) (f : Nat) (name : ByteArray) (args : List Xp) (hf : f < 18446744073709551616) (hlen : args.length < 2097152) (ih : ∀ e ∈ args, Run Tryz.prog (GGm m) 18 [s.av, .agg e.row] [] fun o H => o = .ret (trAV (xpTy s e)) ∧ H = []) :
    Run Tryz.prog (GGm m) 18 [s.av, .agg (Xp.mk op pl b i f name args).row] [] fun o H => o = .ret (trAV (xpTy s (Xp.mk op pl b i f name args))) ∧ H = [] := by
  have hname := refName_run m s hs op pl b i f name args ih
  refine run_of_body (M := symMd _ _) mixed (FF_ok (subG m) 18 fi18 (by kernel_rfl)) ?_
  conv => whnf
  refine condI (fun hop => ?_) (fun hop => ?_) <;> conv => whnf
  · refine Run.mono (fun o P h => ?_) hname
    obtain ⟨rfl, rfl⟩ := h
    have hop : op = 4 := by simpa using hop
    rw [xpTy, if_pos hop]
    generalize nameTy s pl name args.length _ = tr
    cases tr <;> (conv => whnf)
    · exact ⟨rfl, rfl⟩
    · exact ⟨rfl, rfl⟩
  · have hop : ¬ op = 4 := by simpa using hop
    rw [xpTy, if_neg hop]
    have heq := exRows_eq args
    refine LoopP.inv (fun k ρ H => ∃ (j : Nat) (ts : List Int), j + k = args.length ∧ ts.length = j ∧ xpTys s args = behind ts (xpTys s (args.drop j)) ∧
      ((j = 0 ∧ ρ = .cons 2 (.ref 0 0) (.cons 3 (.ref 1 0) (.cons 5 (.ref 2 0) (.cons 6 (.v (.slice none 0 0)) (.cons 7 (.v (.int .i64 j)) .nil)))) ∧ H = [.box [.imm 20 (deRows s.decls), .imm 1 (strRows s.loops), .v (.bool s.init)],
        .box [.v (.int .u8 op), .v (.int .i64 pl), .v (.bool b), .v (.int .i32 i), .v (.int .u64 f), .v (.string name), .imm 7 (exRows args)], .box [.v (.int .i64 0), .v (.int .i64 0)]]) ∨
      (0 < j ∧ ρ = .cons 2 (.ref 0 0) (.cons 3 (.ref 1 0) (.cons 5 (.ref 2 0) (.cons 6 (.ar 3) (.cons 7 (.v (.int .i64 j)) .nil)))) ∧ H = [.box [.imm 20 (deRows s.decls), .imm 1 (strRows s.loops), .v (.bool s.init)],
        .box [.v (.int .u8 op), .v (.int .i64 pl), .v (.bool b), .v (.int .i32 i), .v (.int .u64 f), .v (.string name), .imm 7 (exRows args)], .box [.v (.int .i64 0), .v (.int .i64 0)], .arr 1 (tyRows ts)]))) args.length ?_ ?_
    · conv => whnf
      exact ⟨rfl, 0, [], by simp, rfl, by simp [behind]; cases xpTys s args <;> rfl, .inl ⟨rfl, rfl, rfl⟩⟩
    · rintro k ρ H ⟨j, ts, hj, hts, heq2, hcase⟩
      rcases hcase with ⟨hj0, rfl, rfl⟩ | ⟨hj0, rfl, rfl⟩
      · conv => whnf
        refine condI (fun h => ?_) (fun h => ?_) <;> conv => whnf
        · have hlt : j < args.length := by simpa [heq] using h
          have step := xpTys_step s hlt
          have ihj := ih _ (List.getElem_mem hlt)
          refine elemP_mk (by rw [heq]; exact rows_get hlt) ?_
          generalize args[j] = a at *
          rcases a with ⟨aop, apl, ab, ai, af, an, aa⟩
          conv => whnf
          refine Run.mono (fun o P h => ?_) ihj
          obtain ⟨rfl, rfl⟩ := h
          generalize xpTy s _ = tr at *
          cases tr with
          | error w =>
            conv => whnf
            refine condI (fun h => ?_) (fun h => ?_) <;> conv => whnf
            · rw [heq2, step]
              exact ⟨rfl, rfl⟩
            · simp at h; omega
          | ok t =>
            conv => whnf
            subst hj0
            obtain rfl := List.length_eq_zero_iff.1 hts
            refine ⟨rfl, k - 1, by omega, 1, [t], by omega, rfl, ?_, .inr ⟨by omega, rfl, rfl⟩⟩
            rw [heq2, step]
            generalize xpTys s _ = tr
            cases tr <;> rfl
        · have hge : args.length = 0 := by simp [heq] at h; omega
          obtain rfl := List.length_eq_zero_iff.1 hge
          refine Run.sub (ys := [.v (.int .u8 op), .imm 1 (tyRows [])]) ⟨AV.Sub.refl _, sub_nil 1, trivial⟩ (Run.mono (fun o P h => ?_) (result_run m op []))
          obtain ⟨rfl, rfl⟩ := h
          simp only [xpTys]
          conv => whnf
          repeat' first
            | (refine ⟨?_, rfl⟩; simp_all [trAV, wrAV, okAV]; done)
            | (exfalso; simp_all; done)
            | (refine condI (fun _ => ?_) (fun _ => ?_) <;> (conv => whnf))
            | (refine Run.mono (fun o P h => ?_) (refFinite_run m hf); obtain ⟨rfl, rfl⟩ := h; conv => whnf)
      · conv => whnf
        refine condI (fun h => ?_) (fun h => ?_) <;> conv => whnf
        · have hlt : j < args.length := by simpa [heq] using h
          have step := xpTys_step s hlt
          have ihj := ih _ (List.getElem_mem hlt)
          refine elemP_mk (by rw [heq]; exact rows_get hlt) ?_
          generalize args[j] = a at *
          rcases a with ⟨aop, apl, ab, ai, af, an, aa⟩
          conv => whnf
          refine Run.mono (fun o P h => ?_) ihj
          obtain ⟨rfl, rfl⟩ := h
          generalize xpTy s _ = tr at *
          cases tr with
          | error w =>
            conv => whnf
            refine condI (fun h => ?_) (fun h => ?_) <;> conv => whnf
            · rw [heq2, step]
              exact ⟨rfl, rfl⟩
            · simp at h; omega
          | ok t =>
            conv => whnf
            have hts2 : (tyRows ts).length = j := by simp [tyRows, hts]
            refine needI (show ((tyRows ts).length + 1) * (1 + 1) ≤ roomy by rw [hts2]; unfold roomy; omega) ?_
            conv => whnf
            refine ⟨rfl, k - 1, by omega, j + 1, ts ++ [t], by omega, by simp [hts], ?_, .inr ⟨by omega, ?_, ?_⟩⟩
            · rw [heq2, step]
              generalize xpTys s _ = tr
              cases tr <;> simp [behind]
            · rw [fwrap64 (by omega) (by omega)]; rfl
            · simp only [tyRows, List.map_append]; rfl
        · have hge : args.length ≤ j := by simp [heq] at h; omega
          rw [List.drop_eq_nil_of_le hge] at heq2
          have heq2 : xpTys s args = .ok ts := by rw [heq2]; simp [behind, xpTys]
          rw [heq2]
          refine Run.mono (fun o P h => ?_) (result_run m op ts)
          obtain ⟨rfl, rfl⟩ := h
          conv => whnf
          repeat' first
            | (refine ⟨?_, rfl⟩; simp_all [trAV, wrAV, okAV]; done)
            | (exfalso; simp_all; done)
            | (refine condI (fun _ => ?_) (fun _ => ?_) <;> (conv => whnf))
            | (refine Run.mono (fun o P h => ?_) (refFinite_run m hf); obtain ⟨rfl, rfl⟩ := h; conv => whnf)
/-- The type of an expression, in the document's answer. -/
theorem refExpr_run (m : Int) (s : Sc) (hs : s.Ok) : ∀ e : Xp, e.Ok → Run Tryz.prog (GGm m) 18 [s.av, .agg e.row] [] fun o H => o = .ret (trAV (xpTy s e)) ∧ H = []
  | .mk op pl b i f name args, h => by
    rw [Xp.Ok] at h
    exact refExpr_step m s hs op pl b i f name args h.2.2.2.1 h.2.2.2.2.2.1 fun a ha => refExpr_run m s hs a (h.2.2.2.2.2.2.mem a ha)
termination_by e => SizeOf.sizeOf e
decreasing_by
  have := List.sizeOf_lt_of_mem ha
  simp_wf
  omega
end Am
end Go.Proofs.YtbdnfkmcfencdaaGreatDoor
