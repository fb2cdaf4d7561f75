/- Law 12: the types of expressions, in the program (check). No condition. -/
import Derived.Test.YtbdnfkmcfencdaaGreatDoorCka
namespace Go.Proofs.YtbdnfkmcfencdaaGreatDoor
namespace Am
open Go
set_option maxRecDepth 100000
set_option maxHeartbeats 1000000

/-! ### Maps of names -/
def Th.cells (t : Th) : List AV := [.v (.int .u8 t.t), .v (.int .i64 t.size), .v (.bool t.input), .v (.bool t.loop)]
def Th.av (t : Th) : AV := .agg t.cells
abbrev KV := List (ByteArray × Th)
def kvAV (kv : KV) : List (Value × AV) := kv.map fun p => (.string p.1, p.2.av)
def lookK (name : ByteArray) : KV → Option Th
  | [] => none
  | (k, t) :: l => if name = k then some t else lookK name l
def putT (name : ByteArray) (t : Th) : KV → KV
  | [] => [(name, t)]
  | (k, u) :: l => if name = k then (name, t) :: l else (k, u) :: putT name t l
def dropT (name : ByteArray) : KV → KV
  | [] => []
  | (k, u) :: l => if name = k then l else (k, u) :: dropT name l
section
variable {P : Program} {G : Nat → Option (List Value)} {M : Md P G}
theorem condN {name k : ByteArray} {x y : Prop} (h : name ≠ k) (hy : y) : cond (sameBytes name.data.toList k.data.toList) x y := by
  rw [nameEq_dec, decide_eq_false h]; exact hy
theorem condY {name : ByteArray} {x y : Prop} (hx : x) : cond (sameBytes name.data.toList name.data.toList) x y := by
  rw [nameEq_dec, decide_eq_true rfl]; exact hx
/-- A look into a map of names. -/
theorem recKV {name : ByteArray} {F : Prop} {C : Value × AV → List (Value × AV) → Prop → Prop} (h1 : ∀ (k : ByteArray) (t : Th) l (ih : Prop), name ≠ k → ih → C (.string k, t.av) l ih) :
    ∀ {kv : KV}, (match lookK name kv with | none => F | some t => ∀ l ih, C (.string name, t.av) l ih) → List.rec (motive := fun _ => Prop) F C (kvAV kv)
  | [], h => h
  | (k, t) :: l, h => by
    show C (.string k, t.av) (kvAV l) (List.rec (motive := fun _ => Prop) F C (kvAV l))
    unfold lookK at h
    by_cases e : name = k
    · rw [if_pos e] at h; subst e; exact h _ _
    · rw [if_neg e] at h; exact h1 k t _ _ e (recKV h1 h)
theorem putKeyK_kv {name : ByteArray} {t : Th} : ∀ {kv : KV} {K : List (Value × AV) → Prop}, K (kvAV (putT name t kv)) → putKeyK (propSig M) .string (.string name) t.av (kvAV kv) K
  | [], K, h => h
  | (k, u) :: l, K, h => by
    show cond (sameBytes name.data.toList k.data.toList) (K ((.string name, t.av) :: kvAV l)) (putKeyK (propSig M) .string (.string name) t.av (kvAV l) fun r => K ((.string k, u.av) :: r))
    rw [nameEq_dec]
    unfold putT at h
    by_cases e : name = k
    · rw [if_pos e] at h; rw [decide_eq_true e]; exact h
    · rw [if_neg e] at h; rw [decide_eq_false e]; exact putKeyK_kv h
theorem dropKeyK_kv {name : ByteArray} : ∀ {kv : KV} {K : List (Value × AV) → Prop}, K (kvAV (dropT name kv)) → dropKeyK (propSig M) .string (.string name) (kvAV kv) K
  | [], K, h => h
  | (k, u) :: l, K, h => by
    show cond (sameBytes name.data.toList k.data.toList) (K (kvAV l)) (dropKeyK (propSig M) .string (.string name) (kvAV l) fun r => K ((.string k, u.av) :: r))
    rw [nameEq_dec]
    unfold dropT at h
    by_cases e : name = k
    · rw [if_pos e] at h; rw [decide_eq_true e]; exact h
    · rw [if_neg e] at h; rw [decide_eq_false e]; exact dropKeyK_kv h
end
theorem lookK_put (name : ByteArray) (t : Th) (n : ByteArray) : ∀ kv : KV, lookK n (putT name t kv) = if n = name then some t else lookK n kv
  | [] => by simp [putT, lookK]
  | (k, u) :: l => by
    unfold putT
    by_cases e : name = k
    · rw [if_pos e]; subst e
      simp only [lookK]
      split <;> rfl
    · rw [if_neg e]
      simp only [lookK, lookK_put name t n l]
      by_cases h : n = k
      · rw [if_pos h, if_pos h, if_neg (by rintro rfl; exact e h)]
      · rw [if_neg h, if_neg h]
theorem drop_put (name : ByteArray) (t : Th) : ∀ kv : KV, lookK name kv = none → dropT name (putT name t kv) = kv
  | [], _ => by simp [putT, dropT]
  | (k, u) :: l, h => by
    unfold lookK at h
    by_cases e : name = k
    · rw [if_pos e] at h; cases h
    · rw [if_neg e] at h
      simp only [putT, if_neg e, dropT, drop_put name t l h]

/-! ### The checker -/
def ckH (init : Bool) (loops : Int) (kv : KV) : Heap := [.box [.omap (kvAV kv), .v (.bool init), .v (.int .i64 loops)]]
def Names (s : Sc) (kv : KV) : Prop := ∀ n, lookK n kv = s.look n
def ansO : TR → Out
  | .ok t => .ret (.v (.int .u8 t))
  | .error w => .panic (.iface 88 (wrAV w))
theorem fail_run (m : Int) (e pl : Int) : Run Tryz.prog (GGm m) 23 [.v (.int .i64 e), .v (.int .i64 pl)] [] fun o H => o = .panic (.iface 88 (.agg [.v (.int .i64 e), .v (.int .i64 pl)])) ∧ H = [] := by
  refine run_of_body (M := symMd _ _) mixed (FF_ok (subG m) 23 fi23 (by kernel_rfl)) ?_
  conv => whnf
  exact ⟨rfl, rfl⟩
theorem look_size {s : Sc} {n : ByteArray} {th : Th} (h : s.look n = some th) : 0 ≤ th.size := by
  unfold Sc.look at h
  split at h
  · cases h; exact Int.le_refl _
  · cases hd : lookD n s.decls with
    | none => rw [hd] at h; cases h
    | some d => rw [hd] at h; cases h; simp only [De.th]; omega
theorem name_step (m : Int) (s : Sc) (kv : KV) (loops : Int) (hk : Names s kv) (op : Int) (pl : Int) (b : Bool) (i : Int) (f : Nat) (name : ByteArray) (args : List Xp)
    (ih : ∀ e ∈ args, Run Tryz.prog (GGm m) 34 [.ref 0 0, .agg e.row] (ckH s.init loops kv) fun o H => o = ansO (xpTy s e) ∧ H = ckH s.init loops kv) :
    Run Tryz.prog (GGm m) 54 [.ref 0 0, .agg (Xp.mk op pl b i f name args).row] (ckH s.init loops kv) fun o H => o = ansO (nameTy s pl name args.length (xpTy1 s args)) ∧ H = ckH s.init loops kv := by
  have hsz : ∀ th, lookK name kv = some th → 0 ≤ th.size := fun th h => look_size ((hk name).symm.trans h)
  unfold nameTy
  rw [← hk name]
  refine run_of_body (M := symMd _ _) mixed (FF_ok (subG m) 54 fi54 (by kernel_rfl)) ?_
  conv => whnf
  refine recKV (name := name) (fun k t l ih hne h => condN hne h) ?_
  generalize lookK name kv = th at *
  cases th with
  | none =>
    conv => whnf
    refine Run.mono (fun o P h => ?_) (fail_run m _ _)
    obtain ⟨rfl, rfl⟩ := h
    conv => whnf
    exact ⟨rfl, rfl⟩
  | some th =>
    have hsz := hsz th rfl
    have hmin : (0 < th.size ∧ pickInt false th.size 1 = 1 ∧ (min th.size 1).toNat = 1) ∨ (th.size = 0 ∧ pickInt false th.size 1 = 0 ∧ (min th.size 1).toNat = 0) := by
      unfold pickInt
      simp only [cond_false]
      by_cases h : 0 < th.size
      · refine .inl ⟨h, ?_, by omega⟩
        split <;> omega
      · refine .inr ⟨by omega, ?_, by omega⟩
        split <;> omega
    refine fun l ih => condY ?_
    rcases hmin with ⟨hpos, hp, hmin⟩ | ⟨hpos, hp, hmin⟩ <;> rcases args with _ | ⟨⟨aop, apl, ab, ai, af, an, aa⟩, _ | ⟨a2, rest⟩⟩ <;> simp only [hmin] <;> (conv => whnf) <;>
    repeat' first
      | (refine ⟨?_, rfl⟩; simp_all [ansO, wrAV, renAV, renAVs, xpTy1]; done)
      | (exfalso; simp_all; done)
      | (exfalso; simp_all [exRows]; done)
      | (exfalso; simp_all [exRows]; omega)
      | (refine LoopP.rounds 2 ?_; conv => whnf)
      | (refine elemP_mk rfl ?_; conv => whnf)
      | (refine Run.mono (fun o P h => ?_) (ih _ (List.mem_cons_self ..))
         obtain ⟨rfl, rfl⟩ := h
         generalize hx : xpTy s _ = tr
         cases tr <;> (conv => whnf))
      | (refine condI (fun _ => ?_) (fun _ => ?_) <;> (conv => whnf))
      | (refine Run.mono (fun o P h => ?_) (fail_run m _ _); obtain ⟨rfl, rfl⟩ := h; conv => whnf)
theorem expr_step (m : Int) (s : Sc) (kv : KV) (loops : Int) (hk : Names s kv) (op : Int) (pl : Int) (b : Bool) (i : Int) (f : Nat) (name : ByteArray) (args : List Xp) (hf : f < 18446744073709551616) (hlen : args.length < 2097152)
    (ih : ∀ e ∈ args, Run Tryz.prog (GGm m) 34 [.ref 0 0, .agg e.row] (ckH s.init loops kv) fun o H => o = ansO (xpTy s e) ∧ H = ckH s.init loops kv) :
    Run Tryz.prog (GGm m) 34 [.ref 0 0, .agg (Xp.mk op pl b i f name args).row] (ckH s.init loops kv) fun o H => o = ansO (xpTy s (Xp.mk op pl b i f name args)) ∧ H = ckH s.init loops kv := by
  have hname := name_step m s kv loops hk op pl b i f name args ih
  refine run_of_body (M := symMd _ _) mixed (FF_ok (subG m) 34 fi34 (by kernel_rfl)) ?_
  conv => whnf
  refine condI (fun hop => ?_) (fun hop => ?_) <;> conv => whnf
  · refine Run.mono (fun o P h => ?_) hname
    obtain ⟨rfl, rfl⟩ := h
    have hop : op = 4 := by simpa using hop
    rw [xpTy, if_pos hop]
    generalize nameTy s pl name args.length _ = tr
    cases tr <;> (conv => whnf)
    · exact ⟨rfl, rfl⟩
    · exact ⟨rfl, rfl⟩
  · have hop : ¬ op = 4 := by simpa using hop
    rw [xpTy, if_neg hop]
    have heq := exRows_eq args
    refine LoopP.inv (fun k ρ H => ∃ (j : Nat) (ts : List Int), j + k = args.length ∧ ts.length = j ∧ xpTys s args = behind ts (xpTys s (args.drop j)) ∧
      ρ = .cons 0 (.ref 0 0) (.cons 3 (.ref 2 0) (.cons 5 (.ref 3 0) (.cons 17 (.imm 7 (exRows args)) (.cons 18 (.v (.int .i64 (exRows args).length)) (.cons 19 (.v (.int .i64 j)) .nil))))) ∧
      H = [.box [.mp 1, .v (.bool s.init), .v (.int .i64 loops)], .map (kvAV kv),
        .box [.v (.int .u8 op), .v (.int .i64 pl), .v (.bool b), .v (.int .i32 i), .v (.int .u64 f), .v (.string name), .imm 7 (exRows args)], .box [.v (.int .u8 (ts[0]?.getD 0)), .v (.int .u8 (ts[1]?.getD 0))]]) args.length ?_ ?_
    · conv => whnf
      exact ⟨rfl, 0, [], by simp, rfl, by simp [behind]; cases xpTys s args <;> rfl, rfl, rfl⟩
    · rintro k ρ H ⟨j, ts, hj, hts, heq2, rfl, rfl⟩
      conv => whnf
      refine condI (fun h => ?_) (fun h => ?_) <;> conv => whnf
      · have hlt : j < args.length := by simpa [heq] using h
        have step := xpTys_step s hlt
        have ihj := ih _ (List.getElem_mem hlt)
        refine elemP_mk (by rw [heq]; exact rows_get hlt) ?_
        generalize args[j] = a at *
        rcases a with ⟨aop, apl, ab, ai, af, an, aa⟩
        conv => whnf
        refine Run.mono (fun o P h => ?_) ihj
        obtain ⟨rfl, rfl⟩ := h
        generalize xpTy s _ = tr at *
        cases tr with
        | error w =>
          conv => whnf
          rw [heq2, step]
          exact ⟨rfl, rfl⟩
        | ok t =>
          have fin : xpTys s args = behind (ts ++ [t]) (xpTys s (args.drop (j + 1))) := by
            rw [heq2, step]
            generalize xpTys s _ = tr
            cases tr <;> simp [behind]
          conv => whnf
          refine condI (fun h2 => ?_) (fun h2 => ?_)
          · have h2 : j < 2 := by simp at h2; omega
            rcases (show j = 0 ∨ j = 1 by omega) with rfl | rfl
            · obtain rfl := List.length_eq_zero_iff.1 hts
              conv => whnf
              exact ⟨rfl, k - 1, by omega, 1, [t], by omega, rfl, fin, rfl, rfl⟩
            · obtain ⟨t0, rfl⟩ := List.length_eq_one_iff.1 hts
              conv => whnf
              exact ⟨rfl, k - 1, by omega, 2, [t0, t], by omega, rfl, fin, rfl, rfl⟩
          · have h2 : 2 ≤ j := by simp at h2; omega
            conv => whnf
            rcases ts with _ | ⟨t0, _ | ⟨t1, ts⟩⟩
            · simp at hts; omega
            · simp at hts; omega
            · exact ⟨rfl, k - 1, by omega, j + 1, t0 :: t1 :: ts ++ [t], by omega, by simp at hts ⊢; omega, fin, by rw [fwrap64 (by omega) (by omega)]; rfl, rfl⟩
      · have hge : args.length ≤ j := by simp [heq] at h; omega
        rw [List.drop_eq_nil_of_le hge] at heq2
        have heq2 : xpTys s args = .ok ts := by rw [heq2]; simp [behind, xpTys]
        have hl : (exRows args).length = ts.length := by rw [heq, List.length_map]; omega
        rw [heq2]
        clear heq2 hname ih
        rcases ts with _ | ⟨t0, _ | ⟨t1, _ | ⟨t2, ts⟩⟩⟩ <;> simp only [List.length_cons, List.length_nil] at hl
        · conv => whnf
          repeat' first
            | (refine ⟨?_, rfl⟩; simp_all [ansO, wrAV, renAV, renAVs]; done)
            | (exfalso; simp_all; done)
            | (exfalso; simp_all; omega)
            | (refine condI (fun _ => ?_) (fun _ => ?_) <;> (conv => whnf))
            | (refine Run.mono (fun o P h => ?_) (plain_run m op); obtain ⟨rfl, rfl⟩ := h; conv => whnf)
            | (refine Run.mono (fun o P h => ?_) (fail_run m _ _); obtain ⟨rfl, rfl⟩ := h; conv => whnf)
            | (refine Run.mono (fun o P h => ?_) (finite_run m hf); obtain ⟨rfl, rfl⟩ := h; conv => whnf)
        · conv => whnf
          repeat' first
            | (refine ⟨?_, rfl⟩; simp_all [ansO, wrAV, renAV, renAVs]; done)
            | (exfalso; simp_all; done)
            | (exfalso; simp_all; omega)
            | (refine condI (fun _ => ?_) (fun _ => ?_) <;> (conv => whnf))
            | (refine Run.mono (fun o P h => ?_) (one_run m op t0); obtain ⟨rfl, rfl⟩ := h; conv => whnf)
            | (refine Run.mono (fun o P h => ?_) (fail_run m _ _); obtain ⟨rfl, rfl⟩ := h; conv => whnf)
            | (refine Run.mono (fun o P h => ?_) (finite_run m hf); obtain ⟨rfl, rfl⟩ := h; conv => whnf)
        · have hne : t0 ≠ t1 → resultT op [t0, t1] = 0 := fun h => by simp [resultT, h]
          conv => whnf
          repeat' first
            | (refine ⟨?_, rfl⟩; simp_all [ansO, wrAV, renAV, renAVs]; done)
            | (exfalso; simp_all; done)
            | (exfalso; simp_all; omega)
            | (refine condI (fun _ => ?_) (fun _ => ?_) <;> (conv => whnf))
            | (refine Run.mono (fun o P h => ?_) (two_run m op t0); obtain ⟨rfl, rfl⟩ := h; conv => whnf)
            | (refine Run.mono (fun o P h => ?_) (fail_run m _ _); obtain ⟨rfl, rfl⟩ := h; conv => whnf)
            | (refine Run.mono (fun o P h => ?_) (finite_run m hf); obtain ⟨rfl, rfl⟩ := h; conv => whnf)
        · have hr : resultT op (t0 :: t1 :: t2 :: ts) = 0 := rfl
          conv => whnf
          repeat' first
            | (refine ⟨?_, rfl⟩; simp_all [ansO, wrAV, renAV, renAVs]; done)
            | (exfalso; simp_all; done)
            | (exfalso; simp_all; omega)
            | (refine condI (fun _ => ?_) (fun _ => ?_) <;> (conv => whnf))
            | (refine Run.mono (fun o P h => ?_) (two_run m op t0); obtain ⟨rfl, rfl⟩ := h; conv => whnf)
            | (refine Run.mono (fun o P h => ?_) (fail_run m _ _); obtain ⟨rfl, rfl⟩ := h; conv => whnf)
            | (refine Run.mono (fun o P h => ?_) (finite_run m hf); obtain ⟨rfl, rfl⟩ := h; conv => whnf)
/-- The type of an expression, in the program. -/
theorem expr_run (m : Int) (s : Sc) (kv : KV) (loops : Int) (hk : Names s kv) : ∀ e : Xp, e.Ok → Run Tryz.prog (GGm m) 34 [.ref 0 0, .agg e.row] (ckH s.init loops kv) fun o H => o = ansO (xpTy s e) ∧ H = ckH s.init loops kv
  | .mk op pl b i f name args, h => by
    rw [Xp.Ok] at h
    exact expr_step m s kv loops hk op pl b i f name args h.2.2.2.1 h.2.2.2.2.2.1 fun a ha => expr_run m s kv loops hk a (h.2.2.2.2.2.2.mem a ha)
termination_by e => SizeOf.sizeOf e
decreasing_by
  have := List.sizeOf_lt_of_mem ha
  simp_wf
  omega
end Am
end Go.Proofs.YtbdnfkmcfencdaaGreatDoor
/- Law 12: check.TypeOf. No condition. -/
namespace Go.Proofs.YtbdnfkmcfencdaaGreatDoor
namespace Am
open Go
set_option maxRecDepth 100000
set_option maxHeartbeats 1000000

theorem RunD.mono {P : Program} {G : Nat → Option (List Value)} {f : Nat} {xs : List AV} {H : Heap} {cur : Option AV} {Q Q' : Heap → Option AV → Prop} (hq : ∀ H c, Q H c → Q' H c) (h : RunD P G f xs H cur Q) : RunD P G f xs H cur Q' := by
  unfold RunD at h ⊢
  intro E w own cs u h1 h2 h3 h4 h5 h6
  obtain ⟨k1, k2⟩ := h E w own cs u h1 h2 h3 h4 h5 h6
  exact ⟨k1, k2.mono fun e u' w' ⟨cur', H', E', own', q1, q2, q3⟩ => ⟨cur', H', E', own', q1, hq _ _ q2, q3⟩⟩
theorem recover0_run (m : Int) : RunD Tryz.prog (GGm m) 40 [.ref 0 0, .ref 1 0] [.box [.v (.int .i64 0)], .box [.v (.int .i64 0)]] none fun H cur => H = [.box [.v (.int .i64 0)], .box [.v (.int .i64 0)]] ∧ cur = none := by
  refine runD_of_body (M := symMd _ _) mixed (FF_ok (subG m) 40 fi40 (by kernel_rfl)) ?_
  conv => whnf
  exact ⟨rfl, rfl⟩
theorem recover1_run (m : Int) (w : Nat × Int) : RunD Tryz.prog (GGm m) 40 [.ref 0 0, .ref 1 0] [.box [.v (.int .i64 0)], .box [.v (.int .i64 0)]] (some (.iface 88 (wrAV w))) fun H cur => H = [.box [.v (.int .i64 (120 + (w.1 : Int)))], .box [.v (.int .i64 w.2)]] ∧ cur = none := by
  refine runD_of_body (M := symMd _ _) mixed (FF_ok (subG m) 40 fi40 (by kernel_rfl)) ?_
  conv => whnf
  exact ⟨rfl, rfl⟩
/-- The closure of TypeOf. -/
def tyH (e : Xp) (t : Int) (init : Bool) (loops : Int) (kv : KV) : Heap := [.box [.ref 1 0], .box [.omap (kvAV kv), .v (.bool init), .v (.int .i64 loops)], .box e.row, .box [.v (.int .u8 t)]]
theorem typeOf1_run (m : Int) (s : Sc) (kv : KV) (loops : Int) (hk : Names s kv) (e : Xp) (he : e.Ok) : Run Tryz.prog (GGm m) 33 [.ref 0 0, .ref 2 0, .ref 3 0] (tyH e 0 s.init loops kv) fun o H =>
    match xpTy s e with
    | .ok t => o = .ret (.tup []) ∧ H = tyH e t s.init loops kv
    | .error w => o = .panic (.iface 88 (wrAV w)) ∧ H = tyH e 0 s.init loops kv := by
  have h := expr_run m s kv loops hk e he
  rcases e with ⟨op, pl, b, i, f, name, args⟩
  refine run_of_body (M := symMd _ _) mixed (FF_ok (subG m) 33 fi33 (by kernel_rfl)) ?_
  conv => whnf
  refine Run.mono (fun o P h => ?_) h
  obtain ⟨rfl, rfl⟩ := h
  generalize xpTy s _ = tr
  cases tr <;> (conv => whnf)
  · exact ⟨rfl, rfl⟩
  · exact ⟨rfl, rfl⟩
theorem run33_run (m : Int) (s : Sc) (kv : KV) (loops : Int) (hk : Names s kv) (e : Xp) (he : e.Ok) : Run Tryz.prog (GGm m) 21 [.fn 33 [.ref 0 0, .ref 2 0, .ref 3 0]] (tyH e 0 s.init loops kv) fun o H =>
    match xpTy s e with
    | .ok t => o = .ret (.tup [.v (.int .i64 0), .v (.int .i64 0)]) ∧ H = tyH e t s.init loops kv
    | .error w => o = .ret (.tup [.v (.int .i64 (120 + (w.1 : Int))), .v (.int .i64 w.2)]) ∧ H = tyH e 0 s.init loops kv := by
  have h := typeOf1_run m s kv loops hk e he
  rcases e with ⟨op, pl, b, i, f, name, args⟩
  refine run_of_body (M := symMd _ _) mixed (FF_ok (subG m) 21 fi21 (by kernel_rfl)) ?_
  conv => whnf
  refine Run.mono (fun o P h => ?_) h
  generalize xpTy s _ = tr at *
  cases tr <;> obtain ⟨rfl, rfl⟩ := h <;> (conv => whnf) 
  · refine RunD.mono (fun P c h => ?_) (recover1_run m _)
    obtain ⟨rfl, rfl⟩ := h
    conv => whnf
    exact ⟨rfl, rfl⟩
  · refine RunD.mono (fun P c h => ?_) (recover0_run m)
    obtain ⟨rfl, rfl⟩ := h
    conv => whnf
    exact ⟨rfl, rfl⟩
theorem lookD_append (n : ByteArray) : ∀ l r : List De, lookD n (l ++ r) = match lookD n l with
    | some d => some d
    | none => lookD n r
  | [], r => rfl
  | d :: l, r => by
    simp only [List.cons_append, lookD]
    by_cases h : d.name = n
    · rw [if_pos h, if_pos h]
    · rw [if_neg h, if_neg h]; exact lookD_append n l r
theorem typeOf_run (m : Int) (ticks : Int) (decls : List De) (hlen : decls.length < 2097152) (i0 s0 : List (List AV)) (init step : AV) (hi : init = .imm 15 i0) (hs : step = .imm 15 s0) (e : Xp) (he : e.Ok) : Run Tryz.prog (GGm m) 17 [.agg [.v (.int .i64 ticks), .imm 20 (deRows decls), init, step], .agg e.row] [] fun o H =>
    match xpTy ⟨decls, [], false⟩ e with
    | .ok t => o = .ret (.tup [.v (.int .u8 t), .v (.int .i64 0), .v (.int .i64 0)]) ∧ H = []
    | .error w => o = .ret (.tup [.v (.int .u8 0), .v (.int .i64 (120 + (w.1 : Int))), .v (.int .i64 w.2)]) ∧ H = [] := by
  subst hi hs
  have hrun := run33_run m ⟨decls, [], false⟩
  rcases e with ⟨op, pl, b, i, f, name, args⟩
  refine run_of_body (M := symMd _ _) mixed (FF_ok (subG m) 17 fi17 (by kernel_rfl)) ?_
  conv => whnf
  refine LoopP.inv (fun k ρ H => ∃ (j : Nat) (kv : KV), j + k = decls.length ∧ (∀ n, lookK n kv = (lookD n (decls.take j)).map De.th) ∧
      ρ = .cons 3 (.ref 0 0) (.cons 4 (.ref 1 0) (.cons 7 (.ref 2 0) (.cons 14 (.imm 20 (deRows decls)) (.cons 15 (.v (.int .i64 (deRows decls).length)) (.cons 16 (.v (.int .i64 j)) .nil))))) ∧
      H = [.box [.v (.int .u8 op), .v (.int .i64 pl), .v (.bool b), .v (.int .i32 i), .v (.int .u64 f), .v (.string name), .imm 7 (exRows args)], .box [.v (.int .u8 0)], .box [.ref 3 0],
        .box [.mp 4, .v (.bool false), .v (.int .i64 0)], .map (kvAV kv)]) decls.length ?_ ?_
  · conv => whnf
    exact ⟨rfl, 0, [], by simp, fun n => rfl, rfl, rfl⟩
  · rintro k ρ H ⟨j, kv, hj, hk, rfl, rfl⟩
    conv => whnf
    refine condI (fun h => ?_) (fun h => ?_) <;> conv => whnf
    · have hlt : j < decls.length := by simpa [deRows] using h
      refine elemP_mk (rows_get hlt) ?_
      have htake : ∀ n, lookD n (decls.take (j + 1)) = match lookD n (decls.take j) with
          | some d => some d
          | none => lookD n [decls[j]] := fun n => by
        rw [List.take_succ_eq_append_getElem hlt, lookD_append]
      generalize decls[j] = d at *
      rcases d with ⟨dpl, dinput, dname, dtype, dlen, drange, ⟨lop, lpl, lb, li, lf, ln, la⟩, ⟨hop, hpl, hb, hi, hf, hn, ha⟩⟩
      conv => whnf
      refine recKV (name := dname) (fun k t l ih hne h => condN hne h) ?_
      have hkn := hk dname
      cases hl : lookK dname kv with
      | none =>
        conv => whnf
        refine recKV (name := dname) (fun k t l ih hne h => condN hne h) ?_
        rw [hl]
        conv => whnf
        refine putKeyK_kv (t := ⟨dtype, pickInt true dlen 0, dinput, dtype == 0⟩) ?_
        conv => whnf
        refine ⟨rfl, k - 1, by omega, j + 1, _, by omega, fun n => ?_, by rw [fwrap64 (by omega) (by omega)]; rfl, rfl⟩
        rw [lookK_put, htake, hk n]
        rw [hl] at hkn
        by_cases e : n = dname
        · subst e
          rw [if_pos rfl]
          cases h2 : lookD n (decls.take j) with
          | none =>
            simp only [lookD, if_true, Option.map_some, De.th, Option.some.injEq, Th.mk.injEq, true_and]
            refine ⟨?_, rfl⟩
            unfold pickInt; simp only [cond_true]; split <;> omega
          | some d => rw [h2] at hkn; cases hkn
        · rw [if_neg e]
          cases h2 : lookD n (decls.take j) with
          | none => simp only [lookD]; rw [if_neg (fun h => e (Eq.symm h))]
          | some d => rfl
      | some th =>
        have stay : ∀ n, lookK n kv = (lookD n (decls.take (j + 1))).map De.th := fun n => by
          rw [htake, hk n]
          cases h2 : lookD n (decls.take j) with
          | none =>
            have : n ≠ dname := by
              rintro rfl
              rw [hl, h2] at hkn; cases hkn
            simp only [lookD]; rw [if_neg (fun h => this (Eq.symm h))]
          | some d => rfl
        have hloop : th.t = 0 → th.loop = true := by
          rw [hl] at hkn
          cases h2 : lookD dname (decls.take j) with
          | none => rw [h2] at hkn; cases hkn
          | some d => rw [h2] at hkn; cases hkn; simp [De.th]
        refine fun l ih => condY ?_
        conv => whnf
        refine condI (fun h0 => ?_) (fun h0 => ?_) <;> conv => whnf
        · refine recKV (name := dname) (fun k t l ih hne h => condN hne h) ?_
          rw [hl]
          refine fun l ih => condY ?_
          conv => whnf
          refine condI (fun h1 => ?_) (fun h1 => ?_) <;> conv => whnf
          · exfalso
            have h0 : th.t = 0 := by simpa using h0
            simp [hloop h0] at h1
          · exact ⟨rfl, k - 1, by omega, j + 1, kv, by omega, stay, by rw [fwrap64 (by omega) (by omega)]; rfl, rfl⟩
        · exact ⟨rfl, k - 1, by omega, j + 1, kv, by omega, stay, by rw [fwrap64 (by omega) (by omega)]; rfl, rfl⟩
    · have hge : decls.length ≤ j := by simpa [deRows] using h
      rw [List.take_of_length_le hge] at hk
      refine Run.mono (fun o P h => ?_) (hrun kv 0 (fun n => by rw [hk n]; rfl) _ he)
      generalize xpTy _ _ = tr at *
      cases tr <;> obtain ⟨rfl, rfl⟩ := h <;> (conv => whnf) <;>
      repeat' first
        | exact ⟨rfl, rfl⟩
        | (exfalso; simp_all; done)
        | (exfalso; simp_all; omega)
        | (refine condI (fun _ => ?_) (fun _ => ?_) <;> (conv => whnf))
end Am
end Go.Proofs.YtbdnfkmcfencdaaGreatDoor
/- Law 12: how much of a program there is (flyballref10.Weigh): it answers. No condition. -/
namespace Go.Proofs.YtbdnfkmcfencdaaGreatDoor
namespace Am
open Go
set_option maxRecDepth 100000
set_option maxHeartbeats 1000000
/-- Some number, and no object. -/
def SomeInt (o : Out) (H : Heap) : Prop := ∃ n : Int, o = .ret (.v (.int .i64 n)) ∧ H = []
theorem weighExpr_step (m : Int) (op : Int) (pl : Int) (b : Bool) (i : Int) (f : Nat) (name : ByteArray) (args : List Xp) (most : Int) (hlen : args.length < 2097152) (ih : ∀ e ∈ args, ∀ most : Int, Run Tryz.prog (GGm m) 16 [.agg e.row, .v (.int .i64 most)] [] SomeInt) :
    Run Tryz.prog (GGm m) 16 [.agg (Xp.mk op pl b i f name args).row, .v (.int .i64 most)] [] SomeInt := by
  have heq := exRows_eq args
  refine run_of_body (M := symMd _ _) mixed (FF_ok (subG m) 16 fi16 (by kernel_rfl)) ?_
  conv => whnf
  obtain ⟨Foo⟩ : Nonempty (Regs → Heap → Prop) := ⟨fun _ _ => True⟩
  refine LoopP.inv (fun k ρ H => ∃ (j : Nat) (n : Int), j + k = args.length ∧ 
     ρ = .cons 1 (.v (.int .i64 most)) (.cons 2 (.ref 0 0) (.cons 5 (.v (.int .i64 n)) (.cons 6 (.v (.int .i64 j)) .nil))) ∧
     H = [.box [.v (.int .u8 op), .v (.int .i64 pl), .v (.bool b), .v (.int .i32 i), .v (.int .u64 f), .v (.string name), .imm 7 (exRows args)]]) args.length ?_ ?_
  · conv => whnf
    exact ⟨rfl, 0, _, by simp, rfl, rfl⟩
  · rintro k ρ H ⟨j, n, hj, rfl, rfl⟩
    conv => whnf
    refine condI (fun h => ?_) (fun h => ?_) <;> conv => whnf
    · have hlt : j < args.length := by simpa [heq] using h
      have ihj := ih _ (List.getElem_mem hlt)
      refine condI (fun h => ?_) (fun h => ?_) <;> conv => whnf
      · refine elemP_mk (by rw [heq]; exact rows_get hlt) ?_
        generalize args[j] = a at *
        rcases a with ⟨aop, apl, ab, ai, af, an, aa⟩
        conv => whnf
        refine Run.mono (fun o P h => ?_) (ihj _)
        obtain ⟨n2, rfl, rfl⟩ := h
        conv => whnf
        exact ⟨rfl, k - 1, by omega, j + 1, _, by omega, by rw [fwrap64 (n := (j : Int) + 1) (by omega) (by omega)]; rfl, rfl⟩
      · exact ⟨_, rfl, rfl⟩
    · exact ⟨_, rfl, rfl⟩
theorem weighExpr_run (m : Int) : ∀ (e : Xp), e.Ok → ∀ most : Int, Run Tryz.prog (GGm m) 16 [.agg e.row, .v (.int .i64 most)] [] SomeInt
  | .mk op pl b i f name args, h => by
    rw [Xp.Ok] at h
    intro most
    exact weighExpr_step m op pl b i f name args most h.2.2.2.2.2.1 fun a ha => weighExpr_run m a (h.2.2.2.2.2.2.mem a ha)
termination_by e => SizeOf.sizeOf e
decreasing_by
  have := List.sizeOf_lt_of_mem ha
  simp_wf
  omega
theorem weighExprs_run (m : Int) (args : List Xp) (most : Int) (hlen : args.length < 2097152) (ih : XpsOk args) :
    Run Tryz.prog (GGm m) 39 [.imm 7 (exRows args), .v (.int .i64 most)] [] SomeInt := by
  have heq := exRows_eq args
  refine run_of_body (M := symMd _ _) mixed (FF_ok (subG m) 39 fi39 (by kernel_rfl)) ?_
  conv => whnf
  refine LoopP.inv (fun k ρ H => ∃ (j : Nat) (n : Int), j + k = args.length ∧ 
     ρ = .cons 0 (.imm 7 (exRows args)) (.cons 1 (.v (.int .i64 most)) (.cons 5 (.v (.int .i64 n)) (.cons 6 (.v (.int .i64 j)) .nil))) ∧
     H = []) args.length ?_ ?_
  · conv => whnf
    exact ⟨rfl, 0, _, by simp, rfl, rfl⟩
  · rintro k ρ H ⟨j, n, hj, rfl, rfl⟩
    conv => whnf
    refine condI (fun h => ?_) (fun h => ?_) <;> conv => whnf
    · have hlt : j < args.length := by simpa [heq] using h
      have ihj := weighExpr_run m _ (ih.mem _ (List.getElem_mem hlt))
      refine condI (fun h => ?_) (fun h => ?_) <;> conv => whnf
      · refine elemP_mk (by rw [heq]; exact rows_get hlt) ?_
        generalize args[j] = a at *
        rcases a with ⟨aop, apl, ab, ai, af, an, aa⟩
        conv => whnf
        refine Run.mono (fun o P h => ?_) (ihj _)
        obtain ⟨n2, rfl, rfl⟩ := h
        conv => whnf
        exact ⟨rfl, k - 1, by omega, j + 1, _, by omega, by rw [fwrap64 (n := (j : Int) + 1) (by omega) (by omega)]; rfl, rfl⟩
      · exact ⟨_, rfl, rfl⟩
    · exact ⟨_, rfl, rfl⟩
theorem weighStmts_step (m : Int) (l : List St) (most : Int) (hlen : l.length < 2097152) (hl : StsOk l) (ih : ∀ kind pl name index e lo hi thn els, St.mk kind pl name index e lo hi thn els ∈ l → ∀ most : Int, Run Tryz.prog (GGm m) 20 [.imm 15 (stRows thn), .v (.int .i64 most)] [] SomeInt ∧ Run Tryz.prog (GGm m) 20 [.imm 15 (stRows els), .v (.int .i64 most)] [] SomeInt) :
    Run Tryz.prog (GGm m) 20 [.imm 15 (stRows l), .v (.int .i64 most)] [] SomeInt := by
  have heq := stRows_eq l
  refine run_of_body (M := symMd _ _) mixed (FF_ok (subG m) 20 fi20 (by kernel_rfl)) ?_
  conv => whnf
  refine LoopP.inv (fun k ρ H => ∃ (j : Nat) (n : Int), j + k = l.length ∧ 
     ρ = .cons 0 (.imm 15 (stRows l)) (.cons 1 (.v (.int .i64 most)) (.cons 5 (.v (.int .i64 n)) (.cons 6 (.v (.int .i64 j)) .nil))) ∧
     H = []) l.length ?_ ?_
  · conv => whnf
    exact ⟨rfl, 0, _, by simp, rfl, rfl⟩
  · rintro k ρ H ⟨j, n, hj, rfl, rfl⟩
    conv => whnf
    refine condI (fun h => ?_) (fun h => ?_) <;> conv => whnf
    · have hlt : j < l.length := by simpa [heq] using h
      have hrow : (stRows l)[((j : Int)).toNat]? = some (l[j]).row := by rw [heq]; exact rows_get hlt
      have hok := hl.mem _ (List.getElem_mem hlt)
      have ihj := ih
      have hmem := List.getElem_mem hlt
      generalize l[j] = a at *
      rcases a with ⟨kind, pl, name, index, ⟨aop, apl, ab, ai, af, an, aa⟩, lo, hi, thn, els⟩
      rw [St.Ok] at hok
      have ihj := ih _ _ _ _ _ _ _ _ _ hmem
      refine condI (fun h => ?_) (fun h => ?_) <;> conv => whnf
      · repeat' first
          | (refine elemP_mk hrow ?_; conv => whnf)
          | (refine Run.mono (fun o P h => ?_) (weighExpr_run m _ hok.2.2.2.2.2.1 _); obtain ⟨n2, rfl, rfl⟩ := h; conv => whnf)
          | (refine Run.mono (fun o P h => ?_) (weighExprs_run m index _ hok.2.2.2.1 hok.2.2.2.2.1); obtain ⟨n2, rfl, rfl⟩ := h; conv => whnf)
          | (refine Run.mono (fun o P h => ?_) (ihj _).1; obtain ⟨n2, rfl, rfl⟩ := h; conv => whnf)
          | (refine Run.mono (fun o P h => ?_) (ihj _).2; obtain ⟨n2, rfl, rfl⟩ := h; conv => whnf)
          | (refine condI (fun _ => ?_) (fun _ => ?_) <;> (conv => whnf))
          | exact ⟨rfl, k - 1, by omega, j + 1, _, by omega, by rw [fwrap64 (n := (j : Int) + 1) (by omega) (by omega)]; rfl, rfl⟩
      · exact ⟨_, rfl, rfl⟩
    · exact ⟨_, rfl, rfl⟩
theorem weighStmts_run (m : Int) : ∀ (n : Nat) (l : List St), SizeOf.sizeOf l ≤ n → l.length < 2097152 → StsOk l → ∀ most : Int, Run Tryz.prog (GGm m) 20 [.imm 15 (stRows l), .v (.int .i64 most)] [] SomeInt
  | 0, l, hn, _, _, _ => by cases l <;> simp at hn
  | n + 1, l, hn, h1, h2, most => weighStmts_step m l most h1 h2 fun kind pl name index e lo hi thn els hm most => by
    have hok := h2.mem _ hm
    rw [St.Ok] at hok
    have hs := List.sizeOf_lt_of_mem hm
    simp only [St.mk.sizeOf_spec] at hs
    exact ⟨weighStmts_run m n thn (by omega) hok.2.2.2.2.2.2.2.2.1 hok.2.2.2.2.2.2.2.2.2.1 most, weighStmts_run m n els (by omega) hok.2.2.2.2.2.2.2.2.2.2.1 hok.2.2.2.2.2.2.2.2.2.2.2 most⟩
theorem weigh_run (m : Int) (p : Pr) (hp : p.Ok) (most : Int) : Run Tryz.prog (GGm m) 9 [p.av, .v (.int .i64 most)] [] SomeInt := by
  have hlen := hp.many
  have hinit := weighStmts_run m _ p.init (Nat.le_refl _) hp.inits hp.init
  have hstep := weighStmts_run m _ p.step (Nat.le_refl _) hp.steps hp.step
  refine run_of_body (M := symMd _ _) mixed (FF_ok (subG m) 9 fi9 (by kernel_rfl)) ?_
  conv => whnf
  refine LoopP.inv (fun k ρ H => ∃ (j : Nat) (n : Int), j + k = p.decls.length ∧ 
     ρ = .cons 1 (.v (.int .i64 most)) (.cons 2 (.ref 0 0) (.cons 5 (.v (.int .i64 n)) (.cons 6 (.v (.int .i64 j)) .nil))) ∧
     H = [.box p.cells]) p.decls.length ?_ ?_
  · conv => whnf
    exact ⟨rfl, 0, _, by simp, rfl, rfl⟩
  · rintro k ρ H ⟨j, n, hj, rfl, rfl⟩
    conv => whnf
    refine condI (fun h => ?_) (fun h => ?_) <;> conv => whnf
    · have hlt : j < p.decls.length := by simpa [deRows] using h
      have hrow : (deRows p.decls)[((j : Int)).toNat]? = some (p.decls[j]).row := rows_get hlt
      have hok := hp.decls _ (List.getElem_mem hlt)
      generalize p.decls[j] = a at *
      have hlo := weighExpr_run m _ hok.lo
      have hhi := weighExpr_run m _ hok.hi
      rcases a with ⟨dpl, dinput, dname, dtype, dlen, drange, ⟨lop, lpl, lb, li, lf, ln, la⟩, ⟨hop, hpl, hb, hi, hf, hn, ha⟩⟩
      refine condI (fun h => ?_) (fun h => ?_) <;> conv => whnf
      · repeat' first
          | (refine elemP_mk hrow ?_; conv => whnf)
          | (refine Run.mono (fun o P h => ?_) (hlo _); obtain ⟨n2, rfl, rfl⟩ := h; conv => whnf)
          | (refine Run.mono (fun o P h => ?_) (hhi _); obtain ⟨n2, rfl, rfl⟩ := h; conv => whnf)
          | (refine condI (fun _ => ?_) (fun _ => ?_) <;> (conv => whnf))
          | exact ⟨rfl, k - 1, by omega, j + 1, _, by omega, by rw [fwrap64 (n := (j : Int) + 1) (by omega) (by omega)]; rfl, rfl⟩
      · repeat' first
          | (refine Run.mono (fun o P h => ?_) (hinit _); obtain ⟨n2, rfl, rfl⟩ := h; conv => whnf)
          | (refine Run.mono (fun o P h => ?_) (hstep _); obtain ⟨n2, rfl, rfl⟩ := h; conv => whnf)
          | (refine condI (fun _ => ?_) (fun _ => ?_) <;> (conv => whnf))
          | exact ⟨_, rfl, rfl⟩
    · repeat' first
        | (refine Run.mono (fun o P h => ?_) (hinit _); obtain ⟨n2, rfl, rfl⟩ := h; conv => whnf)
        | (refine Run.mono (fun o P h => ?_) (hstep _); obtain ⟨n2, rfl, rfl⟩ := h; conv => whnf)
        | (refine condI (fun _ => ?_) (fun _ => ?_) <;> (conv => whnf))
        | exact ⟨_, rfl, rfl⟩
end Am
end Go.Proofs.YtbdnfkmcfencdaaGreatDoor
