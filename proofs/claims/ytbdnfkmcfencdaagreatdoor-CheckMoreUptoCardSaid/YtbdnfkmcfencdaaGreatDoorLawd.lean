/- Law 12: a statement more: in plain Lean. No condition. -/
import Derived.Test.YtbdnfkmcfencdaaGreatDoorCkd
import Derived.Test.YtbdnfkmcfencdaaGreatDoorLawc
import Derived.Test.YtbdnfkmcfencdaaGreatDoorLawb
import Derived.Test.YtbdnfkmcfencdaaGreatDoorFin
namespace Go.Proofs.YtbdnfkmcfencdaaGreatDoor
namespace Am
open Go
set_option maxRecDepth 100000
set_option maxHeartbeats 1000000

/-- Is the declaration one that such a statement may give a value of that type? -/
def moreD (name : ByteArray) (r : TR) (d : De) : Bool := decide (d.name = name) && !d.input && decide (d.len = 0) && (match r with | .ok t => decide (d.type = t) | .error _ => false)
def oneSt (name : ByteArray) (e : Xp) : St := .mk 1 0 name [] e 0 0 [] []
def oneP (p : Pr) (name : ByteArray) (e : Xp) : Pr := ⟨p.ticks, p.decls, p.init, p.step ++ [oneSt name e]⟩
def okT : UR → Bool
  | .ok _ => true
  | .error _ => false
theorem stsT_append (x : St) (s : Sc) : ∀ l : List St, stsT (l ++ [x]) s = match stsT l s with
    | .error w => .error w
    | .ok _ => stT x s
  | [] => by
    show (match stT x s with | .error w => _ | .ok _ => _) = _
    simp only [stsT]
    cases stT x s <;> rfl
  | y :: l => by
    show (match stT y s with | .error w => _ | .ok _ => stsT (l ++ [x]) s) = _
    simp only [stsT]
    cases stT y s with
    | error w => rfl
    | ok u => exact stsT_append x s l
theorem lookD_some {n : ByteArray} {d : De} : ∀ {l : List De}, lookD n l = some d → d ∈ l ∧ d.name = n
  | [], h => by cases h
  | x :: l, h => by
    unfold lookD at h
    by_cases e : x.name = n
    · rw [if_pos e] at h; cases h; exact ⟨.head _, e⟩
    · rw [if_neg e] at h
      obtain ⟨h1, h2⟩ := lookD_some h
      exact ⟨.tail _ h1, h2⟩
theorem declsT_ok : ∀ {l a : List De} {c : Int}, declsT l a c = .ok () → ∀ d ∈ l, d.th = ⟨d.type, d.len, d.input, false⟩ ∧ lookD d.name (a ++ l) = some d
  | [], _, _, _, _, h => by cases h
  | x :: l, a, c, h, d, hd => by
    unfold declsT at h
    cases hc : declC (lookD x.name a).isSome x with
    | error w => rw [hc] at h; cases h
    | ok n =>
      rw [hc] at h
      dsimp only at h
      by_cases hn : 96 < c + n
      · rw [if_pos hn] at h; cases h
      · rw [if_neg hn] at h
        obtain ⟨h1, _, _, _, h2⟩ := declC_ok hc
        rw [List.mem_cons] at hd
        rcases hd with rfl | hd
        · refine ⟨h2, ?_⟩
          rw [lookD_append]
          cases hl : lookD d.name a with
          | some d' => rw [hl] at h1; cases h1
          | none => unfold lookD; rw [if_pos rfl]
        · have := declsT_ok h d hd
          rw [List.append_assoc] at this
          exact this
theorem more_law (p : Pr) (name : ByteArray) (e : Xp) (h : errN (checkT p) = 0) : decide (errN (checkT (oneP p name e)) = 0) = p.decls.any (moreD name (xpTy ⟨p.decls, [], false⟩ e)) := by
  have hz : ∀ r : UR, errN r = 0 ↔ r = .ok () := by
    intro r
    cases r with
    | ok u => exact ⟨fun _ => rfl, fun _ => rfl⟩
    | error w => constructor
                 · intro h; simp only [errN] at h; omega
                 · intro h; cases h
  rw [hz] at h
  have e1 : checkT (oneP p name e) = assignT ⟨p.decls, [], false⟩ 0 name [] e := by
    unfold checkT at h ⊢
    unfold oneP
    dsimp only
    split at h
    · cases h
    · rename_i hn
      rw [if_neg hn]
      cases h1 : declsT p.decls [] 0 with
      | error w => rw [h1] at h; cases h
      | ok u =>
        rw [h1] at h
        dsimp only at h ⊢
        cases h2 : stsT p.init ⟨p.decls, [], true⟩ with
        | error w => rw [h2] at h; cases h
        | ok u =>
          rw [h2] at h
          dsimp only at h ⊢
          rw [stsT_append, h]
          rfl
  have e2 : ∀ d ∈ p.decls, d.th = ⟨d.type, d.len, d.input, false⟩ ∧ lookD d.name p.decls = some d := by
    unfold checkT at h
    split at h
    · cases h
    · cases h1 : declsT p.decls [] 0 with
      | error w => rw [h1] at h; cases h
      | ok u => exact declsT_ok h1
  rw [e1]
  generalize hr : xpTy ⟨p.decls, [], false⟩ e = r
  unfold assignT Sc.look
  rw [show inLoops name ([] : List ByteArray) = false from rfl]
  dsimp only
  rw [if_neg (by decide)]
  cases hl : lookD name p.decls with
  | none =>
    symm
    show _ = false
    rw [List.any_eq_false]
    intro d hd h0
    simp only [moreD, Bool.and_eq_true, decide_eq_true_eq] at h0
    have := (e2 d hd).2
    rw [h0.1.1.1, hl] at this
    cases this
  | some d =>
    obtain ⟨hd, hnm⟩ := lookD_some hl
    have hth := (e2 d hd).1
    have hany : p.decls.any (moreD name r) = moreD name r d := by
      rw [Bool.eq_iff_iff, List.any_eq_true]
      constructor
      · rintro ⟨d', hd', h0⟩
        have h1 := h0
        simp only [moreD, Bool.and_eq_true, decide_eq_true_eq] at h1
        have h2 := (e2 d' hd').2
        rw [h1.1.1.1, hl] at h2
        cases h2
        exact h0
      · intro h0; exact ⟨d, hd, h0⟩
    rw [hany]
    have hsz : 0 ≤ d.len := by
      have := congrArg Th.size hth
      simp only [De.th] at this
      omega
    show decide (errN (if (d.th.loop || d.th.input) = true then _ else if (0 : Nat) ≠ (min d.th.size 1).toNat then _ else mustT _ e d.th.t) = 0) = _
    rw [hth]
    dsimp only
    unfold moreD mustT
    rw [hr]
    cases hi : d.input with
    | true => simp [errN]
    | false =>
      by_cases h0 : d.len = 0
      · rw [if_neg (by simp), if_neg (by rw [h0]; decide)]
        rw [Bool.eq_iff_iff, decide_eq_true_eq, hz]
        cases r with
        | error w => simp
        | ok t =>
          show (if t = d.type then Except.ok () else Except.error (2, e.pl)) = Except.ok () ↔ _
          by_cases ht : t = d.type
          · rw [if_pos ht]; simp [ht, hnm, h0]
          · rw [if_neg ht]; simp; intro _ _ h; exact ht h.symm
      · rw [if_neg (by simp), if_pos (by omega)]
        simp [errN, h0]
end Am
end Go.Proofs.YtbdnfkmcfencdaaGreatDoor
/- Law 12: CheckMore answers true. No condition. -/
namespace Go.Proofs.YtbdnfkmcfencdaaGreatDoor
namespace Am
open Go
set_option maxRecDepth 100000
set_option maxHeartbeats 1000000

def moreCode (r : TR) : Int := match r with | .ok _ => 0 | .error w => 120 + (w.1 : Int)
def moreType (r : TR) : Int := match r with | .ok t => t | .error _ => 0
def moreAt (r : TR) : Int := match r with | .ok _ => 0 | .error w => w.2
theorem moreType_run (m : Int) (p : Pr) (hp : p.Ok) (e : Xp) (he : e.Ok) : Run Tryz.prog (GGm m) 17 [p.av, .agg e.row] [] fun o H =>
    o = .ret (.tup [.v (.int .u8 (moreType (xpTy ⟨p.decls, [], false⟩ e))), .v (.int .i64 (moreCode (xpTy ⟨p.decls, [], false⟩ e))), .v (.int .i64 (moreAt (xpTy ⟨p.decls, [], false⟩ e)))]) ∧ H = [] := by
  refine Run.mono (fun o H h => ?_) (typeOf_run m p.ticks p.decls hp.many _ _ (.imm 15 (stRows p.init)) (.imm 15 (stRows p.step)) rfl rfl e he)
  cases hx : xpTy ⟨p.decls, [], false⟩ e with
  | ok t => rw [hx] at h; exact h
  | error w => rw [hx] at h; exact h
theorem stsOk_of' : ∀ l : List St, (∀ a ∈ l, a.Ok) → StsOk l
  | [], _ => trivial
  | x :: l, h => ⟨h x (List.mem_cons_self ..), stsOk_of' l fun a ha => h a (List.mem_cons_of_mem _ ha)⟩
theorem oneP_ok {p : Pr} (hp : p.Ok) (hl : p.step.length < 2097151) {name : ByteArray} (hn : name.size < 2097152) {e : Xp} (he : e.Ok) : (oneP p name e).Ok where
  ticks := hp.ticks
  many := hp.many
  decls := hp.decls
  inits := hp.inits
  init := hp.init
  steps := by show (p.step ++ [_]).length < _; rw [List.length_append]; simp; omega
  step := by
    refine stsOk_of' _ fun a ha => ?_
    replace ha : a ∈ p.step ++ [oneSt name e] := ha
    rw [List.mem_append, List.mem_singleton] at ha
    rcases ha with ha | rfl
    · exact hp.step.mem a ha
    · unfold oneSt
      rw [St.Ok]
      exact ⟨by omega, by omega, hn, by simp, trivial, he, by omega, by omega, by simp, trivial, by simp, trivial⟩
theorem subR_refl : ∀ l : List (List AV), SubR l l
  | [] => trivial
  | x :: l => ⟨SubL.refl x, subR_refl l⟩
theorem checkMore_run (m : Int) (p : Pr) (hp : p.Ok) (hl : p.step.length < 2097151) (x : St) (hx : x.Ok) : Run Tryz.prog (GGm m) 7 [p.av, .agg x.row] [] fun o H => o = .ret (.v (.bool true)) ∧ H = [] := by
  rcases x with ⟨kind, pl, name, index, e, lo, hi, thn, els⟩
  rw [St.Ok] at hx
  have hname := hx.2.2.1
  have he := hx.2.2.2.2.2.1
  have hw := works m
  have hweigh := weigh_run m p hp 1500
  have hweighE := weighExpr_run m e he 1500
  have hc1 := checkP_run m p hp
  have hc2 := checkP_run m (oneP p name e) (oneP_ok hp hl hname he)
  have hty := moreType_run m p hp e he
  have hlaw := more_law p name e
  have hlen := hp.many
  have hsl := hp.steps
  rcases p with ⟨ticks, decls, init, step⟩
  rcases e with ⟨aop, apl, ab, ai, af, an, aa⟩
  dsimp only at *
  refine run_of_body (M := symMd _ _) mixed (FF_ok (subG m) 7 fi7 (by kernel_rfl)) ?_
  conv => whnf
  refine Run.mono (fun o P h => ?_) hw
  obtain ⟨rfl, rfl⟩ := Prod.mk.inj h
  conv => whnf
  refine Run.mono (fun o P h => ?_) hweigh
  obtain ⟨n, rfl, rfl⟩ := h
  conv => whnf
  generalize hb1 : decide (n > 1500) = b1
  have hc1' : Run Tryz.prog (GGm m) 10 [AV.agg [.v (.int .i64 ticks), .imm 20 (deRows decls), .imm 15 (stRows init), .imm 15 (stRows step)]] [] fun o H => o = .ret (.tup [.v (.int .i64 (errN (checkT ⟨ticks, decls, init, step⟩))), .v (.int .i64 (errAt (checkT ⟨ticks, decls, init, step⟩)))]) ∧ H = [] := hc1
  cases b1
  · conv => whnf
    refine Run.mono (fun o P h => ?_) hweighE
    obtain ⟨n2, rfl, rfl⟩ := h
    conv => whnf
    refine condI (fun h => ?_) (fun h => ?_) <;> conv => whnf
    · exact ⟨rfl, rfl⟩
    refine Run.mono (fun o P h => ?_) hc1'
    obtain ⟨rfl, rfl⟩ := h
    conv => whnf
    refine condI (fun h => ?_) (fun h => ?_) <;> conv => whnf
    · exact ⟨rfl, rfl⟩
    have h0 : errN (checkT ⟨ticks, decls, init, step⟩) = 0 := by simpa using h
    replace hlaw := hlaw h0
    have hsn : (stRows step).length = step.length := by rw [stRows_eq, List.length_map]
    refine needI (show ((([] : List (List AV)).length + (stRows step).length) * (184 + 1)) ≤ roomy by rw [hsn]; unfold roomy; simp; omega) ?_
    conv => whnf
    refine needI (show (((stRows step).length + 1) * (184 + 1)) ≤ roomy by rw [hsn]; unfold roomy; omega) ?_
    conv => whnf
    have hty' : Run Tryz.prog (GGm m) 17 [AV.agg [.v (.int .i64 ticks), .imm 20 (deRows decls), .imm 15 (stRows init), .imm 15 (stRows step)], .agg (Xp.mk aop apl ab ai af an aa).row] [] fun o H =>
        o = .ret (.tup [.v (.int .u8 (moreType (xpTy ⟨decls, [], false⟩ (.mk aop apl ab ai af an aa)))), .v (.int .i64 (moreCode (xpTy ⟨decls, [], false⟩ (.mk aop apl ab ai af an aa)))), .v (.int .i64 (moreAt (xpTy ⟨decls, [], false⟩ (.mk aop apl ab ai af an aa))))]) ∧ H = [] := hty
    generalize xpTy ⟨decls, [], false⟩ (.mk aop apl ab ai af an aa) = r at *
    refine Run.mono (fun o P h => ?_) hty'
    obtain ⟨rfl, rfl⟩ := h
    conv => whnf
    refine LoopP.inv (fun k ρ H => ∃ j : Nat, j + k = decls.length ∧
        ρ = .cons 2 (.ref 0 0) (.cons 3 (.ref 1 0) (.cons 5 (.v (.bool true)) (.cons 8 (.ref 2 0) (.cons 10 (.v (.int .u8 (moreType r))) (.cons 11 (.v (.int .i64 (moreCode r))) (.cons 13 (.v (.bool ((decls.take j).any (moreD name r)))) (.cons 14 (.v (.int .i64 j)) .nil))))))) ∧
        H = [.box [.v (.int .i64 ticks), .imm 20 (deRows decls), .imm 15 (stRows init), .imm 15 (stRows step)],
          .box [.v (.int .u8 kind), .v (.int .i64 pl), .v (.string name), .imm 7 (exRows index), .v (.int .u8 aop), .v (.int .i64 apl), .v (.bool ab), .v (.int .i32 ai), .v (.int .u64 af), .v (.string an), .imm 7 (exRows aa), .v (.int .i32 lo), .v (.int .i32 hi), .imm 15 (stRows thn), .imm 15 (stRows els)],
          .box [.v (.int .i64 ticks), .imm 20 (deRows decls), .imm 15 (stRows init), .ar 3],
          .arr 15 (stRows step ++ [[.v (.int .u8 1), .v (.int .i64 0), .v (.string name), .v (.slice none 0 0), .v (.int .u8 aop), .v (.int .i64 apl), .v (.bool ab), .v (.int .i32 ai), .v (.int .u64 af), .v (.string an), .imm 7 (exRows aa), .v (.int .i32 0), .v (.int .i32 0), .v (.slice none 0 0), .v (.slice none 0 0)]])]) decls.length ?_ ?_
    · conv => whnf
      exact ⟨rfl, 0, by simp, rfl, rfl⟩
    · rintro k ρ H ⟨j, hj, rfl, rfl⟩
      conv => whnf
      refine condI (fun h => ?_) (fun h => ?_) <;> conv => whnf
      · have hlt : j < decls.length := by simpa [deRows] using h
        have hrow : (deRows decls)[((j : Int)).toNat]? = some (decls[j]).row := rows_get hlt
        have hany : (decls.take (j + 1)).any (moreD name r) = ((decls.take j).any (moreD name r) || moreD name r decls[j]) := by
          rw [List.take_succ_eq_append_getElem hlt, List.any_append]; simp
        refine elemP_mk hrow ?_
        generalize decls[j] = d at *
        rcases d with ⟨dpl, dinput, dname, dtype, dlen, drange, ⟨lop, lpl, lb, li, lf, ln, la⟩, ⟨zop, zpl, zb, zi, zf, zn, za⟩⟩
        have fin : ∀ b, (decls.take (j + 1)).any (moreD name r) = b → (([] : Dx) = [] ∧ ∃ j_1, j_1 < k ∧ ∃ j_2 : Nat, j_2 + j_1 = decls.length ∧
          Regs.cons 2 (.ref 0 0) (.cons 3 (.ref 1 0) (.cons 5 (.v (.bool true)) (.cons 8 (.ref 2 0) (.cons 10 (.v (.int .u8 (moreType r))) (.cons 11 (.v (.int .i64 (moreCode r))) (.cons 13 (.v (.bool b)) (.cons 14 (.v (.int .i64 (fwrap .i64 ((j : Int) + 1)))) .nil))))))) = .cons 2 (.ref 0 0) (.cons 3 (.ref 1 0) (.cons 5 (.v (.bool true)) (.cons 8 (.ref 2 0) (.cons 10 (.v (.int .u8 (moreType r))) (.cons 11 (.v (.int .i64 (moreCode r))) (.cons 13 (.v (.bool ((decls.take j_2).any (moreD name r)))) (.cons 14 (.v (.int .i64 j_2)) .nil))))))) ∧
          [AObj.box [.v (.int .i64 ticks), .imm 20 (deRows decls), .imm 15 (stRows init), .imm 15 (stRows step)],
          .box [.v (.int .u8 kind), .v (.int .i64 pl), .v (.string name), .imm 7 (exRows index), .v (.int .u8 aop), .v (.int .i64 apl), .v (.bool ab), .v (.int .i32 ai), .v (.int .u64 af), .v (.string an), .imm 7 (exRows aa), .v (.int .i32 lo), .v (.int .i32 hi), .imm 15 (stRows thn), .imm 15 (stRows els)],
          .box [.v (.int .i64 ticks), .imm 20 (deRows decls), .imm 15 (stRows init), .ar 3],
          .arr 15 (stRows step ++ [[.v (.int .u8 1), .v (.int .i64 0), .v (.string name), .v (.slice none 0 0), .v (.int .u8 aop), .v (.int .i64 apl), .v (.bool ab), .v (.int .i32 ai), .v (.int .u64 af), .v (.string an), .imm 7 (exRows aa), .v (.int .i32 0), .v (.int .i32 0), .v (.slice none 0 0), .v (.slice none 0 0)]])] = [AObj.box [.v (.int .i64 ticks), .imm 20 (deRows decls), .imm 15 (stRows init), .imm 15 (stRows step)],
          .box [.v (.int .u8 kind), .v (.int .i64 pl), .v (.string name), .imm 7 (exRows index), .v (.int .u8 aop), .v (.int .i64 apl), .v (.bool ab), .v (.int .i32 ai), .v (.int .u64 af), .v (.string an), .imm 7 (exRows aa), .v (.int .i32 lo), .v (.int .i32 hi), .imm 15 (stRows thn), .imm 15 (stRows els)],
          .box [.v (.int .i64 ticks), .imm 20 (deRows decls), .imm 15 (stRows init), .ar 3],
          .arr 15 (stRows step ++ [[.v (.int .u8 1), .v (.int .i64 0), .v (.string name), .v (.slice none 0 0), .v (.int .u8 aop), .v (.int .i64 apl), .v (.bool ab), .v (.int .i32 ai), .v (.int .u64 af), .v (.string an), .imm 7 (exRows aa), .v (.int .i32 0), .v (.int .i32 0), .v (.slice none 0 0), .v (.slice none 0 0)]])]) := by
          intro b hb
          exact ⟨rfl, k - 1, by omega, j + 1, by omega, by rw [fwrap64 (by omega) (by omega), hb]; rfl, rfl⟩
        generalize (decls.take j).any (moreD name r) = bj at *
        cases bj
        · conv => whnf
          have hsb : sameBytes dname.data.toList name.data.toList = decide (dname = name) := by
            rw [sameBytes_eq, Bool.eq_iff_iff, beq_iff_eq, decide_eq_true_eq]
            exact ⟨fun h => list_ext h, fun h => by rw [h]⟩
          generalize hb1 : sameBytes dname.data.toList name.data.toList = b1 at *
          cases b1
          · conv => whnf
            refine fin false ?_
            rw [hany]
            unfold moreD
            rw [← hsb]
            rfl
          · conv => whnf
            cases dinput
            · conv => whnf
              generalize hb2 : (dlen == 0) = b2 at *
              cases b2
              · conv => whnf
                refine fin false ?_
                rw [hany]
                unfold moreD
                rw [← hsb, show decide (dlen = 0) = _ from hb2]
                rfl
              · conv => whnf
                generalize hb3 : (dtype == moreType r) = b3 at *
                cases b3
                · conv => whnf
                  refine fin false ?_
                  rw [hany]
                  unfold moreD
                  rw [← hsb, show decide (dlen = 0) = _ from hb2]
                  cases r with
                  | error w => rfl
                  | ok t => exact hb3
                · conv => whnf
                  refine fin _ ?_
                  rw [hany]
                  unfold moreD
                  rw [← hsb, show decide (dlen = 0) = _ from hb2]
                  cases r with
                  | error w => symm; simp [moreCode]; omega
                  | ok t => exact hb3
            · conv => whnf
              refine fin false ?_
              rw [hany]
              unfold moreD
              rw [← hsb]
              rfl
        · conv => whnf
          refine fin true (by rw [hany]; rfl)
      · have hge : decls.length ≤ j := by simp [deRows] at h; omega
        rw [List.take_of_length_le hge]
        have hnew : SubL [.v (.int .u8 1), .v (.int .i64 0), .v (.string name), .v (.slice none 0 0), .v (.int .u8 aop), .v (.int .i64 apl), .v (.bool ab), .v (.int .i32 ai), .v (.int .u64 af), .v (.string an), .imm 7 (exRows aa), .v (.int .i32 0), .v (.int .i32 0), .v (.slice none 0 0), .v (.slice none 0 0)] (oneSt name (.mk aop apl ab ai af an aa)).row :=
          sub_same (sub_same (sub_same (sub_cons (sub_nil 7) (sub_same (sub_same (sub_same (sub_same (sub_same (sub_same (sub_same (sub_same (sub_same (sub_cons (sub_nil 15) (sub_cons (sub_nil 15) sub_end))))))))))))))
        have hrows : SubR (stRows step ++ [[.v (.int .u8 1), .v (.int .i64 0), .v (.string name), .v (.slice none 0 0), .v (.int .u8 aop), .v (.int .i64 apl), .v (.bool ab), .v (.int .i32 ai), .v (.int .u64 af), .v (.string an), .imm 7 (exRows aa), .v (.int .i32 0), .v (.int .i32 0), .v (.slice none 0 0), .v (.slice none 0 0)]]) (stRows (step ++ [oneSt name (.mk aop apl ab ai af an aa)])) := by
          rw [stRows_eq (step ++ _), List.map_append, ← stRows_eq]
          exact (subR_refl _).append ⟨hnew, trivial⟩
        have hc2' := Run.sub (xs := [.agg [.v (.int .i64 ticks), .imm 20 (deRows decls), .imm 15 (stRows init), .imm 15 (stRows step ++ [[.v (.int .u8 1), .v (.int .i64 0), .v (.string name), .v (.slice none 0 0), .v (.int .u8 aop), .v (.int .i64 apl), .v (.bool ab), .v (.int .i32 ai), .v (.int .u64 af), .v (.string an), .imm 7 (exRows aa), .v (.int .i32 0), .v (.int .i32 0), .v (.slice none 0 0), .v (.slice none 0 0)]])]])
          (sub_cons (sub_agg (sub_same (sub_same (sub_same (sub_cons (sub_imm hrows (pure_sts _)) sub_end))))) sub_end) hc2
        refine Run.mono (fun o P h => ?_) hc2'
        obtain ⟨rfl, rfl⟩ := h
        conv => whnf
        refine ⟨?_, rfl⟩
        rw [show (errN (checkT (oneP ⟨ticks, decls, init, step⟩ name (.mk aop apl ab ai af an aa))) == 0) = _ from hlaw]
        simp
  · conv => whnf
    exact ⟨rfl, rfl⟩
end Am
end Go.Proofs.YtbdnfkmcfencdaaGreatDoor
/- Law 12: programs, opened: their steps are few. No condition. -/
namespace Go.Proofs.YtbdnfkmcfencdaaGreatDoor
namespace Am
open Go
set_option maxRecDepth 100000
set_option maxHeartbeats 1000000

section
variable {H : Type} {enc : TypeId × Value → H} {w : World} {base : Nat} {sp : Nat → Bool} {held : Bool}
theorem openM_pr (n : Nat) (cs : List Value) (x : DataW H × List MemPlace) (h : DataW.trod enc Tryz.prog w base sp held n 25 cs = some x) (hB : Rows.uptoBulk x.1 ≤ 1048576) : ∃ p : Pr, (p.Ok ∧ p.step.length < 2097151) ∧ RepVs (worldEnv w) p.cells cs := by
    obtain ⟨m, xs, rfl, hl, hx, hm⟩ := trod_struct Tryz.underlying25 h
    rw [c25] at hl
    obtain ⟨v0, v1, v2, v3, rfl⟩ : ∃ v0 v1 v2 v3, cs = [v0, v1, v2, v3] := by
      match cs, hl with
      | [v0, v1, v2, v3], _ => exact ⟨_, _, _, _, rfl⟩
    simp only [List.mapM_cons, List.mapM_nil, Option.bind_eq_bind, Option.bind_eq_some_iff, Option.pure_def, Option.some.injEq, c3, c22, c23, List.drop_succ_cons, List.drop_zero, List.take_succ_cons, List.take_zero] at hm
    obtain ⟨x0, h0, _, ⟨x1, h1, _, ⟨x2, h2, _, ⟨x3, h3, _, rfl, rfl⟩, rfl⟩, rfl⟩, rfl⟩ := hm
    obtain ⟨i0, e0, a0, b0⟩ := trod_int Tryz.underlying3 h0
    simp only [hx, List.map_cons, List.map_nil, Rows.uptoBulk, Rows.uptoBulkAll] at hB
    obtain ⟨ds, d1, d2, w1, e1, d3⟩ := openS_des h1 (by omega)
    obtain ⟨th, t1, t2, w2, e2, t3⟩ := openS_sts h2 (by omega)
    obtain ⟨el, l1, l2, w3, e3, l3⟩ := openS_sts h3 (by omega)
    cases e0; cases e1; cases e2; cases e3
    have i64a : IntKind.i64.min = -9223372036854775808 := rfl
    have i64b : IntKind.i64.max = 9223372036854775807 := rfl
    rw [i64a] at a0; rw [i64b] at b0
    refine ⟨⟨i0, ds, th, el⟩, ⟨⟨⟨a0, (by omega : i0 < 9223372036854775808)⟩, (by omega : ds.length < 2097152), fun d hd => (d1 d hd).1, (by omega : th.length < 2097152), t1.1, (by omega : el.length < 2097152), l1.1⟩, (by omega : el.length < 2097151)⟩, ?_⟩
    exact ⟨rep_int, d3, t3, l3, trivial⟩
end
end Am
end Go.Proofs.YtbdnfkmcfencdaaGreatDoor
