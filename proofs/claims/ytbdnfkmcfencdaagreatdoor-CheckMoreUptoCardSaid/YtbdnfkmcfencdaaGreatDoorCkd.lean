/- Law 12: statements, in the program. No condition. -/
import Derived.Test.YtbdnfkmcfencdaaGreatDoorCkc
import Derived.Test.YtbdnfkmcfencdaaGreatDoorCkb
namespace Go.Proofs.YtbdnfkmcfencdaaGreatDoor
namespace Am
open Go
set_option maxRecDepth 100000
set_option maxHeartbeats 1000000

/-- Right, or what is wrong and where. -/
abbrev UR := Except (Nat × Int) Unit
def unitO : UR → Out
  | .ok _ => .ret (.tup [])
  | .error w => .panic (.iface 88 (wrAV w))
def Xp.pl : Xp → Int | .mk _ pl .. => pl
/-- An expression that must be of a type. -/
def mustT (s : Sc) (e : Xp) (t : Int) : UR := match xpTy s e with
  | .error w => .error w
  | .ok u => if u = t then .ok () else .error (2, e.pl)
theorem must_run (m : Int) (s : Sc) (kv : KV) (loops : Int) (hk : Names s kv) (e : Xp) (he : e.Ok) (t : Int) : Run Tryz.prog (GGm m) 44 [.ref 0 0, .agg e.row, .v (.int .u8 t)] (ckH s.init loops kv) fun o H => o = unitO (mustT s e t) ∧ H = ckH s.init loops kv := by
  have h := expr_run m s kv loops hk e he
  rcases e with ⟨op, pl, b, i, f, name, args⟩
  unfold mustT
  refine run_of_body (M := symMd _ _) mixed (FF_ok (subG m) 44 fi44 (by kernel_rfl)) ?_
  conv => whnf
  refine Run.mono (fun o P h => ?_) h
  obtain ⟨rfl, rfl⟩ := h
  generalize xpTy s _ = tr
  cases tr <;> (conv => whnf)
  · exact ⟨rfl, rfl⟩
  · repeat' first
      | exact ⟨rfl, rfl⟩
      | (refine ⟨?_, rfl⟩; simp_all [unitO, wrAV, renAV, renAVs, Xp.pl]; done)
      | (refine condI (fun _ => ?_) (fun _ => ?_) <;> (conv => whnf))
      | (refine Run.mono (fun o P h => ?_) (fail_run m _ _); obtain ⟨rfl, rfl⟩ := h; conv => whnf)
/-- An assignment. -/
def assignT (s : Sc) (pl : Int) (name : ByteArray) (index : List Xp) (e : Xp) : UR :=
  match s.look name with
  | none => .error (0, pl)
  | some th => if (th.loop || th.input) = true then .error (4, pl) else if index.length ≠ (min th.size 1).toNat then .error (5, pl)
    else match index with
      | [] => mustT s e th.t
      | i :: _ => match mustT s i 2 with
        | .error w => .error w
        | .ok _ => mustT s e th.t
theorem assign_run (m : Int) (s : Sc) (kv : KV) (loops : Int) (hk : Names s kv) (kind pl : Int) (name : ByteArray) (index : List Xp) (e : Xp) (lo hi : Int) (thn els : List St) (he : e.Ok) (hix : XpsOk index) :
    Run Tryz.prog (GGm m) 43 [.ref 0 0, .agg (St.mk kind pl name index e lo hi thn els).row] (ckH s.init loops kv) fun o H => o = unitO (assignT s pl name index e) ∧ H = ckH s.init loops kv := by
  have hsz : ∀ th, lookK name kv = some th → 0 ≤ th.size := fun th h => look_size ((hk name).symm.trans h)
  have hme := must_run m s kv loops hk e he
  have hmi : ∀ i ∈ index, Run Tryz.prog (GGm m) 44 [.ref 0 0, .agg i.row, .v (.int .u8 2)] (ckH s.init loops kv) fun o H => o = unitO (mustT s i 2) ∧ H = ckH s.init loops kv := fun i hi => must_run m s kv loops hk i (hix.mem i hi) 2
  unfold assignT
  rw [← hk name]
  rcases e with ⟨op, epl, b, i, f, en, ea⟩
  refine run_of_body (M := symMd _ _) mixed (FF_ok (subG m) 43 fi43 (by kernel_rfl)) ?_
  conv => whnf
  refine recKV (name := name) (fun k t l ih hne h => condN hne h) ?_
  generalize lookK name kv = th at *
  cases th with
  | none =>
    conv => whnf
    refine Run.mono (fun o P h => ?_) (fail_run m _ _)
    obtain ⟨rfl, rfl⟩ := h
    conv => whnf
    exact ⟨rfl, rfl⟩
  | some th =>
    have hsz := hsz th rfl
    have hmin : (0 < th.size ∧ pickInt false th.size 1 = 1 ∧ (min th.size 1).toNat = 1) ∨ (th.size = 0 ∧ pickInt false th.size 1 = 0 ∧ (min th.size 1).toNat = 0) := by
      unfold pickInt
      simp only [cond_false]
      by_cases h : 0 < th.size
      · refine .inl ⟨h, ?_, by omega⟩
        split <;> omega
      · refine .inr ⟨by omega, ?_, by omega⟩
        split <;> omega
    have hme := hme th.t
    refine fun l ih => condY ?_
    rcases hmin with ⟨hpos, hp, hmin⟩ | ⟨hpos, hp, hmin⟩ <;> rcases index with _ | ⟨⟨aop, apl, ab, ai, af, an, aa⟩, _ | ⟨a2, rest⟩⟩ <;> simp only [hmin] <;> (conv => whnf) <;>
    repeat' first
      | (refine ⟨?_, rfl⟩; simp_all [unitO, wrAV, renAV, renAVs]; done)
      | (exfalso; simp_all [exRows]; done)
      | (exfalso; simp_all [exRows]; omega)
      | (refine LoopP.rounds 2 ?_; conv => whnf)
      | (refine elemP_mk rfl ?_; conv => whnf)
      | (refine condI (fun _ => ?_) (fun _ => ?_) <;> (conv => whnf))
      | (refine Run.mono (fun o P h => ?_) (fail_run m _ _); obtain ⟨rfl, rfl⟩ := h; conv => whnf)
      | (refine Run.mono (fun o P h => ?_) hme; obtain ⟨rfl, rfl⟩ := h; generalize hx : mustT s _ th.t = tr; cases tr <;> (conv => whnf))
      | (refine Run.mono (fun o P h => ?_) (hmi _ (List.mem_cons_self ..)); obtain ⟨rfl, rfl⟩ := h; generalize hy : mustT s _ 2 = tr; cases tr <;> (conv => whnf))
mutual
/-- A statement. -/
def stT : St → Sc → UR
  | .mk kind pl name index e lo hi thn els, s =>
    if kind = 1 then assignT s pl name index e
    else if kind = 2 then match mustT s e 1 with
      | .error w => .error w
      | .ok _ => match stsT thn s with
        | .error w => .error w
        | .ok _ => stsT els s
    else if kind = 3 then (if nameB name = false then .error (0, pl) else if (s.look name).isSome = true then .error (1, pl) else if 16 ≤ hi - lo ∨ 2 ≤ s.loops.length then .error (3, pl)
      else stsT thn { s with loops := s.loops ++ [name] })
    else .error (2, pl)
/-- A block. -/
def stsT : List St → Sc → UR
  | [], _ => .ok ()
  | x :: l, s => match stT x s with
    | .error w => .error w
    | .ok _ => stsT l s
end
/-- What a block leaves: as it was, where it is right. -/
def LeftB (init : Bool) (loops : Int) (kv : KV) (r : UR) (H : Heap) : Prop := ∃ i l kv', H = ckH i l kv' ∧ (r = .ok () → i = init ∧ l = loops ∧ kv' = kv)
theorem left_same {init : Bool} {loops : Int} {kv : KV} {r : UR} : LeftB init loops kv r (ckH init loops kv) := ⟨_, _, _, rfl, fun _ => ⟨rfl, rfl, rfl⟩⟩
def BlockRun (m : Int) (l : List St) : Prop := ∀ (s : Sc) (kv : KV), Names s kv → s.loops.length ≤ 2 → Run Tryz.prog (GGm m) 25 [.ref 0 0, .imm 15 (stRows l)] (ckH s.init s.loops.length kv) fun o H => o = unitO (stsT l s) ∧ LeftB s.init s.loops.length kv (stsT l s) H
theorem inLoops_append (n : ByteArray) (name : ByteArray) : ∀ l : List ByteArray, inLoops n (l ++ [name]) = if name = n then true else inLoops n l
  | [] => rfl
  | x :: l => by
    simp only [List.cons_append, inLoops, inLoops_append n name l]
    by_cases h : x = n
    · rw [if_pos h, if_pos h]; split <;> rfl
    · rw [if_neg h, if_neg h]
theorem names_push {s : Sc} {kv : KV} (hk : Names s kv) (name : ByteArray) : Names { s with loops := s.loops ++ [name] } (putT name ⟨2, 0, false, true⟩ kv) := by
  intro n
  rw [lookK_put, hk n]
  unfold Sc.look
  simp only [inLoops_append]
  by_cases h : n = name
  · subst h
    rw [if_pos rfl, if_pos rfl, if_pos rfl]
  · rw [if_neg h]
    simp only [show ¬ name = n from fun e => h e.symm, if_false]
theorem loopC_run (m : Int) (s : Sc) (kv : KV) (hk : Names s kv) (hl : s.loops.length ≤ 2) (kind pl : Int) (name : ByteArray) (index : List Xp) (e : Xp) (lo hi : Int) (thn els : List St) (hname : name.size < 2097152) (hlo : -2147483648 ≤ lo ∧ lo < 2147483648) (hhi : -2147483648 ≤ hi ∧ hi < 2147483648) (hb : BlockRun m thn) :
    Run Tryz.prog (GGm m) 45 [.ref 0 0, .agg (St.mk kind pl name index e lo hi thn els).row] (ckH s.init s.loops.length kv) fun o H =>
      o = unitO (if nameB name = false then .error (0, pl) else if (s.look name).isSome = true then .error (1, pl) else if 16 ≤ hi - lo ∨ 2 ≤ s.loops.length then .error (3, pl) else stsT thn { s with loops := s.loops ++ [name] }) ∧
      LeftB s.init s.loops.length kv (if nameB name = false then .error (0, pl) else if (s.look name).isSome = true then .error (1, pl) else if 16 ≤ hi - lo ∨ 2 ≤ s.loops.length then .error (3, pl) else stsT thn { s with loops := s.loops ++ [name] }) H := by
  have hnm := isName_run m name hname
  have hblock := hb { s with loops := s.loops ++ [name] } (putT name ⟨2, 0, false, true⟩ kv) (names_push hk name)
  simp only [List.length_append, List.length_singleton] at hblock
  have hdrop := drop_put name ⟨2, 0, false, true⟩ kv
  rw [← hk name]
  generalize stsT thn { s with loops := s.loops ++ [name] } = r at *
  rcases e with ⟨op, epl, b, i, f, en, ea⟩
  refine run_of_body (M := symMd _ _) mixed (FF_ok (subG m) 45 fi45 (by kernel_rfl)) ?_
  conv => whnf
  refine recKV (name := name) (fun k t l ih hne h => condN hne h) ?_
  generalize hlook : lookK name kv = th at *
  cases th with
  | some th =>
    refine fun l ih => condY ?_
    conv => whnf
    refine Run.mono (fun o P h => ?_) hnm
    obtain ⟨rfl, rfl⟩ := h
    conv => whnf
    repeat' first
      | (refine ⟨?_, left_same⟩; simp_all [unitO, wrAV, renAV, renAVs]; done)
      | (refine condI (fun _ => ?_) (fun _ => ?_) <;> (conv => whnf))
      | (refine Run.mono (fun o P h => ?_) (fail_run m _ _); obtain ⟨rfl, rfl⟩ := h; conv => whnf)
  | none =>
    conv => whnf
    refine Run.mono (fun o P h => ?_) hnm
    obtain ⟨rfl, rfl⟩ := h
    conv => whnf
    refine condI (fun h1 => ?_) (fun h1 => ?_) <;> conv => whnf
    · refine Run.mono (fun o P h => ?_) (fail_run m _ _)
      obtain ⟨rfl, rfl⟩ := h
      conv => whnf
      refine ⟨?_, left_same⟩
      simp_all [unitO, wrAV, renAV, renAVs]
    · have e1 : fwrap .i64 (fwrap .i64 hi - fwrap .i64 lo) = hi - lo := by
        rw [fwrap64 (n := hi) (by omega) (by omega), fwrap64 (n := lo) (by omega) (by omega), fwrap64 (by omega) (by omega)]
      rw [e1]
      refine condI (fun h2 => ?_) (fun h2 => ?_) <;> conv => whnf
      · refine Run.mono (fun o P h => ?_) (fail_run m _ _)
        obtain ⟨rfl, rfl⟩ := h
        conv => whnf
        refine ⟨?_, left_same⟩
        simp_all [unitO, wrAV, renAV, renAVs]
      · refine condI (fun h3 => ?_) (fun h3 => ?_) <;> conv => whnf
        · refine Run.mono (fun o P h => ?_) (fail_run m _ _)
          obtain ⟨rfl, rfl⟩ := h
          conv => whnf
          refine ⟨?_, left_same⟩
          have : 2 ≤ s.loops.length := by simp at h3; omega
          simp_all [unitO, wrAV, renAV, renAVs]
        · have hl2 : s.loops.length + 1 ≤ 2 := by simp at h3; omega
          have hif : (if nameB name = false then (.error (0, pl) : UR) else if (none : Option Th).isSome = true then .error (1, pl) else if 16 ≤ hi - lo ∨ 2 ≤ s.loops.length then .error (3, pl) else r) = r := by
            rw [if_neg (by simpa using h1), if_neg (by simp), if_neg (by simp at h2; omega)]
          rw [hif]
          refine putKeyK_kv (t := ⟨2, 0, false, true⟩) ?_
          conv => whnf
          rw [fwrap64 (n := (s.loops.length : Int) + 1) (by omega) (by omega)]
          refine Run.mono (fun o P h => ?_) (hblock hl2)
          obtain ⟨rfl, i', l', kv', rfl, hkeep⟩ := h
          cases r with
          | error w =>
            conv => whnf
            exact ⟨rfl, _, _, _, rfl, fun h => by cases h⟩
          | ok u =>
            obtain ⟨rfl, rfl, rfl⟩ := hkeep rfl
            conv => whnf
            refine dropKeyK_kv ?_
            rw [hdrop rfl]
            conv => whnf
            rw [fwrap64 (by omega) (by omega)]
            refine ⟨rfl, _, _, _, rfl, fun _ => ⟨rfl, ?_, rfl⟩⟩
            omega
theorem stsT_step (s : Sc) {l : List St} {i : Nat} (h : i < l.length) : stsT (l.drop i) s = match stT l[i] s with
    | .error w => .error w
    | .ok _ => stsT (l.drop (i + 1)) s := by
  rw [List.drop_eq_getElem_cons h]; rfl
theorem block_step (m : Int) (l : List St) (hlen : l.length < 2097152) (hl : StsOk l) (ih : ∀ kind pl name index e lo hi thn els, St.mk kind pl name index e lo hi thn els ∈ l → BlockRun m thn ∧ BlockRun m els) : BlockRun m l := by
  intro s kv hk h2
  have heq := stRows_eq l
  refine run_of_body (M := symMd _ _) mixed (FF_ok (subG m) 25 fi25 (by kernel_rfl)) ?_
  conv => whnf
  refine LoopP.inv (fun k ρ H => ∃ j : Nat, j + k = l.length ∧ stsT l s = stsT (l.drop j) s ∧
     ρ = .cons 0 (.ref 0 0) (.cons 6 (.imm 15 (stRows l)) (.cons 7 (.v (.int .i64 (stRows l).length)) (.cons 8 (.v (.int .i64 j)) .nil))) ∧
     H = [.box [.mp 1, .v (.bool s.init), .v (.int .i64 s.loops.length)], .map (kvAV kv)]) l.length ?_ ?_
  · conv => whnf
    exact ⟨rfl, 0, by simp, rfl, rfl, rfl⟩
  · rintro k ρ H ⟨j, hj, hsts, rfl, rfl⟩
    conv => whnf
    refine condI (fun h => ?_) (fun h => ?_) <;> conv => whnf
    · have hlt : j < l.length := by simpa [heq] using h
      have hrow : (stRows l)[((j : Int)).toNat]? = some (l[j]).row := by rw [heq]; exact rows_get hlt
      have hok := hl.mem _ (List.getElem_mem hlt)
      have hmem := List.getElem_mem hlt
      have step := stsT_step s hlt
      refine elemP_mk hrow ?_
      generalize l[j] = a at *
      rcases a with ⟨kind, pl, name, index, e, lo, hi, thn, els⟩
      rw [St.Ok] at hok
      have ihj := ih _ _ _ _ _ _ _ _ _ hmem
      have hassign := assign_run m s kv s.loops.length hk kind pl name index e lo hi thn els hok.2.2.2.2.2.1 hok.2.2.2.2.1
      have hloop := loopC_run m s kv hk h2 kind pl name index e lo hi thn els hok.2.2.1 hok.2.2.2.2.2.2.1 hok.2.2.2.2.2.2.2.1 ihj.1
      have hmust := must_run m s kv s.loops.length hk e hok.2.2.2.2.2.1 1
      have hthn := ihj.1 s kv hk h2
      have hels := ihj.2 s kv hk h2
      rw [stT] at step
      rcases e with ⟨aop, apl, ab, ai, af, an, aa⟩
      conv => whnf
      have fin : stsT l s = stsT (l.drop (j + 1)) s → (([] : Dx) = [] ∧ ∃ j_1, j_1 < k ∧ ∃ j_2 : Nat, j_2 + j_1 = l.length ∧ stsT l s = stsT (l.drop j_2) s ∧
          Regs.cons 0 (.ref 0 0) (.cons 6 (.imm 15 (stRows l)) (.cons 7 (.v (.int .i64 (stRows l).length)) (.cons 8 (.v (.int .i64 (fwrap .i64 ((j : Int) + 1)))) .nil))) = .cons 0 (.ref 0 0) (.cons 6 (.imm 15 (stRows l)) (.cons 7 (.v (.int .i64 (stRows l).length)) (.cons 8 (.v (.int .i64 j_2)) .nil))) ∧
          [AObj.box [.mp 1, .v (.bool s.init), .v (.int .i64 s.loops.length)], .map (kvAV kv)] = [AObj.box [.mp 1, .v (.bool s.init), .v (.int .i64 s.loops.length)], .map (kvAV kv)]) := by
        intro h
        exact ⟨rfl, k - 1, by omega, j + 1, by omega, h, by rw [fwrap64 (by omega) (by omega)]; rfl, rfl⟩
      refine condI (fun h1 => ?_) (fun h1 => ?_) <;> conv => whnf
      · have h1 : kind = 1 := by simpa using h1
        rw [if_pos h1] at step
        refine Run.mono (fun o P h => ?_) hassign
        obtain ⟨rfl, rfl⟩ := h
        generalize assignT s pl name index _ = r at *
        cases r with
        | error w =>
          conv => whnf
          rw [hsts, step]
          exact ⟨rfl, _, _, _, rfl, fun h => by cases h⟩
        | ok u =>
          conv => whnf
          exact fin (by rw [hsts, step])
      · have h1 : ¬ kind = 1 := by simpa using h1
        rw [if_neg h1] at step
        refine condI (fun h3 => ?_) (fun h3 => ?_) <;> conv => whnf
        · have h3 : kind = 2 := by simpa using h3
          rw [if_pos h3] at step
          refine Run.mono (fun o P h => ?_) hmust
          obtain ⟨rfl, rfl⟩ := h
          generalize mustT s _ 1 = r at *
          cases r with
          | error w =>
            conv => whnf
            rw [hsts, step]
            exact ⟨rfl, _, _, _, rfl, fun h => by cases h⟩
          | ok u =>
            conv => whnf
            refine Run.mono (fun o P h => ?_) hthn
            obtain ⟨rfl, i', l', kv', rfl, hkeep⟩ := h
            generalize stsT thn s = r at *
            cases r with
            | error w =>
              conv => whnf
              rw [hsts, step]
              exact ⟨rfl, _, _, _, rfl, fun h => by cases h⟩
            | ok u =>
              obtain ⟨rfl, rfl, rfl⟩ := hkeep rfl
              conv => whnf
              refine Run.mono (fun o P h => ?_) hels
              obtain ⟨rfl, i', l', kv', rfl, hkeep⟩ := h
              generalize stsT els s = r at *
              cases r with
              | error w =>
                conv => whnf
                rw [hsts, step]
                exact ⟨rfl, _, _, _, rfl, fun h => by cases h⟩
              | ok u =>
                obtain ⟨rfl, rfl, rfl⟩ := hkeep rfl
                conv => whnf
                exact fin (by rw [hsts, step])
        · have h3 : ¬ kind = 2 := by simpa using h3
          rw [if_neg h3] at step
          refine condI (fun h4 => ?_) (fun h4 => ?_) <;> conv => whnf
          · have h4 : kind = 3 := by simpa using h4
            rw [if_pos h4] at step
            refine Run.mono (fun o P h => ?_) hloop
            obtain ⟨rfl, i', l', kv', rfl, hkeep⟩ := h
            generalize (if nameB name = false then (.error (0, pl) : UR) else _) = r at *
            cases r with
            | error w =>
              conv => whnf
              rw [hsts, step]
              exact ⟨rfl, _, _, _, rfl, fun h => by cases h⟩
            | ok u =>
              obtain ⟨rfl, rfl, rfl⟩ := hkeep rfl
              conv => whnf
              exact fin (by rw [hsts, step])
          · have h4 : ¬ kind = 3 := by simpa using h4
            rw [if_neg h4] at step
            refine Run.mono (fun o P h => ?_) (fail_run m _ _)
            obtain ⟨rfl, rfl⟩ := h
            conv => whnf
            rw [hsts, step]
            exact ⟨rfl, _, _, _, rfl, fun h => by cases h⟩
    · have hge : l.length ≤ j := by simp [heq] at h; omega
      rw [List.drop_eq_nil_of_le hge] at hsts
      rw [hsts]
      exact ⟨rfl, _, _, _, rfl, fun _ => ⟨rfl, rfl, rfl⟩⟩
theorem block_run' (m : Int) : ∀ (n : Nat) (l : List St), SizeOf.sizeOf l ≤ n → l.length < 2097152 → StsOk l → BlockRun m l
  | 0, l, hn, _, _ => by cases l <;> simp at hn
  | n + 1, l, hn, h1, h2 => block_step m l h1 h2 fun kind pl name index e lo hi thn els hm => by
    have hok := h2.mem _ hm
    rw [St.Ok] at hok
    have hs := List.sizeOf_lt_of_mem hm
    simp only [St.mk.sizeOf_spec] at hs
    exact ⟨block_run' m n thn (by omega) hok.2.2.2.2.2.2.2.2.1 hok.2.2.2.2.2.2.2.2.2.1, block_run' m n els (by omega) hok.2.2.2.2.2.2.2.2.2.2.1 hok.2.2.2.2.2.2.2.2.2.2.2⟩
theorem block_run (m : Int) (l : List St) (h1 : l.length < 2097152) (h2 : StsOk l) : BlockRun m l := block_run' m _ l (Nat.le_refl _) h1 h2
end Am
end Go.Proofs.YtbdnfkmcfencdaaGreatDoor
/- Law 12: check.Check. No condition. -/
namespace Go.Proofs.YtbdnfkmcfencdaaGreatDoor
namespace Am
open Go
set_option maxRecDepth 100000
set_option maxHeartbeats 1000000

/-- Declarations, behind some others, which have so many cells. -/
def declsT : List De → List De → Int → UR
  | [], _, _ => .ok ()
  | d :: l, a, c => match declC (lookD d.name a).isSome d with
    | .error w => .error w
    | .ok n => if 96 < c + n then .error (3, d.pl) else declsT l (a ++ [d]) (c + n)
/-- A program. -/
def checkT (p : Pr) : UR :=
  if p.ticks < 1 ∨ 2147483647 < p.ticks then .error (3, 0)
  else match declsT p.decls [] 0 with
    | .error w => .error w
    | .ok _ => match stsT p.init ⟨p.decls, [], true⟩ with
      | .error w => .error w
      | .ok _ => stsT p.step ⟨p.decls, [], false⟩
theorem declC_ok {t : Bool} {d : De} {n : Int} (h : declC t d = .ok n) : t = false ∧ n = max d.len 1 ∧ 1 ≤ n ∧ n ≤ 16 ∧ d.th = ⟨d.type, d.len, d.input, false⟩ := by
  unfold declC at h
  split at h
  · cases h
  · split at h
    · cases h
    · split at h
      · cases h
      · split at h
        · cases h
        · split at h
          · cases h
          · rename_i h1 h2 h3 h4 h5
            cases h
            have hlen : 0 ≤ d.len ∧ d.len ≤ 16 := by
              unfold badD at h4
              split at h4
              · simp at h4; omega
              · simp at h4; omega
            refine ⟨by simpa using h2, rfl, by omega, by omega, ?_⟩
            simp only [De.th, Th.mk.injEq, true_and]
            exact ⟨by omega, by simp; omega⟩
theorem names_decl {kv : KV} {a : List De} {d : De} {n : Int} (hk : ∀ n, lookK n kv = (lookD n a).map De.th) (h : declC (lookD d.name a).isSome d = .ok n) :
    ∀ n, lookK n (putT d.name ⟨d.type, d.len, d.input, false⟩ kv) = (lookD n (a ++ [d])).map De.th := by
  obtain ⟨h1, _, _, _, h2⟩ := declC_ok h
  intro n
  rw [lookK_put, lookD_append, hk n]
  by_cases e : n = d.name
  · subst e
    rw [if_pos rfl]
    cases hl : lookD d.name a with
    | some d' => rw [hl] at h1; cases h1
    | none => simp only [lookD, if_true, Option.map_some, h2]
  · rw [if_neg e]
    cases hl : lookD n a with
    | some d' => rfl
    | none => simp only [lookD]; rw [if_neg (fun h => e h.symm)]
theorem check1_run (m : Int) (p : Pr) (hp : p.Ok) : Run Tryz.prog (GGm m) 22 [.ref 0 0] [.box p.cells] fun o H => o = unitO (checkT p) ∧ H = [.box p.cells] := by
  have hinit := block_run m p.init hp.inits hp.init
  have hstep := block_run m p.step hp.steps hp.step
  have hds := hp.decls
  have hlen := hp.many
  rcases p with ⟨ticks, decls, init, step⟩
  dsimp only at hinit hstep hds hlen
  unfold checkT Pr.cells
  dsimp only
  refine run_of_body (M := symMd _ _) mixed (FF_ok (subG m) 22 fi22 (by kernel_rfl)) ?_
  conv => whnf
  refine condI (fun h1 => ?_) (fun h1 => ?_) <;> conv => whnf
  · refine Run.mono (fun o P h => ?_) (fail_run m _ _)
    obtain ⟨rfl, rfl⟩ := h
    conv => whnf
    refine ⟨?_, rfl⟩
    rw [if_pos (.inl (by simpa using h1))]
    rfl
  refine condI (fun h2 => ?_) (fun h2 => ?_) <;> conv => whnf
  · refine Run.mono (fun o P h => ?_) (fail_run m _ _)
    obtain ⟨rfl, rfl⟩ := h
    conv => whnf
    refine ⟨?_, rfl⟩
    rw [if_pos (.inr (by simpa using h2))]
    rfl
  rw [if_neg (by simp at h1 h2; omega)]
  refine LoopP.inv (fun k ρ H => ∃ (j : Nat) (c : Int) (kv : KV), j + k = decls.length ∧ (0 ≤ c ∧ c ≤ 96) ∧ (∀ n, lookK n kv = (lookD n (decls.take j)).map De.th) ∧
      declsT decls [] 0 = declsT (decls.drop j) (decls.take j) c ∧
      ρ = .cons 0 (.ref 0 0) (.cons 1 (.ref 1 0) (.cons 2 (.v (.int .i64 c)) (.cons 18 (.imm 20 (deRows decls)) (.cons 19 (.v (.int .i64 (deRows decls).length)) (.cons 20 (.v (.int .i64 j)) .nil))))) ∧
      H = [.box [.v (.int .i64 ticks), .imm 20 (deRows decls), .imm 15 (stRows init), .imm 15 (stRows step)], .box [.mp 2, .v (.bool true), .v (.int .i64 0)], .map (kvAV kv)]) decls.length ?_ ?_
  · conv => whnf
    exact ⟨rfl, 0, 0, [], by simp, by omega, fun n => rfl, rfl, rfl, rfl⟩
  · rintro k ρ H ⟨j, c, kv, hj, hc, hk, hds2, rfl, rfl⟩
    conv => whnf
    refine condI (fun h => ?_) (fun h => ?_) <;> conv => whnf
    · have hlt : j < decls.length := by simpa [deRows] using h
      refine elemP_mk (rows_get hlt) ?_
      have htake : decls.take (j + 1) = decls.take j ++ [decls[j]] := List.take_succ_eq_append_getElem hlt
      have hstep2 : declsT (decls.drop j) (decls.take j) c = match declC (lookD (decls[j]).name (decls.take j)).isSome decls[j] with
          | .error w => .error w
          | .ok n => if 96 < c + n then .error (3, (decls[j]).pl) else declsT (decls.drop (j + 1)) (decls.take (j + 1)) (c + n) := by
        rw [List.drop_eq_getElem_cons hlt, htake]; rfl
      have hd := hds _ (List.getElem_mem hlt)
      generalize decls[j] = d at *
      have hdecl := decl_run m kv true 0 d hd
      have hsome : (lookK d.name kv).isSome = (lookD d.name (decls.take j)).isSome := by rw [hk d.name]; simp
      rw [hsome] at hdecl
      have hnames := fun n => names_decl (n := n) hk (d := d)
      rcases d with ⟨dpl, dinput, dname, dtype, dlen, drange, ⟨lop, lpl, lb, li, lf, ln, la⟩, ⟨hop, hpl, hb, hi, hf, hn, ha⟩⟩
      conv => whnf
      refine Run.mono (fun o P h => ?_) hdecl
      obtain ⟨rfl, rfl⟩ := h
      generalize hr : declC _ _ = r at *
      cases r with
      | error w =>
        conv => whnf
        rw [hds2, hstep2]
        exact ⟨rfl, rfl⟩
      | ok n =>
        obtain ⟨_, _, hn1, hn2, _⟩ := declC_ok hr
        conv => whnf
        rw [fwrap64 (n := c + n) (by omega) (by omega)]
        refine condI (fun h => ?_) (fun h => ?_) <;> conv => whnf
        · have h : 96 < c + n := by simpa using h
          refine Run.mono (fun o P h => ?_) (fail_run m _ _)
          obtain ⟨rfl, rfl⟩ := h
          conv => whnf
          rw [hds2, hstep2]
          dsimp only
          rw [if_pos h]
          exact ⟨rfl, rfl⟩
        · have h : ¬ 96 < c + n := by simpa using h
          refine ⟨rfl, k - 1, by omega, j + 1, c + n, _, by omega, by omega, ?_, ?_, by rw [fwrap64 (by omega) (by omega)]; rfl, rfl⟩
          · rw [htake]
            exact hnames n rfl
          · rw [hds2, hstep2]
            dsimp only
            rw [if_neg h]
    · have hge : decls.length ≤ j := by simpa [deRows] using h
      rw [List.take_of_length_le hge] at hk hds2
      rw [List.drop_eq_nil_of_le hge] at hds2
      rw [hds2]
      have h1 := hinit ⟨decls, [], true⟩ kv (fun n => by rw [hk n]; rfl) (by decide : 0 ≤ 2)
      have h2 := hstep ⟨decls, [], false⟩ kv (fun n => by rw [hk n]; rfl) (by decide : 0 ≤ 2)
      refine Run.mono (fun o P h => ?_) h1
      obtain ⟨rfl, i', l', kv', rfl, hkeep⟩ := h
      generalize stsT init _ = r at *
      cases r with
      | error w =>
        conv => whnf
        exact ⟨rfl, rfl⟩
      | ok u =>
        obtain ⟨rfl, rfl, rfl⟩ := hkeep rfl
        conv => whnf
        refine Run.mono (fun o P h => ?_) h2
        obtain ⟨rfl, i', l', kv', rfl, hkeep⟩ := h
        generalize hy : stsT step _ = r at *
        cases r with
        | error w =>
          conv => whnf
          exact ⟨by simp only [declsT]; rfl, rfl⟩
        | ok u =>
          conv => whnf
          exact ⟨by simp only [declsT]; rfl, rfl⟩
/-- What a check answers: an error's number, and its place. -/
def errN : UR → Int
  | .ok _ => 0
  | .error w => 120 + (w.1 : Int)
def errAt : UR → Int
  | .ok _ => 0
  | .error w => w.2
theorem run22_run (m : Int) (p : Pr) (hp : p.Ok) : Run Tryz.prog (GGm m) 21 [.fn 22 [.ref 0 0]] [.box p.cells] fun o H => o = .ret (.tup [.v (.int .i64 (errN (checkT p))), .v (.int .i64 (errAt (checkT p)))]) ∧ H = [.box p.cells] := by
  have h := check1_run m p hp
  unfold Pr.cells at *
  refine run_of_body (M := symMd _ _) mixed (FF_ok (subG m) 21 fi21 (by kernel_rfl)) ?_
  conv => whnf
  refine Run.mono (fun o P h => ?_) h
  generalize checkT p = tr at *
  cases tr <;> obtain ⟨rfl, rfl⟩ := h <;> (conv => whnf)
  · refine RunD.mono (fun P c h => ?_) (recover1_run m _)
    obtain ⟨rfl, rfl⟩ := h
    conv => whnf
    exact ⟨rfl, rfl⟩
  · refine RunD.mono (fun P c h => ?_) (recover0_run m)
    obtain ⟨rfl, rfl⟩ := h
    conv => whnf
    exact ⟨rfl, rfl⟩
/-- check.Check. -/
theorem checkP_run (m : Int) (p : Pr) (hp : p.Ok) : Run Tryz.prog (GGm m) 10 [p.av] [] fun o H => o = .ret (.tup [.v (.int .i64 (errN (checkT p))), .v (.int .i64 (errAt (checkT p)))]) ∧ H = [] := by
  have h := run22_run m p hp
  unfold Pr.cells at h
  refine run_of_body (M := symMd _ _) mixed (FF_ok (subG m) 10 fi10 (by kernel_rfl)) ?_
  conv => whnf
  refine Run.mono (fun o P h => ?_) h
  obtain ⟨rfl, rfl⟩ := h
  conv => whnf
  exact ⟨rfl, rfl⟩
end Am
end Go.Proofs.YtbdnfkmcfencdaaGreatDoor
