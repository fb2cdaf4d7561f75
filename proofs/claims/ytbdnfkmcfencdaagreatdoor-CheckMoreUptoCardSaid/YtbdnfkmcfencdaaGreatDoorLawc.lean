/- Law 12: programs with other names. No condition. -/
import Derived.Test.YtbdnfkmcfencdaaGreatDoorLawb
namespace Go.Proofs.YtbdnfkmcfencdaaGreatDoor
namespace Am
open Go
set_option maxRecDepth 100000
set_option maxHeartbeats 1000000

/-- A name with a letter more. -/
def ren (n : ByteArray) : ByteArray := n ++ ⟨#[95]⟩
theorem ren_size (n : ByteArray) : (ren n).size = n.size + 1 := by
  unfold ren; rw [ByteArray.size_append]; rfl
mutual
def renX : Xp → Xp
  | .mk op pl b i f name args => .mk op pl b i f (if op = 4 then ren name else name) (renXs args)
def renXs : List Xp → List Xp
  | [] => []
  | e :: l => renX e :: renXs l
end
theorem renXs_eq : ∀ l : List Xp, renXs l = l.map renX
  | [] => rfl
  | e :: l => by simp [renXs, renXs_eq l]
theorem renXs_snoc (l : List Xp) (a : Xp) : exRows (renXs (l ++ [a])) = exRows (renXs l) ++ [(renX a).row] := by
  rw [renXs_eq, exRows_eq, renXs_eq, exRows_eq, List.map_append, List.map_append]; rfl
mutual
def renS : St → St
  | .mk kind pl name index e lo hi thn els => .mk kind pl (ren name) (renXs index) (renX e) lo hi (renSs thn) (renSs els)
def renSs : List St → List St
  | [] => []
  | s :: l => renS s :: renSs l
end
theorem renSs_eq : ∀ l : List St, renSs l = l.map renS
  | [] => rfl
  | e :: l => by simp [renSs, renSs_eq l]
theorem renSs_snoc (l : List St) (a : St) : stRows (renSs (l ++ [a])) = stRows (renSs l) ++ [(renS a).row] := by
  rw [renSs_eq, stRows_eq, renSs_eq, stRows_eq, List.map_append, List.map_append]; rfl
theorem called_step (m : Int) (op : Int) (pl : Int) (b : Bool) (i : Int) (f : Nat) (name : ByteArray) (args : List Xp) (hlen : args.length < 2097152) (hname : name.size < 2097152)
    (ih : ∀ e ∈ args, Run Tryz.prog (GGm m) 29 [.agg e.row] [] fun o H => o = .ret (.agg (renX e).row) ∧ H = []) :
    Run Tryz.prog (GGm m) 29 [.agg (Xp.mk op pl b i f name args).row] [] fun o H => o = .ret (.agg (renX (Xp.mk op pl b i f name args)).row) ∧ H = [] := by
  have heq := exRows_eq args
  refine Run.subRet ?_
  simp only [renX]
  refine run_of_body (M := symMd _ _) mixed (FF_ok (subG m) 29 fi29 (by kernel_rfl)) ?_
  conv => whnf
  refine condI (fun hop => ?_) (fun hop => ?_) <;> conv => whnf
  · have hop : op = 4 := by simpa using hop
    rw [if_pos hop]
    refine needI (show name.size + ByteArray.size ⟨#[95]⟩ < 9223372036854775808 by
      have : ByteArray.size ⟨#[95]⟩ = 1 := rfl
      rw [this]; omega) ?_
    conv => whnf
    refine LoopP.inv (fun k ρ H => ∃ j : Nat, j + k = args.length ∧
        ((j = 0 ∧ ρ = .cons 1 (.ref 0 0) (.cons 2 (.ref 1 0) (.cons 3 (.v (.slice none 0 0)) (.cons 4 (.v (.int .i64 j)) .nil))) ∧ H = [.box [.v (.int .u8 op), .v (.int .i64 pl), .v (.bool b), .v (.int .i32 i), .v (.int .u64 f), .v (.string (ren name)), .imm 7 (exRows args)], .box [.v (.int .u8 0), .v (.int .i64 0), .v (.bool false), .v (.int .i32 0), .v (.int .u64 0), .v (.string ⟨#[]⟩), .v (.slice none 0 0)]]) ∨
         (0 < j ∧ ρ = .cons 1 (.ref 0 0) (.cons 2 (.ref 1 0) (.cons 3 (.ar 2) (.cons 4 (.v (.int .i64 j)) .nil))) ∧ H = [.box [.v (.int .u8 op), .v (.int .i64 pl), .v (.bool b), .v (.int .i32 i), .v (.int .u64 f), .v (.string (ren name)), .imm 7 (exRows args)], .box [.v (.int .u8 0), .v (.int .i64 0), .v (.bool false), .v (.int .i32 0), .v (.int .u64 0), .v (.string ⟨#[]⟩), .v (.slice none 0 0)], .arr 7 (exRows (renXs (args.take j)))]))) args.length ?_ ?_
    · conv => whnf
      exact ⟨rfl, 0, by simp, .inl ⟨rfl, rfl, rfl⟩⟩
    · rintro k ρ H ⟨j, hj, hcase⟩
      rcases hcase with ⟨hj0, rfl, rfl⟩ | ⟨hj0, rfl, rfl⟩
      · conv => whnf
        refine condI (fun h => ?_) (fun h => ?_) <;> conv => whnf
        · have hlt : j < args.length := by simpa [heq] using h
          have ihj := ih _ (List.getElem_mem hlt)
          have htake : args.take (j + 1) = args.take j ++ [args[j]] := List.take_succ_eq_append_getElem hlt
          refine elemP_mk (by rw [heq]; exact rows_get hlt) ?_
          generalize args[j] = a at *
          rcases a with ⟨aop, apl, ab, ai, af, an, aa⟩
          conv => whnf
          refine Run.mono (fun o P h => ?_) ihj
          obtain ⟨rfl, rfl⟩ := h
          conv => whnf
          subst hj0
          refine ⟨rfl, k - 1, by omega, 1, by omega, .inr ⟨by omega, rfl, ?_⟩⟩
          rw [htake, renXs_snoc]
          rfl
        · have hge : args.length = 0 := by simp [heq] at h; omega
          obtain rfl := List.length_eq_zero_iff.1 hge
          exact ⟨⟨_, rfl, sub_agg (sub_same (sub_same (sub_same (sub_same (sub_same (sub_same (sub_cons (sub_nil 7) sub_end)))))))⟩, rfl⟩
      · conv => whnf
        refine condI (fun h => ?_) (fun h => ?_) <;> conv => whnf
        · have hlt : j < args.length := by simpa [heq] using h
          have ihj := ih _ (List.getElem_mem hlt)
          have htake : args.take (j + 1) = args.take j ++ [args[j]] := List.take_succ_eq_append_getElem hlt
          refine elemP_mk (by rw [heq]; exact rows_get hlt) ?_
          generalize args[j] = a at *
          rcases a with ⟨aop, apl, ab, ai, af, an, aa⟩
          conv => whnf
          refine Run.mono (fun o P h => ?_) ihj
          obtain ⟨rfl, rfl⟩ := h
          conv => whnf
          have hl : (exRows (renXs (args.take j))).length = j := by rw [exRows_eq, renXs_eq]; simp; omega
          refine needI (show ((exRows (renXs (args.take j))).length + 1) * (72 + 1) ≤ roomy by rw [hl]; unfold roomy; omega) ?_
          conv => whnf
          refine ⟨rfl, k - 1, by omega, j + 1, by omega, .inr ⟨by omega, by rw [fwrap64 (by omega) (by omega)]; rfl, ?_⟩⟩
          rw [htake, renXs_snoc]
          rfl
        · have hge : args.length ≤ j := by simp [heq] at h; omega
          rw [List.take_of_length_le hge]
          exact ⟨⟨_, rfl, AV.Sub.refl _⟩, rfl⟩
  · have hop : ¬ op = 4 := by simpa using hop
    rw [if_neg hop]
    refine LoopP.inv (fun k ρ H => ∃ j : Nat, j + k = args.length ∧
        ((j = 0 ∧ ρ = .cons 1 (.ref 0 0) (.cons 2 (.ref 1 0) (.cons 3 (.v (.slice none 0 0)) (.cons 4 (.v (.int .i64 j)) .nil))) ∧ H = [.box [.v (.int .u8 op), .v (.int .i64 pl), .v (.bool b), .v (.int .i32 i), .v (.int .u64 f), .v (.string name), .imm 7 (exRows args)], .box [.v (.int .u8 0), .v (.int .i64 0), .v (.bool false), .v (.int .i32 0), .v (.int .u64 0), .v (.string ⟨#[]⟩), .v (.slice none 0 0)]]) ∨
         (0 < j ∧ ρ = .cons 1 (.ref 0 0) (.cons 2 (.ref 1 0) (.cons 3 (.ar 2) (.cons 4 (.v (.int .i64 j)) .nil))) ∧ H = [.box [.v (.int .u8 op), .v (.int .i64 pl), .v (.bool b), .v (.int .i32 i), .v (.int .u64 f), .v (.string name), .imm 7 (exRows args)], .box [.v (.int .u8 0), .v (.int .i64 0), .v (.bool false), .v (.int .i32 0), .v (.int .u64 0), .v (.string ⟨#[]⟩), .v (.slice none 0 0)], .arr 7 (exRows (renXs (args.take j)))]))) args.length ?_ ?_
    · conv => whnf
      exact ⟨rfl, 0, by simp, .inl ⟨rfl, rfl, rfl⟩⟩
    · rintro k ρ H ⟨j, hj, hcase⟩
      rcases hcase with ⟨hj0, rfl, rfl⟩ | ⟨hj0, rfl, rfl⟩
      · conv => whnf
        refine condI (fun h => ?_) (fun h => ?_) <;> conv => whnf
        · have hlt : j < args.length := by simpa [heq] using h
          have ihj := ih _ (List.getElem_mem hlt)
          have htake : args.take (j + 1) = args.take j ++ [args[j]] := List.take_succ_eq_append_getElem hlt
          refine elemP_mk (by rw [heq]; exact rows_get hlt) ?_
          generalize args[j] = a at *
          rcases a with ⟨aop, apl, ab, ai, af, an, aa⟩
          conv => whnf
          refine Run.mono (fun o P h => ?_) ihj
          obtain ⟨rfl, rfl⟩ := h
          conv => whnf
          subst hj0
          refine ⟨rfl, k - 1, by omega, 1, by omega, .inr ⟨by omega, rfl, ?_⟩⟩
          rw [htake, renXs_snoc]
          rfl
        · have hge : args.length = 0 := by simp [heq] at h; omega
          obtain rfl := List.length_eq_zero_iff.1 hge
          exact ⟨⟨_, rfl, sub_agg (sub_same (sub_same (sub_same (sub_same (sub_same (sub_same (sub_cons (sub_nil 7) sub_end)))))))⟩, rfl⟩
      · conv => whnf
        refine condI (fun h => ?_) (fun h => ?_) <;> conv => whnf
        · have hlt : j < args.length := by simpa [heq] using h
          have ihj := ih _ (List.getElem_mem hlt)
          have htake : args.take (j + 1) = args.take j ++ [args[j]] := List.take_succ_eq_append_getElem hlt
          refine elemP_mk (by rw [heq]; exact rows_get hlt) ?_
          generalize args[j] = a at *
          rcases a with ⟨aop, apl, ab, ai, af, an, aa⟩
          conv => whnf
          refine Run.mono (fun o P h => ?_) ihj
          obtain ⟨rfl, rfl⟩ := h
          conv => whnf
          have hl : (exRows (renXs (args.take j))).length = j := by rw [exRows_eq, renXs_eq]; simp; omega
          refine needI (show ((exRows (renXs (args.take j))).length + 1) * (72 + 1) ≤ roomy by rw [hl]; unfold roomy; omega) ?_
          conv => whnf
          refine ⟨rfl, k - 1, by omega, j + 1, by omega, .inr ⟨by omega, by rw [fwrap64 (by omega) (by omega)]; rfl, ?_⟩⟩
          rw [htake, renXs_snoc]
          rfl
        · have hge : args.length ≤ j := by simp [heq] at h; omega
          rw [List.take_of_length_le hge]
          exact ⟨⟨_, rfl, AV.Sub.refl _⟩, rfl⟩
theorem called_run (m : Int) : ∀ e : Xp, e.Ok → Run Tryz.prog (GGm m) 29 [.agg e.row] [] fun o H => o = .ret (.agg (renX e).row) ∧ H = []
  | .mk op pl b i f name args, h => by
    rw [Xp.Ok] at h
    exact called_step m op pl b i f name args h.2.2.2.2.2.1 h.2.2.2.2.1 fun a ha => called_run m a (h.2.2.2.2.2.2.mem a ha)
termination_by e => SizeOf.sizeOf e
decreasing_by
  have := List.sizeOf_lt_of_mem ha
  simp_wf
  omega
def RenRun (m : Int) (l : List St) : Prop := Run Tryz.prog (GGm m) 13 [.imm 15 (stRows l)] [] fun o H => o = .ret (.imm 15 (stRows (renSs l))) ∧ H = []
theorem renB_step (m : Int) (l : List St) (hlen : l.length < 2097152) (hl : StsOk l) (ih : ∀ kind pl name index e lo hi thn els, St.mk kind pl name index e lo hi thn els ∈ l → RenRun m thn ∧ RenRun m els) : RenRun m l := by
  have heq := stRows_eq l
  refine Run.subRet ?_
  refine run_of_body (M := symMd _ _) mixed (FF_ok (subG m) 13 fi13 (by kernel_rfl)) ?_
  conv => whnf
  refine LoopP.inv (fun k ρ H => ∃ j : Nat, j + k = l.length ∧
      ((j = 0 ∧ ρ = .cons 0 (.imm 15 (stRows l)) (.cons 3 (.v (.slice none 0 0)) (.cons 4 (.v (.int .i64 j)) .nil)) ∧ H = []) ∨
       (0 < j ∧ ρ = .cons 0 (.imm 15 (stRows l)) (.cons 3 (.ar 0) (.cons 4 (.v (.int .i64 j)) .nil)) ∧ ∃ rows, SubR rows (stRows (renSs (l.take j))) ∧ H = [.arr 15 rows]))) l.length ?_ ?_
  · conv => whnf
    exact ⟨rfl, 0, by simp, .inl ⟨rfl, rfl, rfl⟩⟩
  · rintro k ρ H ⟨j, hj, hcase⟩
    rcases hcase with ⟨hj0, rfl, rfl⟩ | ⟨hj0, rfl, rows, hrows, rfl⟩
    · conv => whnf
      refine condI (fun h => ?_) (fun h => ?_) <;> conv => whnf
      · have hlt : j < l.length := by simpa [heq] using h
        have hrow : (stRows l)[((j : Int)).toNat]? = some (l[j]).row := by rw [heq]; exact rows_get hlt
        have hok := hl.mem _ (List.getElem_mem hlt)
        have hmem := List.getElem_mem hlt
        have htake : l.take (j + 1) = l.take j ++ [l[j]] := List.take_succ_eq_append_getElem hlt
        refine elemP_mk hrow ?_
        generalize l[j] = a at *
        rcases a with ⟨kind, pl, name, index, e, lo, hi, thn, els⟩
        rw [St.Ok] at hok
        have ihj := ih _ _ _ _ _ _ _ _ _ hmem
        have hme := called_run m e hok.2.2.2.2.2.1
        rcases e with ⟨aop, apl, ab, ai, af, an, aa⟩
        have hen : ∃ en, renX (.mk aop apl ab ai af an aa) = .mk aop apl ab ai af en (renXs aa) := ⟨_, by rw [renX]⟩
        obtain ⟨en, hen⟩ := hen
        rw [hen] at hme
        replace hen : ∀ kind pl name index lo hi thn els, (renS (.mk kind pl name index (.mk aop apl ab ai af an aa) lo hi thn els)).row = (St.mk kind pl (ren name) (renXs index) (.mk aop apl ab ai af en (renXs aa)) lo hi (renSs thn) (renSs els)).row := by
          intros; rw [renS, hen]
        conv => whnf
        refine needI (show name.size + ByteArray.size ⟨#[95]⟩ < 9223372036854775808 by
          have h1 : ByteArray.size ⟨#[95]⟩ = 1 := rfl
          have h3 := hok.2.2.1
          rw [h1]; omega) ?_
        conv => whnf
        refine Run.mono (fun o P h => ?_) hme
        obtain ⟨rfl, rfl⟩ := h
        conv => whnf
        have hix : exRows index = index.map Xp.row := exRows_eq index
        refine LoopP.inv (fun q ρ H => ∃ g : Nat, g + q = index.length ∧
            ((g = 0 ∧ ρ = .cons 0 (.imm 15 (stRows l)) (.cons 3 (.v (.slice none 0 0)) (.cons 4 (.v (.int .i64 j)) (.cons 5 (.ref 0 0) (.cons 6 (.v (.slice none 0 0)) (.cons 7 (.v (.int .i64 g)) .nil))))) ∧ H = [.box [.v (.int .u8 kind), .v (.int .i64 pl), .v (.string (ren name)), .imm 7 (exRows index), .v (.int .u8 aop), .v (.int .i64 apl), .v (.bool ab), .v (.int .i32 ai), .v (.int .u64 af), .v (.string en), .imm 7 (exRows (renXs aa)), .v (.int .i32 lo), .v (.int .i32 hi), .imm 15 (stRows thn), .imm 15 (stRows els)]]) ∨
             (0 < g ∧ ρ = .cons 0 (.imm 15 (stRows l)) (.cons 3 (.v (.slice none 0 0)) (.cons 4 (.v (.int .i64 j)) (.cons 5 (.ref 0 0) (.cons 6 (.ar 1) (.cons 7 (.v (.int .i64 g)) .nil))))) ∧ H = [.box [.v (.int .u8 kind), .v (.int .i64 pl), .v (.string (ren name)), .imm 7 (exRows index), .v (.int .u8 aop), .v (.int .i64 apl), .v (.bool ab), .v (.int .i32 ai), .v (.int .u64 af), .v (.string en), .imm 7 (exRows (renXs aa)), .v (.int .i32 lo), .v (.int .i32 hi), .imm 15 (stRows thn), .imm 15 (stRows els)], .arr 7 (exRows (renXs (index.take g)))]))) index.length ?_ ?_
        · conv => whnf
          exact ⟨rfl, 0, by simp, .inl ⟨rfl, rfl, rfl⟩⟩
        · rintro q ρ H ⟨g, hg, hcase⟩
          rcases hcase with ⟨hg0, rfl, rfl⟩ | ⟨hg0, rfl, rfl⟩
          · conv => whnf
            refine condI (fun h => ?_) (fun h => ?_) <;> conv => whnf
            · have hlt2 : g < index.length := by simpa [hix] using h
              have hmi := called_run m _ (hok.2.2.2.2.1.mem _ (List.getElem_mem hlt2))
              have htake2 : index.take (g + 1) = index.take g ++ [index[g]] := List.take_succ_eq_append_getElem hlt2
              refine elemP_mk (by rw [hix]; exact rows_get hlt2) ?_
              generalize index[g] = c at *
              rcases c with ⟨cop, cpl, cb, ci, cf, cn, ca⟩
              conv => whnf
              refine Run.mono (fun o P h => ?_) hmi
              obtain ⟨rfl, rfl⟩ := h
              conv => whnf
              subst hg0
              refine ⟨rfl, q - 1, by omega, 1, by omega, .inr ⟨by omega, rfl, ?_⟩⟩
              rw [htake2, renXs_snoc]
              rfl
            · have hge : index.length = 0 := by simp [hix] at h; omega
              obtain rfl := List.length_eq_zero_iff.1 hge
              have hnew : SubL [.v (.int .u8 kind), .v (.int .i64 pl), .v (.string (ren name)), .v (.slice none 0 0), .v (.int .u8 aop), .v (.int .i64 apl), .v (.bool ab), .v (.int .i32 ai), .v (.int .u64 af), .v (.string en), .imm 7 (exRows (renXs aa)), .v (.int .i32 lo), .v (.int .i32 hi), .imm 15 (stRows (renSs thn)), .imm 15 (stRows (renSs els))] (renS (.mk kind pl name [] (.mk aop apl ab ai af an aa) lo hi thn els)).row := by
                rw [hen]
                exact sub_same (sub_same (sub_same (sub_cons (sub_nil 7) (SubL.refl _))))
              refine Run.mono (fun o P h => ?_) ihj.1
              obtain ⟨rfl, rfl⟩ := h
              conv => whnf
              refine Run.mono (fun o P h => ?_) ihj.2
              obtain ⟨rfl, rfl⟩ := h
              conv => whnf
              subst hj0
              refine ⟨rfl, k - 1, by omega, 1, by omega, .inr ⟨by omega, rfl, _, ?_, rfl⟩⟩
              rw [htake]
              exact ⟨hnew, trivial⟩
          · conv => whnf
            refine condI (fun h => ?_) (fun h => ?_) <;> conv => whnf
            · have hlt2 : g < index.length := by simpa [hix] using h
              have hmi := called_run m _ (hok.2.2.2.2.1.mem _ (List.getElem_mem hlt2))
              have htake2 : index.take (g + 1) = index.take g ++ [index[g]] := List.take_succ_eq_append_getElem hlt2
              refine elemP_mk (by rw [hix]; exact rows_get hlt2) ?_
              generalize index[g] = c at *
              rcases c with ⟨cop, cpl, cb, ci, cf, cn, ca⟩
              conv => whnf
              refine Run.mono (fun o P h => ?_) hmi
              obtain ⟨rfl, rfl⟩ := h
              conv => whnf
              have hl : (exRows (renXs (index.take g))).length = g := by rw [exRows_eq, renXs_eq]; simp; omega
              refine needI (show ((exRows (renXs (index.take g))).length + 1) * (72 + 1) ≤ roomy by rw [hl]; have := hok.2.2.2.1; unfold roomy; omega) ?_
              conv => whnf
              refine ⟨rfl, q - 1, by omega, g + 1, by omega, .inr ⟨by omega, by rw [fwrap64 (n := (g : Int) + 1) (by have := hok.2.2.2.1; omega) (by have := hok.2.2.2.1; omega)]; rfl, ?_⟩⟩
              rw [htake2, renXs_snoc]
              rfl
            · have hge : index.length ≤ g := by simp [hix] at h; omega
              rw [List.take_of_length_le hge]
              have hnew : SubL [.v (.int .u8 kind), .v (.int .i64 pl), .v (.string (ren name)), .imm 7 (exRows (renXs index)), .v (.int .u8 aop), .v (.int .i64 apl), .v (.bool ab), .v (.int .i32 ai), .v (.int .u64 af), .v (.string en), .imm 7 (exRows (renXs aa)), .v (.int .i32 lo), .v (.int .i32 hi), .imm 15 (stRows (renSs thn)), .imm 15 (stRows (renSs els))] (renS (.mk kind pl name index (.mk aop apl ab ai af an aa) lo hi thn els)).row := by
                rw [hen]
                exact SubL.refl _
              refine Run.mono (fun o P h => ?_) ihj.1
              obtain ⟨rfl, rfl⟩ := h
              conv => whnf
              refine Run.mono (fun o P h => ?_) ihj.2
              obtain ⟨rfl, rfl⟩ := h
              conv => whnf
              subst hj0
              refine ⟨rfl, k - 1, by omega, 1, by omega, .inr ⟨by omega, rfl, _, ?_, rfl⟩⟩
              rw [htake]
              exact ⟨hnew, trivial⟩
      · have hge : l.length = 0 := by simp [heq] at h; omega
        obtain rfl := List.length_eq_zero_iff.1 hge
        exact ⟨⟨_, rfl, sub_nil 15⟩, rfl⟩
    · conv => whnf
      refine condI (fun h => ?_) (fun h => ?_) <;> conv => whnf
      · have hlt : j < l.length := by simpa [heq] using h
        have hrow : (stRows l)[((j : Int)).toNat]? = some (l[j]).row := by rw [heq]; exact rows_get hlt
        have hok := hl.mem _ (List.getElem_mem hlt)
        have hmem := List.getElem_mem hlt
        have htake : l.take (j + 1) = l.take j ++ [l[j]] := List.take_succ_eq_append_getElem hlt
        refine elemP_mk hrow ?_
        generalize l[j] = a at *
        rcases a with ⟨kind, pl, name, index, e, lo, hi, thn, els⟩
        rw [St.Ok] at hok
        have ihj := ih _ _ _ _ _ _ _ _ _ hmem
        have hme := called_run m e hok.2.2.2.2.2.1
        rcases e with ⟨aop, apl, ab, ai, af, an, aa⟩
        have hen : ∃ en, renX (.mk aop apl ab ai af an aa) = .mk aop apl ab ai af en (renXs aa) := ⟨_, by rw [renX]⟩
        obtain ⟨en, hen⟩ := hen
        rw [hen] at hme
        replace hen : ∀ kind pl name index lo hi thn els, (renS (.mk kind pl name index (.mk aop apl ab ai af an aa) lo hi thn els)).row = (St.mk kind pl (ren name) (renXs index) (.mk aop apl ab ai af en (renXs aa)) lo hi (renSs thn) (renSs els)).row := by
          intros; rw [renS, hen]
        conv => whnf
        refine needI (show name.size + ByteArray.size ⟨#[95]⟩ < 9223372036854775808 by
          have h1 : ByteArray.size ⟨#[95]⟩ = 1 := rfl
          have h3 := hok.2.2.1
          rw [h1]; omega) ?_
        conv => whnf
        refine Run.mono (fun o P h => ?_) hme
        obtain ⟨rfl, rfl⟩ := h
        conv => whnf
        have hix : exRows index = index.map Xp.row := exRows_eq index
        refine LoopP.inv (fun q ρ H => ∃ g : Nat, g + q = index.length ∧
            ((g = 0 ∧ ρ = .cons 0 (.imm 15 (stRows l)) (.cons 3 (.ar 0) (.cons 4 (.v (.int .i64 j)) (.cons 5 (.ref 1 0) (.cons 6 (.v (.slice none 0 0)) (.cons 7 (.v (.int .i64 g)) .nil))))) ∧ H = [.arr 15 rows, .box [.v (.int .u8 kind), .v (.int .i64 pl), .v (.string (ren name)), .imm 7 (exRows index), .v (.int .u8 aop), .v (.int .i64 apl), .v (.bool ab), .v (.int .i32 ai), .v (.int .u64 af), .v (.string en), .imm 7 (exRows (renXs aa)), .v (.int .i32 lo), .v (.int .i32 hi), .imm 15 (stRows thn), .imm 15 (stRows els)]]) ∨
             (0 < g ∧ ρ = .cons 0 (.imm 15 (stRows l)) (.cons 3 (.ar 0) (.cons 4 (.v (.int .i64 j)) (.cons 5 (.ref 1 0) (.cons 6 (.ar 2) (.cons 7 (.v (.int .i64 g)) .nil))))) ∧ H = [.arr 15 rows, .box [.v (.int .u8 kind), .v (.int .i64 pl), .v (.string (ren name)), .imm 7 (exRows index), .v (.int .u8 aop), .v (.int .i64 apl), .v (.bool ab), .v (.int .i32 ai), .v (.int .u64 af), .v (.string en), .imm 7 (exRows (renXs aa)), .v (.int .i32 lo), .v (.int .i32 hi), .imm 15 (stRows thn), .imm 15 (stRows els)], .arr 7 (exRows (renXs (index.take g)))]))) index.length ?_ ?_
        · conv => whnf
          exact ⟨rfl, 0, by simp, .inl ⟨rfl, rfl, rfl⟩⟩
        · rintro q ρ H ⟨g, hg, hcase⟩
          rcases hcase with ⟨hg0, rfl, rfl⟩ | ⟨hg0, rfl, rfl⟩
          · conv => whnf
            refine condI (fun h => ?_) (fun h => ?_) <;> conv => whnf
            · have hlt2 : g < index.length := by simpa [hix] using h
              have hmi := called_run m _ (hok.2.2.2.2.1.mem _ (List.getElem_mem hlt2))
              have htake2 : index.take (g + 1) = index.take g ++ [index[g]] := List.take_succ_eq_append_getElem hlt2
              refine elemP_mk (by rw [hix]; exact rows_get hlt2) ?_
              generalize index[g] = c at *
              rcases c with ⟨cop, cpl, cb, ci, cf, cn, ca⟩
              conv => whnf
              refine Run.mono (fun o P h => ?_) hmi
              obtain ⟨rfl, rfl⟩ := h
              conv => whnf
              subst hg0
              refine ⟨rfl, q - 1, by omega, 1, by omega, .inr ⟨by omega, rfl, ?_⟩⟩
              rw [htake2, renXs_snoc]
              rfl
            · have hge : index.length = 0 := by simp [hix] at h; omega
              obtain rfl := List.length_eq_zero_iff.1 hge
              have hnew : SubL [.v (.int .u8 kind), .v (.int .i64 pl), .v (.string (ren name)), .v (.slice none 0 0), .v (.int .u8 aop), .v (.int .i64 apl), .v (.bool ab), .v (.int .i32 ai), .v (.int .u64 af), .v (.string en), .imm 7 (exRows (renXs aa)), .v (.int .i32 lo), .v (.int .i32 hi), .imm 15 (stRows (renSs thn)), .imm 15 (stRows (renSs els))] (renS (.mk kind pl name [] (.mk aop apl ab ai af an aa) lo hi thn els)).row := by
                rw [hen]
                exact sub_same (sub_same (sub_same (sub_cons (sub_nil 7) (SubL.refl _))))
              refine Run.mono (fun o P h => ?_) ihj.1
              obtain ⟨rfl, rfl⟩ := h
              conv => whnf
              refine Run.mono (fun o P h => ?_) ihj.2
              obtain ⟨rfl, rfl⟩ := h
              conv => whnf
              have hl : rows.length = j := by rw [hrows.length, stRows_eq, renSs_eq]; simp; omega
              refine needI (show (rows.length + 1) * (184 + 1) ≤ roomy by rw [hl]; unfold roomy; omega) ?_
              conv => whnf
              refine ⟨rfl, k - 1, by omega, j + 1, by omega, .inr ⟨by omega, by rw [fwrap64 (n := (j : Int) + 1) (by omega) (by omega)]; rfl, _, ?_, rfl⟩⟩
              rw [htake, renSs_snoc]
              exact hrows.append ⟨hnew, trivial⟩
          · conv => whnf
            refine condI (fun h => ?_) (fun h => ?_) <;> conv => whnf
            · have hlt2 : g < index.length := by simpa [hix] using h
              have hmi := called_run m _ (hok.2.2.2.2.1.mem _ (List.getElem_mem hlt2))
              have htake2 : index.take (g + 1) = index.take g ++ [index[g]] := List.take_succ_eq_append_getElem hlt2
              refine elemP_mk (by rw [hix]; exact rows_get hlt2) ?_
              generalize index[g] = c at *
              rcases c with ⟨cop, cpl, cb, ci, cf, cn, ca⟩
              conv => whnf
              refine Run.mono (fun o P h => ?_) hmi
              obtain ⟨rfl, rfl⟩ := h
              conv => whnf
              have hl : (exRows (renXs (index.take g))).length = g := by rw [exRows_eq, renXs_eq]; simp; omega
              refine needI (show ((exRows (renXs (index.take g))).length + 1) * (72 + 1) ≤ roomy by rw [hl]; have := hok.2.2.2.1; unfold roomy; omega) ?_
              conv => whnf
              refine ⟨rfl, q - 1, by omega, g + 1, by omega, .inr ⟨by omega, by rw [fwrap64 (n := (g : Int) + 1) (by have := hok.2.2.2.1; omega) (by have := hok.2.2.2.1; omega)]; rfl, ?_⟩⟩
              rw [htake2, renXs_snoc]
              rfl
            · have hge : index.length ≤ g := by simp [hix] at h; omega
              rw [List.take_of_length_le hge]
              have hnew : SubL [.v (.int .u8 kind), .v (.int .i64 pl), .v (.string (ren name)), .imm 7 (exRows (renXs index)), .v (.int .u8 aop), .v (.int .i64 apl), .v (.bool ab), .v (.int .i32 ai), .v (.int .u64 af), .v (.string en), .imm 7 (exRows (renXs aa)), .v (.int .i32 lo), .v (.int .i32 hi), .imm 15 (stRows (renSs thn)), .imm 15 (stRows (renSs els))] (renS (.mk kind pl name index (.mk aop apl ab ai af an aa) lo hi thn els)).row := by
                rw [hen]
                exact SubL.refl _
              refine Run.mono (fun o P h => ?_) ihj.1
              obtain ⟨rfl, rfl⟩ := h
              conv => whnf
              refine Run.mono (fun o P h => ?_) ihj.2
              obtain ⟨rfl, rfl⟩ := h
              conv => whnf
              have hl : rows.length = j := by rw [hrows.length, stRows_eq, renSs_eq]; simp; omega
              refine needI (show (rows.length + 1) * (184 + 1) ≤ roomy by rw [hl]; unfold roomy; omega) ?_
              conv => whnf
              refine ⟨rfl, k - 1, by omega, j + 1, by omega, .inr ⟨by omega, by rw [fwrap64 (n := (j : Int) + 1) (by omega) (by omega)]; rfl, _, ?_, rfl⟩⟩
              rw [htake, renSs_snoc]
              exact hrows.append ⟨hnew, trivial⟩
      · have hge : l.length ≤ j := by simp [heq] at h; omega
        rw [List.take_of_length_le hge] at hrows
        exact ⟨⟨_, rfl, sub_imm hrows (pure_sts _)⟩, rfl⟩
theorem renB_run' (m : Int) : ∀ (n : Nat) (l : List St), SizeOf.sizeOf l ≤ n → l.length < 2097152 → StsOk l → RenRun m l
  | 0, l, hn, _, _ => by cases l <;> simp at hn
  | n + 1, l, hn, h1, h2 => renB_step m l h1 h2 fun kind pl name index e lo hi thn els hm => by
    have hok := h2.mem _ hm
    rw [St.Ok] at hok
    have hs := List.sizeOf_lt_of_mem hm
    simp only [St.mk.sizeOf_spec] at hs
    exact ⟨renB_run' m n thn (by omega) hok.2.2.2.2.2.2.2.2.1 hok.2.2.2.2.2.2.2.2.2.1, renB_run' m n els (by omega) hok.2.2.2.2.2.2.2.2.2.2.1 hok.2.2.2.2.2.2.2.2.2.2.2⟩
theorem renB_run (m : Int) (l : List St) (h1 : l.length < 2097152) (h2 : StsOk l) : RenRun m l := renB_run' m _ l (Nat.le_refl _) h1 h2
end Am
end Go.Proofs.YtbdnfkmcfencdaaGreatDoor
/- Law 12: names are names: in plain Lean. No condition. -/
namespace Go.Proofs.YtbdnfkmcfencdaaGreatDoor
namespace Am
open Go
set_option maxRecDepth 100000
set_option maxHeartbeats 1000000

theorem list_ext {a b : ByteArray} (h : a.data.toList = b.data.toList) : a = b := by
  cases a with | mk a => cases b with | mk b =>
  congr 1
  cases a; cases b
  simpa using h
theorem ren_list (n : ByteArray) : (ren n).data.toList = n.data.toList ++ [95] := by
  unfold ren
  simp [ByteArray.data_append]
theorem ren_inj {a b : ByteArray} (h : ren a = ren b) : a = b := by
  have := congrArg (fun x : ByteArray => x.data.toList) h
  simp only [ren_list] at this
  exact list_ext (List.append_cancel_right this)
theorem ren_word (n : ByteArray) : wordB (ren n) = false := by
  unfold wordB
  rw [List.any_eq_false]
  intro w hw h
  rw [sameBytes_eq, beq_iff_eq, ren_list] at h
  have h2 := congrArg List.getLast? h
  simp only [List.getLast?_append, List.getLast?_singleton, Option.some_or] at h2
  simp only [wordsL, List.mem_cons, List.not_mem_nil, or_false] at hw
  rcases hw with rfl | rfl | rfl | rfl | rfl | rfl | rfl | rfl | rfl | rfl | rfl | rfl | rfl | rfl | rfl <;> simp at h2
/-- A name with a letter more is one, where there is room. -/
theorem ren_name {n : ByteArray} (h : nameB n = true) (hs : n.size < 32) : nameB (ren n) = true := by
  unfold nameB at h ⊢
  simp only [Bool.and_eq_true] at h
  obtain ⟨⟨⟨⟨h1, h2⟩, h3⟩, h4⟩, h5⟩ := h
  have hpos : 0 < n.size := by
    rcases Nat.eq_zero_or_pos n.size with e | e
    · exfalso
      have : n.data.toList = [] := by
        cases n with | mk a =>
        have : a.size = 0 := e
        simp [Array.eq_empty_of_size_eq_zero this]
      rw [this] at h2
      simp [sameBytes] at h2
    · exact e
  simp only [Bool.and_eq_true]
  refine ⟨⟨⟨⟨?_, ?_⟩, ?_⟩, ?_⟩, ?_⟩
  · rw [ren_list, List.all_append, h1]; rfl
  · rw [ren_list, sameBytes_eq]; simp
  · rw [ren_size]; simp; omega
  · have : (ren n).get! 0 = n.get! 0 := by
      have e1 : (ren n).get! 0 = ((ren n).data.toList[0]?).getD default := by
        simp [ByteArray.get!, Array.getElem!_eq_getD, Array.getD_eq_getD_getElem?]
      have e2 : n.get! 0 = (n.data.toList[0]?).getD default := by
        simp [ByteArray.get!, Array.getElem!_eq_getD, Array.getD_eq_getD_getElem?]
      have hsz : n.data.toList.length = n.size := by cases n; simp [ByteArray.size]
      rw [e1, e2, ren_list, List.getElem?_append_left (by omega)]
    rw [this]; exact h4
  · rw [ren_word]; rfl
def renD (d : De) : De := { d with name := ren d.name }
/-- Scopes that say of each name what others say of it with a letter more. -/
def SameR (s s' : Sc) : Prop := (∀ n, s.look n = s'.look (ren n)) ∧ s.init = s'.init ∧ s'.loops = s.loops.map ren
theorem renXs_length (l : List Xp) : (renXs l).length = l.length := by rw [renXs_eq, List.length_map]
mutual
theorem ren_xpTy {s s' : Sc} (h : SameR s s') : ∀ e : Xp, xpTy s' (renX e) = xpTy s e
  | .mk op pl b i f name args => by
    simp only [renX, xpTy]
    by_cases h4 : op = 4
    · rw [if_pos h4, if_pos h4, if_pos h4]
      unfold nameTy
      rw [← h.1 name, ← h.2.1, renXs_length, ren_xpTy1 h args]
    · rw [if_neg h4, if_neg h4, ren_xpTys h args]
theorem ren_xpTy1 {s s' : Sc} (h : SameR s s') : ∀ l : List Xp, xpTy1 s' (renXs l) = xpTy1 s l
  | [] => rfl
  | e :: _ => ren_xpTy h e
theorem ren_xpTys {s s' : Sc} (h : SameR s s') : ∀ l : List Xp, xpTys s' (renXs l) = xpTys s l
  | [] => rfl
  | e :: l => by
    simp only [renXs, xpTys, ren_xpTy h e, ren_xpTys h l]
end
theorem ren_pl : ∀ e : Xp, (renX e).pl = e.pl
  | .mk .. => rfl
theorem ren_must {s s' : Sc} (h : SameR s s') (e : Xp) (t : Int) : mustT s' (renX e) t = mustT s e t := by
  unfold mustT
  rw [ren_xpTy h, ren_pl]
theorem ren_assign {s s' : Sc} (h : SameR s s') (pl : Int) (name : ByteArray) (index : List Xp) (e : Xp) : assignT s' pl (ren name) (renXs index) (renX e) = assignT s pl name index e := by
  unfold assignT
  rw [← h.1 name]
  cases s.look name with
  | none => rfl
  | some th =>
    dsimp only
    rw [renXs_length]
    cases index with
    | nil => simp only [renXs]; rw [ren_must h]
    | cons i l => simp only [renXs]; rw [ren_must h, ren_must h]
theorem inLoops_ren (n : ByteArray) : ∀ l : List ByteArray, inLoops (ren n) (l.map ren) = inLoops n l
  | [] => rfl
  | x :: l => by
    simp only [List.map_cons, inLoops, inLoops_ren n l]
    by_cases h : x = n
    · rw [if_pos h, if_pos (by rw [h])]
    · rw [if_neg h, if_neg (fun e => h (ren_inj e))]
theorem sameR_push {s s' : Sc} (h : SameR s s') (name : ByteArray) : SameR { s with loops := s.loops ++ [name] } { s' with loops := s'.loops ++ [ren name] } := by
  refine ⟨fun n => ?_, h.2.1, by simp only [h.2.2, List.map_append, List.map_cons, List.map_nil]⟩
  have h1 := h.1 n
  unfold Sc.look at h1 ⊢
  simp only [inLoops_append]
  by_cases e : name = n
  · subst e
    simp only [if_true]
  · simp only [if_neg e, if_neg (fun k => e (ren_inj k))]; exact h1
/-- Are the names of loops short names? -/
def shortB (n : ByteArray) : Bool := nameB n && decide (n.size < 32)
mutual
def plainS : St → Bool
  | .mk kind _ name _ _ _ _ thn els => !(decide (kind = 3) && !shortB name) && plainSs thn && plainSs els
def plainSs : List St → Bool
  | [] => true
  | s :: l => plainS s && plainSs l
end
mutual
theorem ren_stT : ∀ (x : St) {s s' : Sc}, plainS x = true → SameR s s' → stT (renS x) s' = stT x s
  | .mk kind pl name index e lo hi thn els, s, s', hp, h => by
    simp only [plainS, Bool.and_eq_true] at hp
    obtain ⟨⟨hp1, hp2⟩, hp3⟩ := hp
    simp only [renS, stT]
    by_cases h1 : kind = 1
    · rw [if_pos h1, if_pos h1]; exact ren_assign h pl name index e
    · rw [if_neg h1, if_neg h1]
      by_cases h2 : kind = 2
      · rw [if_pos h2, if_pos h2, ren_must h, ren_stsT thn hp2 h, ren_stsT els hp3 h]
      · rw [if_neg h2, if_neg h2]
        by_cases h3 : kind = 3
        · have hs : shortB name = true := by simpa [h3] using hp1
          unfold shortB at hs
          simp only [Bool.and_eq_true, decide_eq_true_eq] at hs
          have hl : s'.loops.length = s.loops.length := by rw [h.2.2, List.length_map]
          rw [if_pos h3, if_pos h3, ← h.1 name, hl, ren_name hs.1 hs.2, hs.1, ren_stsT thn hp2 (sameR_push h name)]
        · rw [if_neg h3, if_neg h3]
theorem ren_stsT : ∀ (l : List St) {s s' : Sc}, plainSs l = true → SameR s s' → stsT (renSs l) s' = stsT l s
  | [], _, _, _, _ => rfl
  | x :: l, s, s', hp, h => by
    simp only [plainSs, Bool.and_eq_true] at hp
    simp only [renSs, stsT]
    rw [ren_stT x hp.1 h, ren_stsT l hp.2 h]
end
theorem ren_lookD (n : ByteArray) : ∀ l : List De, lookD (ren n) (l.map renD) = (lookD n l).map renD
  | [] => rfl
  | d :: l => by
    simp only [List.map_cons, lookD]
    show (if ren d.name = ren n then _ else _) = _
    by_cases h : d.name = n
    · rw [if_pos h, if_pos (by rw [h])]; rfl
    · rw [if_neg h, if_neg (fun e => h (ren_inj e))]; exact ren_lookD n l
theorem ren_declC (t : Bool) (d : De) (h : shortB d.name = true) : declC t (renD d) = declC t d := by
  unfold shortB at h
  simp only [Bool.and_eq_true, decide_eq_true_eq] at h
  unfold declC
  show (if nameB (ren d.name) = false then _ else if t = true then _ else if d.type < 1 ∨ 3 < d.type then _ else if badD d = true then _ else if (d.input && d.range && rangeBad d) = true then _ else _) = _
  rw [ren_name h.1 h.2, h.1]
  rfl
theorem ren_declsT : ∀ (l a : List De) (c : Int), (∀ d ∈ l, shortB d.name = true) → declsT (l.map renD) (a.map renD) c = declsT l a c
  | [], _, _, _ => rfl
  | d :: l, a, c, h => by
    simp only [List.map_cons, declsT]
    have : lookD (renD d).name (a.map renD) = (lookD d.name a).map renD := ren_lookD d.name a
    rw [this, Option.isSome_map, ren_declC _ d (h d (List.mem_cons_self ..))]
    cases declC (lookD d.name a).isSome d with
    | error w => rfl
    | ok n =>
      show (if 96 < c + n then _ else _) = (if 96 < c + n then _ else _)
      split
      · rfl
      · have := ren_declsT l (a ++ [d]) (c + n) fun x hx => h x (List.mem_cons_of_mem _ hx)
        rw [List.map_append] at this
        exact this
def renP (p : Pr) : Pr := ⟨p.ticks, p.decls.map renD, renSs p.init, renSs p.step⟩
theorem sameR_of (l : List De) (init : Bool) : SameR ⟨l, [], init⟩ ⟨l.map renD, [], init⟩ := by
  refine ⟨fun n => ?_, rfl, rfl⟩
  unfold Sc.look
  simp only [inLoops]
  rw [ren_lookD, Option.map_map]
  rfl
theorem ren_checkT (p : Pr) (h1 : ∀ d ∈ p.decls, shortB d.name = true) (h2 : plainSs p.init = true) (h3 : plainSs p.step = true) : checkT (renP p) = checkT p := by
  unfold checkT
  have e1 := ren_declsT p.decls [] 0 h1
  have e2 := ren_stsT p.init h2 (sameR_of p.decls true)
  have e3 := ren_stsT p.step h3 (sameR_of p.decls false)
  simp only [List.map_nil] at e1
  show (if p.ticks < 1 ∨ 2147483647 < p.ticks then _ else (match declsT (p.decls.map renD) [] 0 with | .error w => _ | .ok _ => (match stsT (renSs p.init) ⟨p.decls.map renD, [], true⟩ with | .error w => _ | .ok _ => stsT (renSs p.step) ⟨p.decls.map renD, [], false⟩))) = _
  rw [e1, e2, e3]
  rfl
end Am
end Go.Proofs.YtbdnfkmcfencdaaGreatDoor
/- Law 12: what CheckRenames answers. No condition. -/
namespace Go.Proofs.YtbdnfkmcfencdaaGreatDoor
namespace Am
open Go
set_option maxRecDepth 100000
set_option maxHeartbeats 1000000

theorem renX_ok : ∀ e : Xp, e.Ok → e.Short → (renX e).Ok
  | .mk op pl b i f name args, h, hn => by
    rw [Xp.Ok] at h
    rw [Xp.Short] at hn
    simp only [renX]
    rw [Xp.Ok, renXs_eq, List.length_map]
    refine ⟨h.1, h.2.1, h.2.2.1, h.2.2.2.1, ?_, h.2.2.2.2.2.1, ?_⟩
    · split
      · rw [ren_size]; omega
      · omega
    · have hall := h.2.2.2.2.2.2
      exact xpsOk_map args fun a ha => renX_ok a (hall.mem a ha) (hn.2.mem a ha)
termination_by e => SizeOf.sizeOf e
decreasing_by
  have := List.sizeOf_lt_of_mem ha
  simp_wf
  omega
theorem renXs_ok {l : List Xp} (h : XpsOk l) (hn : XpsShort l) : XpsOk (renXs l) := by
  rw [renXs_eq]; exact xpsOk_map l fun a ha => renX_ok a (h.mem a ha) (hn.mem a ha)
theorem renSs_ok' : ∀ (n : Nat) (l : List St), SizeOf.sizeOf l ≤ n → StsOk l → StsShort l → StsOk (renSs l)
  | 0, l, hn, _, _ => by cases l <;> simp at hn
  | n + 1, l, hn, h, hsh => by
    rw [renSs_eq]
    refine stsOk_map l fun a ha => ?_
    have hok := h.mem a ha
    have hsa := hsh.mem a ha
    have hs := List.sizeOf_lt_of_mem ha
    rcases a with ⟨kind, pl, name, index, e, lo, hi, thn, els⟩
    rw [St.Ok] at hok
    rw [St.Short] at hsa
    simp only [St.mk.sizeOf_spec] at hs
    simp only [renS]
    rw [St.Ok, renXs_length]
    have l1 : (renSs thn).length = thn.length := by rw [renSs_eq, List.length_map]
    have l2 : (renSs els).length = els.length := by rw [renSs_eq, List.length_map]
    rw [l1, l2]
    exact ⟨hok.1, hok.2.1, by rw [ren_size]; omega, hok.2.2.2.1, renXs_ok hok.2.2.2.2.1 hsa.2.1, renX_ok _ hok.2.2.2.2.2.1 hsa.2.2.1, hok.2.2.2.2.2.2.1, hok.2.2.2.2.2.2.2.1, hok.2.2.2.2.2.2.2.2.1, renSs_ok' n thn (by omega) hok.2.2.2.2.2.2.2.2.2.1 hsa.2.2.2.1,
      hok.2.2.2.2.2.2.2.2.2.2.1, renSs_ok' n els (by omega) hok.2.2.2.2.2.2.2.2.2.2.2 hsa.2.2.2.2⟩
theorem renP_ok {p : Pr} (h : p.Ok) (hn : p.Short) : (renP p).Ok where
  ticks := h.ticks
  many := by show (p.decls.map renD).length < _; rw [List.length_map]; exact h.many
  decls := by
    intro d hd
    obtain ⟨d0, h0, rfl⟩ := List.mem_map.1 hd
    have := h.decls d0 h0
    have hs := hn.decls d0 h0
    exact ⟨this.pl, by show (ren d0.name).size < _; rw [ren_size]; omega, this.type, this.len, this.lo, this.hi⟩
  inits := by show (renSs p.init).length < _; rw [renSs_eq, List.length_map]; exact h.inits
  init := renSs_ok' _ _ (Nat.le_refl _) h.init hn.init
  steps := by show (renSs p.step).length < _; rw [renSs_eq, List.length_map]; exact h.steps
  step := renSs_ok' _ _ (Nat.le_refl _) h.step hn.step
def PlainRun (m : Int) (l : List St) : Prop := Run Tryz.prog (GGm m) 15 [.imm 15 (stRows l)] [] fun o H => o = .ret (.v (.bool (plainSs l))) ∧ H = []
theorem plainSs_drop {l : List St} {j : Nat} (h : j < l.length) : plainSs (l.drop j) = (plainS l[j] && plainSs (l.drop (j + 1))) := by
  rw [List.drop_eq_getElem_cons h]; rfl
theorem plain_step (m : Int) (l : List St) (hlen : l.length < 2097152) (hl : StsOk l) (ih : ∀ kind pl name index e lo hi thn els, St.mk kind pl name index e lo hi thn els ∈ l → PlainRun m thn ∧ PlainRun m els) : PlainRun m l := by
  have heq := stRows_eq l
  refine run_of_body (M := symMd _ _) mixed (FF_ok (subG m) 15 fi15 (by kernel_rfl)) ?_
  conv => whnf
  refine LoopP.inv (fun k ρ H => ∃ j : Nat, j + k = l.length ∧ plainSs l = plainSs (l.drop j) ∧ ρ = .cons 0 (.imm 15 (stRows l)) (.cons 3 (.v (.int .i64 j)) .nil) ∧ H = []) l.length ?_ ?_
  · conv => whnf
    exact ⟨rfl, 0, by simp, rfl, rfl, rfl⟩
  · rintro k ρ H ⟨j, hj, hpl, rfl, rfl⟩
    conv => whnf
    refine condI (fun h => ?_) (fun h => ?_) <;> conv => whnf
    · have hlt : j < l.length := by simpa [heq] using h
      have hrow : (stRows l)[((j : Int)).toNat]? = some (l[j]).row := by rw [heq]; exact rows_get hlt
      have hok := hl.mem _ (List.getElem_mem hlt)
      have hmem := List.getElem_mem hlt
      rw [plainSs_drop hlt] at hpl
      refine elemP_mk hrow ?_
      generalize l[j] = a at *
      rcases a with ⟨kind, pl, name, index, e, lo, hi, thn, els⟩
      rw [St.Ok] at hok
      have ihj := ih _ _ _ _ _ _ _ _ _ hmem
      have hnm := isName_run m name hok.2.2.1
      obtain ⟨iht, ihe⟩ := ihj
      unfold PlainRun at iht ihe
      simp only [plainS, shortB] at hpl
      rcases e with ⟨aop, apl, ab, ai, af, an, aa⟩
      conv => whnf
      refine Run.mono (fun o P h => ?_) hnm
      obtain ⟨rfl, rfl⟩ := h
      conv => whnf
      have fin : plainSs l = plainSs (l.drop (j + 1)) → (([] : Dx) = [] ∧ ∃ j_1, j_1 < k ∧ ∃ j_2 : Nat, j_2 + j_1 = l.length ∧ plainSs l = plainSs (l.drop j_2) ∧
          Regs.cons 0 (.imm 15 (stRows l)) (.cons 3 (.v (.int .i64 (fwrap .i64 ((j : Int) + 1)))) .nil) = .cons 0 (.imm 15 (stRows l)) (.cons 3 (.v (.int .i64 j_2)) .nil) ∧ ([] : Heap) = []) := by
        intro h
        exact ⟨rfl, k - 1, by omega, j + 1, by omega, h, by rw [fwrap64 (by omega) (by omega)]; rfl, rfl⟩
      repeat' first
        | (refine elemP_mk hrow ?_; conv => whnf)
        | (refine ⟨?_, rfl⟩; simp_all; done)
        | (refine ⟨?_, rfl⟩; simp_all; omega)
        | (refine fin ?_; simp_all; done)
        | (refine fin ?_; simp_all; omega)
        | (exfalso; simp_all; done)
        | (refine Run.mono (fun o P h => ?_) iht; obtain ⟨rfl, rfl⟩ := h; conv => whnf)
        | (refine Run.mono (fun o P h => ?_) ihe; obtain ⟨rfl, rfl⟩ := h; conv => whnf)
        | (refine condI (fun _ => ?_) (fun _ => ?_) <;> (conv => whnf))
    · have hge : l.length ≤ j := by simp [heq] at h; omega
      rw [List.drop_eq_nil_of_le hge] at hpl
      rw [hpl]
      exact ⟨rfl, rfl⟩
theorem plainB_run' (m : Int) : ∀ (n : Nat) (l : List St), SizeOf.sizeOf l ≤ n → l.length < 2097152 → StsOk l → PlainRun m l
  | 0, l, hn, _, _ => by cases l <;> simp at hn
  | n + 1, l, hn, h1, h2 => plain_step m l h1 h2 fun kind pl name index e lo hi thn els hm => by
    have hok := h2.mem _ hm
    rw [St.Ok] at hok
    have hs := List.sizeOf_lt_of_mem hm
    simp only [St.mk.sizeOf_spec] at hs
    exact ⟨plainB_run' m n thn (by omega) hok.2.2.2.2.2.2.2.2.1 hok.2.2.2.2.2.2.2.2.2.1, plainB_run' m n els (by omega) hok.2.2.2.2.2.2.2.2.2.2.1 hok.2.2.2.2.2.2.2.2.2.2.2⟩
theorem plainB_run (m : Int) (l : List St) (h1 : l.length < 2097152) (h2 : StsOk l) : PlainRun m l := plainB_run' m _ l (Nat.le_refl _) h1 h2
end Am
end Go.Proofs.YtbdnfkmcfencdaaGreatDoor
/- Law 12: CheckRenames answers true. No condition. -/
namespace Go.Proofs.YtbdnfkmcfencdaaGreatDoor
namespace Am
open Go
set_option maxRecDepth 100000
set_option maxHeartbeats 1000000

theorem checkRenames_run (m : Int) (p : Pr) (hp : p.Ok) (hs : p.Short) : Run Tryz.prog (GGm m) 5 [p.av] [] fun o H => o = .ret (.v (.bool true)) ∧ H = [] := by
  have hw := works m
  have hweigh := weigh_run m p hp 1500
  have hinit := renB_run m p.init hp.inits hp.init
  have hstep := renB_run m p.step hp.steps hp.step
  have hpi := plainB_run m p.init hp.inits hp.init
  have hps := plainB_run m p.step hp.steps hp.step
  have hc1 := checkP_run m p hp
  have hc2 := checkP_run m (renP p) (renP_ok hp hs)
  have hren := ren_checkT p
  have hlen := hp.many
  have hds := hp.decls
  have hsd := hs.decls
  rcases p with ⟨ticks, decls, init, step⟩
  unfold RenRun at hinit hstep
  unfold PlainRun at hpi hps
  dsimp only at *
  refine run_of_body (M := symMd _ _) mixed (FF_ok (subG m) 5 fi5 (by kernel_rfl)) ?_
  conv => whnf
  refine Run.mono (fun o P h => ?_) hw
  obtain ⟨rfl, rfl⟩ := Prod.mk.inj h
  conv => whnf
  refine Run.mono (fun o P h => ?_) hweigh
  obtain ⟨n, rfl, rfl⟩ := h
  conv => whnf
  refine condI (fun h => ?_) (fun h => ?_) <;> conv => whnf
  · exact ⟨rfl, rfl⟩
  refine Run.mono (fun o P h => ?_) hinit
  obtain ⟨rfl, rfl⟩ := h
  conv => whnf
  refine Run.mono (fun o P h => ?_) hstep
  obtain ⟨rfl, rfl⟩ := h
  conv => whnf
  refine LoopP.inv (fun k ρ H => ∃ j : Nat, j + k = decls.length ∧ (∀ d ∈ decls.take j, shortB d.name = true) ∧ 
      ((j = 0 ∧ ρ = .cons 1 (.ref 0 0) (.cons 3 (.v (.bool true)) (.cons 4 (.ref 1 0) (.cons 5 (.v (.int .i64 j)) .nil))) ∧ H = [.box [.v (.int .i64 ticks), .imm 20 (deRows decls), .imm 15 (stRows init), .imm 15 (stRows step)], .box [.v (.int .i64 ticks), .v (.slice none 0 0), .imm 15 (stRows (renSs init)), .imm 15 (stRows (renSs step))]]) ∨
       (0 < j ∧ ρ = .cons 1 (.ref 0 0) (.cons 3 (.v (.bool true)) (.cons 4 (.ref 1 0) (.cons 5 (.v (.int .i64 j)) .nil))) ∧ H = [.box [.v (.int .i64 ticks), .imm 20 (deRows decls), .imm 15 (stRows init), .imm 15 (stRows step)], .box [.v (.int .i64 ticks), .ar 2, .imm 15 (stRows (renSs init)), .imm 15 (stRows (renSs step))], .arr 20 (deRows ((decls.take j).map renD))]))) decls.length ?_ ?_
  · conv => whnf
    exact ⟨rfl, 0, by simp, by simp, .inl ⟨rfl, rfl, rfl⟩⟩
  · rintro k ρ H ⟨j, hj, hall, hcase⟩
    rcases hcase with ⟨hj0, rfl, rfl⟩ | ⟨hj0, rfl, rfl⟩
    · conv => whnf
      refine condI (fun h => ?_) (fun h => ?_) <;> conv => whnf
      · have hlt : j < decls.length := by simpa [deRows] using h
        have hrow : (deRows decls)[((j : Int)).toNat]? = some (decls[j]).row := rows_get hlt
        have hsnoc : deRows ((decls.take (j + 1)).map renD) = deRows ((decls.take j).map renD) ++ [(renD decls[j]).row] := by
          rw [List.take_succ_eq_append_getElem hlt, List.map_append]; simp [deRows]
        have hok := hds _ (List.getElem_mem hlt)
        have hsk := hsd _ (List.getElem_mem hlt)
        have hall' : shortB decls[j].name = true → ∀ d ∈ decls.take (j + 1), shortB d.name = true := by
          intro h0 d hd
          rw [List.take_succ_eq_append_getElem hlt, List.mem_append, List.mem_singleton] at hd
          rcases hd with hd | rfl
          · exact hall d hd
          · exact h0
        refine elemP_mk hrow ?_
        generalize decls[j] = d at *
        rcases d with ⟨dpl, dinput, dname, dtype, dlen, drange, ⟨lop, lpl, lb, li, lf, ln, la⟩, ⟨hop, hpl, hb, hi, hf, hn, ha⟩⟩
        have hnm := isName_run m dname hok.name
        conv => whnf
        refine Run.mono (fun o P h => ?_) hnm
        obtain ⟨rfl, rfl⟩ := h
        generalize hb : nameB dname = b at *
        cases b
        · conv => whnf
          exact ⟨rfl, rfl⟩
        · conv => whnf
          refine condI (fun h => ?_) (fun h => ?_) <;> conv => whnf
          · exact ⟨rfl, rfl⟩
          · refine needI (show dname.size + 1 < 9223372036854775808 by have := hsk; dsimp only at this; omega) ?_
            conv => whnf
            have hpass : shortB dname = true := by unfold shortB; simp_all; omega
            refine ⟨rfl, k - 1, by omega, j + 1, by omega, hall' hpass, .inr ⟨by omega, by subst hj0; rfl, ?_⟩⟩
            rw [hsnoc]
            subst hj0
            rfl
      · have hge : decls.length = 0 := by simp [deRows] at h; omega
        obtain rfl := List.length_eq_zero_iff.1 hge
        refine Run.mono (fun o P h => ?_) hpi
        obtain ⟨rfl, rfl⟩ := h
        generalize hb1 : plainSs init = b1 at *
        cases b1
        · conv => whnf
          exact ⟨rfl, rfl⟩
        conv => whnf
        refine Run.mono (fun o P h => ?_) hps
        obtain ⟨rfl, rfl⟩ := h
        generalize hb2 : plainSs step = b2 at *
        cases b2
        · conv => whnf
          exact ⟨rfl, rfl⟩
        conv => whnf
        rw [hren (by simp) rfl rfl] at hc2
        generalize checkT ⟨ticks, [], init, step⟩ = r at *
        refine Run.mono (fun o P h => ?_) hc1
        obtain ⟨rfl, rfl⟩ := h
        conv => whnf
        refine Run.mono (fun o P h => ?_) (Run.sub (xs := [.agg [.v (.int .i64 ticks), .v (.slice none 0 0), .imm 15 (stRows (renSs init)), .imm 15 (stRows (renSs step))]]) (sub_cons (sub_agg (sub_same (sub_cons (sub_nil 20) (SubL.refl _)))) sub_end) hc2)
        obtain ⟨rfl, rfl⟩ := h
        conv => whnf
        repeat' first
          | exact ⟨rfl, rfl⟩
          | (exfalso; simp_all; done)
          | (refine ⟨?_, rfl⟩; simp_all; done)
          | (refine condI (fun _ => ?_) (fun _ => ?_) <;> (conv => whnf))
    · conv => whnf
      refine condI (fun h => ?_) (fun h => ?_) <;> conv => whnf
      · have hlt : j < decls.length := by simpa [deRows] using h
        have hrow : (deRows decls)[((j : Int)).toNat]? = some (decls[j]).row := rows_get hlt
        have hsnoc : deRows ((decls.take (j + 1)).map renD) = deRows ((decls.take j).map renD) ++ [(renD decls[j]).row] := by
          rw [List.take_succ_eq_append_getElem hlt, List.map_append]; simp [deRows]
        have hok := hds _ (List.getElem_mem hlt)
        have hsk := hsd _ (List.getElem_mem hlt)
        have hall' : shortB decls[j].name = true → ∀ d ∈ decls.take (j + 1), shortB d.name = true := by
          intro h0 d hd
          rw [List.take_succ_eq_append_getElem hlt, List.mem_append, List.mem_singleton] at hd
          rcases hd with hd | rfl
          · exact hall d hd
          · exact h0
        refine elemP_mk hrow ?_
        generalize decls[j] = d at *
        rcases d with ⟨dpl, dinput, dname, dtype, dlen, drange, ⟨lop, lpl, lb, li, lf, ln, la⟩, ⟨hop, hpl, hb, hi, hf, hn, ha⟩⟩
        have hnm := isName_run m dname hok.name
        conv => whnf
        refine Run.mono (fun o P h => ?_) hnm
        obtain ⟨rfl, rfl⟩ := h
        generalize hb : nameB dname = b at *
        cases b
        · conv => whnf
          exact ⟨rfl, rfl⟩
        · conv => whnf
          refine condI (fun h => ?_) (fun h => ?_) <;> conv => whnf
          · exact ⟨rfl, rfl⟩
          · refine needI (show dname.size + 1 < 9223372036854775808 by have := hsk; dsimp only at this; omega) ?_
            conv => whnf
            have hl : (deRows ((decls.take j).map renD)).length = j := by simp [deRows]; omega
            refine needI (show ((deRows ((decls.take j).map renD)).length + 1) * (200 + 1) ≤ roomy by rw [hl]; unfold roomy; omega) ?_
            conv => whnf
            have hpass : shortB dname = true := by unfold shortB; simp_all; omega
            refine ⟨rfl, k - 1, by omega, j + 1, by omega, hall' hpass, .inr ⟨by omega, by rw [fwrap64 (n := (j : Int) + 1) (by omega) (by omega)]; rfl, ?_⟩⟩
            rw [hsnoc]
            rfl
      · have hge : decls.length ≤ j := by simpa [deRows] using h
        rw [List.take_of_length_le hge]
        rw [List.take_of_length_le hge] at hall
        refine Run.mono (fun o P h => ?_) hpi
        obtain ⟨rfl, rfl⟩ := h
        generalize hb1 : plainSs init = b1 at *
        cases b1
        · conv => whnf
          exact ⟨rfl, rfl⟩
        conv => whnf
        refine Run.mono (fun o P h => ?_) hps
        obtain ⟨rfl, rfl⟩ := h
        generalize hb2 : plainSs step = b2 at *
        cases b2
        · conv => whnf
          exact ⟨rfl, rfl⟩
        conv => whnf
        rw [hren hall rfl rfl] at hc2
        generalize checkT ⟨ticks, decls, init, step⟩ = r at *
        refine Run.mono (fun o P h => ?_) hc1
        obtain ⟨rfl, rfl⟩ := h
        conv => whnf
        refine Run.mono (fun o P h => ?_) hc2
        obtain ⟨rfl, rfl⟩ := h
        conv => whnf
        repeat' first
          | exact ⟨rfl, rfl⟩
          | (exfalso; simp_all; done)
          | (refine ⟨?_, rfl⟩; simp_all; done)
          | (refine condI (fun _ => ?_) (fun _ => ?_) <;> (conv => whnf))
end Am
end Go.Proofs.YtbdnfkmcfencdaaGreatDoor
