/- Law 12: programs at other places. No condition. -/
import Derived.Test.YtbdnfkmcfencdaaGreatDoorCkd
import Derived.Test.YtbdnfkmcfencdaaGreatDoorCkb
import Derived.Test.YtbdnfkmcfencdaaGreatDoorRunh
namespace Go.Proofs.YtbdnfkmcfencdaaGreatDoor
namespace Am
open Go
set_option maxRecDepth 100000
set_option maxHeartbeats 1000000

/-- What a run comes to may be said more weakly. -/
theorem Run.subRet {P : Program} {G : Nat → Option (List Value)} {f : Nat} {xs : List AV} {H : Heap} {y : AV} (h : Run P G f xs H fun o H' => (∃ x, o = .ret x ∧ AV.Sub x y) ∧ H' = H) : Run P G f xs H fun o H' => o = .ret y ∧ H' = H := by
  unfold Run at h ⊢
  intro E w own cs h1 h2 h3 h4 h5
  refine (h E w own cs h1 h2 h3 h4 h5).mono fun e w' ⟨o, H', E', own', ⟨⟨x, ho, hs⟩, hH⟩, k2, k3, k4⟩ => ⟨.ret y, H', E', own', ⟨rfl, hH⟩, k2, ?_, k4⟩
  subst ho
  cases e with
  | returned v => exact hs _ _ k3
  | panicked c => exact k3
  | _ => exact k3
def SubR : List (List AV) → List (List AV) → Prop
  | [], [] => True
  | x :: l, y :: r => SubL x y ∧ SubR l r
  | _, _ => False
theorem SubR.length : ∀ {l r : List (List AV)}, SubR l r → l.length = r.length
  | [], [], _ => rfl
  | _ :: _, _ :: _, h => by simp [SubR.length h.2]
theorem SubL.length : ∀ {l r : List AV}, SubL l r → l.length = r.length
  | [], [], _ => rfl
  | _ :: _, _ :: _, h => by simp [SubL.length h.2]
theorem SubR.rep {E : Env} {z : Nat} : ∀ {l r : List (List AV)} {cs : List Value}, SubR l r → RepEs E z l cs → RepEs E z r cs
  | [], [], _, _, h => h
  | _ :: _, _ :: _, _, s, h => ⟨by rw [← s.1.length]; exact h.1, s.1.rep h.2.1, SubR.rep s.2 h.2.2⟩
theorem SubR.append : ∀ {l r l' r' : List (List AV)}, SubR l r → SubR l' r' → SubR (l ++ l') (r ++ r')
  | [], [], _, _, _, h => h
  | _ :: _, _ :: _, _, _, h, k => ⟨h.1, SubR.append h.2 k⟩
theorem sub_imm {z : Nat} {l r : List (List AV)} (h : SubR l r) (hp : pureEs r = true) : AV.Sub (.imm z l) (.imm z r) := by
  rintro E c ⟨a, cap, rfl, h1, h2⟩
  refine ⟨a, cap, by rw [h.length], by rw [← h.length]; exact h1, ?_⟩
  rcases h2 with rfl | ⟨b, off, arr, T, fr, h3, h4, h5, _, h6⟩
  · left
    cases r with
    | nil => rfl
    | cons => exact h.elim
  · exact .inr ⟨b, off, arr, T, fr, h3, h4, h5, hp, h.rep h6⟩
theorem pure_xps : ∀ l : List Xp, pureEs (exRows l) = true
  | [] => rfl
  | .mk .. :: l => by simp only [exRows, pureEs, pure_xps l]; rfl
theorem pure_sts : ∀ l : List St, pureEs (stRows l) = true
  | [] => rfl
  | .mk _ _ _ _ (.mk ..) _ _ _ _ :: l => by simp only [stRows, pureEs, pure_sts l]; rfl
mutual
/-- An expression at other places. -/
def movX (by_ : Int) : Xp → Xp
  | .mk op _ b i f name args => .mk op by_ b i f name (movXs by_ args)
def movXs (by_ : Int) : List Xp → List Xp
  | [] => []
  | e :: l => movX by_ e :: movXs by_ l
end
theorem movXs_eq (by_ : Int) : ∀ l : List Xp, movXs by_ l = l.map (movX by_)
  | [] => rfl
  | e :: l => by simp [movXs, movXs_eq by_ l]
theorem moved_step (m : Int) (by_ : Int) (op : Int) (pl : Int) (b : Bool) (i : Int) (f : Nat) (name : ByteArray) (args : List Xp) (hlen : args.length < 2097152)
    (ih : ∀ e ∈ args, Run Tryz.prog (GGm m) 28 [.agg e.row, .v (.int .i64 by_)] [] fun o H => o = .ret (.agg (movX by_ e).row) ∧ H = []) :
    Run Tryz.prog (GGm m) 28 [.agg (Xp.mk op pl b i f name args).row, .v (.int .i64 by_)] [] fun o H => o = .ret (.agg (movX by_ (Xp.mk op pl b i f name args)).row) ∧ H = [] := by
  have heq := exRows_eq args
  refine Run.subRet ?_
  refine run_of_body (M := symMd _ _) mixed (FF_ok (subG m) 28 fi28 (by kernel_rfl)) ?_
  conv => whnf
  refine LoopP.inv (fun k ρ H => ∃ j : Nat, j + k = args.length ∧
      ((j = 0 ∧ ρ = .cons 1 (.v (.int .i64 by_)) (.cons 2 (.ref 0 0) (.cons 4 (.ref 1 0) (.cons 5 (.v (.slice none 0 0)) (.cons 6 (.v (.int .i64 j)) .nil)))) ∧ H = [.box [.v (.int .u8 op), .v (.int .i64 by_), .v (.bool b), .v (.int .i32 i), .v (.int .u64 f), .v (.string name), .imm 7 (exRows args)], .box [.v (.int .u8 0), .v (.int .i64 0), .v (.bool false), .v (.int .i32 0), .v (.int .u64 0), .v (.string ⟨#[]⟩), .v (.slice none 0 0)]]) ∨
       (0 < j ∧ ρ = .cons 1 (.v (.int .i64 by_)) (.cons 2 (.ref 0 0) (.cons 4 (.ref 1 0) (.cons 5 (.ar 2) (.cons 6 (.v (.int .i64 j)) .nil)))) ∧ H = [.box [.v (.int .u8 op), .v (.int .i64 by_), .v (.bool b), .v (.int .i32 i), .v (.int .u64 f), .v (.string name), .imm 7 (exRows args)], .box [.v (.int .u8 0), .v (.int .i64 0), .v (.bool false), .v (.int .i32 0), .v (.int .u64 0), .v (.string ⟨#[]⟩), .v (.slice none 0 0)], .arr 7 (exRows (movXs by_ (args.take j)))]))) args.length ?_ ?_
  · conv => whnf
    exact ⟨rfl, 0, by simp, .inl ⟨rfl, rfl, rfl⟩⟩
  · rintro k ρ H ⟨j, hj, hcase⟩
    rcases hcase with ⟨hj0, rfl, rfl⟩ | ⟨hj0, rfl, rfl⟩
    · conv => whnf
      refine condI (fun h => ?_) (fun h => ?_) <;> conv => whnf
      · have hlt : j < args.length := by simpa [heq] using h
        have ihj := ih _ (List.getElem_mem hlt)
        have htake : args.take (j + 1) = args.take j ++ [args[j]] := List.take_succ_eq_append_getElem hlt
        refine elemP_mk (by rw [heq]; exact rows_get hlt) ?_
        generalize args[j] = a at *
        rcases a with ⟨aop, apl, ab, ai, af, an, aa⟩
        conv => whnf
        refine Run.mono (fun o P h => ?_) ihj
        obtain ⟨rfl, rfl⟩ := h
        conv => whnf
        subst hj0
        refine ⟨rfl, k - 1, by omega, 1, by omega, .inr ⟨by omega, rfl, ?_⟩⟩
        rw [htake]
        rfl
      · have hge : args.length = 0 := by simp [heq] at h; omega
        obtain rfl := List.length_eq_zero_iff.1 hge
        exact ⟨⟨_, rfl, sub_agg (sub_same (sub_same (sub_same (sub_same (sub_same (sub_same (sub_cons (sub_nil 7) sub_end)))))))⟩, rfl⟩
    · conv => whnf
      refine condI (fun h => ?_) (fun h => ?_) <;> conv => whnf
      · have hlt : j < args.length := by simpa [heq] using h
        have ihj := ih _ (List.getElem_mem hlt)
        have htake : args.take (j + 1) = args.take j ++ [args[j]] := List.take_succ_eq_append_getElem hlt
        refine elemP_mk (by rw [heq]; exact rows_get hlt) ?_
        generalize args[j] = a at *
        rcases a with ⟨aop, apl, ab, ai, af, an, aa⟩
        conv => whnf
        refine Run.mono (fun o P h => ?_) ihj
        obtain ⟨rfl, rfl⟩ := h
        conv => whnf
        have hl : (exRows (movXs by_ (args.take j))).length = j := by rw [exRows_eq, movXs_eq]; simp; omega
        refine needI (show ((exRows (movXs by_ (args.take j))).length + 1) * (72 + 1) ≤ roomy by rw [hl]; unfold roomy; omega) ?_
        conv => whnf
        refine ⟨rfl, k - 1, by omega, j + 1, by omega, .inr ⟨by omega, by rw [fwrap64 (by omega) (by omega)]; rfl, ?_⟩⟩
        have hex : exRows (movXs by_ (args.take (j + 1))) = exRows (movXs by_ (args.take j)) ++ [(movX by_ (.mk aop apl ab ai af an aa)).row] := by
          rw [htake, exRows_eq, exRows_eq, movXs_eq, movXs_eq, List.map_append, List.map_append]; rfl
        rw [hex]
        rfl
      · have hge : args.length ≤ j := by simp [heq] at h; omega
        rw [List.take_of_length_le hge]
        exact ⟨⟨_, rfl, AV.Sub.refl _⟩, rfl⟩
theorem moved_run (m : Int) (by_ : Int) : ∀ e : Xp, e.Ok → Run Tryz.prog (GGm m) 28 [.agg e.row, .v (.int .i64 by_)] [] fun o H => o = .ret (.agg (movX by_ e).row) ∧ H = []
  | .mk op pl b i f name args, h => by
    rw [Xp.Ok] at h
    exact moved_step m by_ op pl b i f name args h.2.2.2.2.2.1 fun a ha => moved_run m by_ a (h.2.2.2.2.2.2.mem a ha)
termination_by e => SizeOf.sizeOf e
decreasing_by
  have := List.sizeOf_lt_of_mem ha
  simp_wf
  omega
mutual
/-- A block at other places. -/
def movS (by_ : Int) : St → St
  | .mk kind _ name index e lo hi thn els => .mk kind by_ name (movXs by_ index) (movX by_ e) lo hi (movSs by_ thn) (movSs by_ els)
def movSs (by_ : Int) : List St → List St
  | [] => []
  | s :: l => movS by_ s :: movSs by_ l
end
theorem movSs_eq (by_ : Int) : ∀ l : List St, movSs by_ l = l.map (movS by_)
  | [] => rfl
  | e :: l => by simp [movSs, movSs_eq by_ l]
theorem movSs_snoc (by_ : Int) (l : List St) (a : St) : stRows (movSs by_ (l ++ [a])) = stRows (movSs by_ l) ++ [(movS by_ a).row] := by
  rw [movSs_eq, stRows_eq, movSs_eq, stRows_eq, List.map_append, List.map_append]; rfl
def MovRun (m : Int) (by_ : Int) (l : List St) : Prop := Run Tryz.prog (GGm m) 12 [.imm 15 (stRows l), .v (.int .i64 by_)] [] fun o H => o = .ret (.imm 15 (stRows (movSs by_ l))) ∧ H = []
theorem movB_step (m : Int) (by_ : Int) (l : List St) (hlen : l.length < 2097152) (hl : StsOk l) (ih : ∀ kind pl name index e lo hi thn els, St.mk kind pl name index e lo hi thn els ∈ l → MovRun m by_ thn ∧ MovRun m by_ els) : MovRun m by_ l := by
  have heq := stRows_eq l
  refine Run.subRet ?_
  refine run_of_body (M := symMd _ _) mixed (FF_ok (subG m) 12 fi12 (by kernel_rfl)) ?_
  conv => whnf
  refine LoopP.inv (fun k ρ H => ∃ j : Nat, j + k = l.length ∧
      ((j = 0 ∧ ρ = .cons 0 (.imm 15 (stRows l)) (.cons 1 (.v (.int .i64 by_)) (.cons 5 (.v (.slice none 0 0)) (.cons 6 (.v (.int .i64 j)) .nil))) ∧ H = []) ∨
       (0 < j ∧ ρ = .cons 0 (.imm 15 (stRows l)) (.cons 1 (.v (.int .i64 by_)) (.cons 5 (.ar 0) (.cons 6 (.v (.int .i64 j)) .nil))) ∧ ∃ rows, SubR rows (stRows (movSs by_ (l.take j))) ∧ H = [.arr 15 rows]))) l.length ?_ ?_
  · conv => whnf
    exact ⟨rfl, 0, by simp, .inl ⟨rfl, rfl, rfl⟩⟩
  · rintro k ρ H ⟨j, hj, hcase⟩
    rcases hcase with ⟨hj0, rfl, rfl⟩ | ⟨hj0, rfl, rows, hrows, rfl⟩
    · conv => whnf
      refine condI (fun h => ?_) (fun h => ?_) <;> conv => whnf
      · have hlt : j < l.length := by simpa [heq] using h
        have hrow : (stRows l)[((j : Int)).toNat]? = some (l[j]).row := by rw [heq]; exact rows_get hlt
        have hok := hl.mem _ (List.getElem_mem hlt)
        have hmem := List.getElem_mem hlt
        have htake : l.take (j + 1) = l.take j ++ [l[j]] := List.take_succ_eq_append_getElem hlt
        refine elemP_mk hrow ?_
        generalize l[j] = a at *
        rcases a with ⟨kind, pl, name, index, e, lo, hi, thn, els⟩
        rw [St.Ok] at hok
        have ihj := ih _ _ _ _ _ _ _ _ _ hmem
        have hme := moved_run m by_ e hok.2.2.2.2.2.1
        rcases e with ⟨aop, apl, ab, ai, af, an, aa⟩
        conv => whnf
        refine Run.mono (fun o P h => ?_) hme
        obtain ⟨rfl, rfl⟩ := h
        conv => whnf
        have hix : exRows index = index.map Xp.row := exRows_eq index
        refine LoopP.inv (fun q ρ H => ∃ g : Nat, g + q = index.length ∧
            ((g = 0 ∧ ρ = .cons 0 (.imm 15 (stRows l)) (.cons 1 (.v (.int .i64 by_)) (.cons 5 (.v (.slice none 0 0)) (.cons 6 (.v (.int .i64 j)) (.cons 7 (.ref 0 0) (.cons 8 (.v (.slice none 0 0)) (.cons 9 (.v (.int .i64 g)) .nil)))))) ∧ H = [.box [.v (.int .u8 kind), .v (.int .i64 by_), .v (.string name), .imm 7 (exRows index), .v (.int .u8 aop), .v (.int .i64 by_), .v (.bool ab), .v (.int .i32 ai), .v (.int .u64 af), .v (.string an), .imm 7 (exRows (movXs by_ aa)), .v (.int .i32 lo), .v (.int .i32 hi), .imm 15 (stRows thn), .imm 15 (stRows els)]]) ∨
             (0 < g ∧ ρ = .cons 0 (.imm 15 (stRows l)) (.cons 1 (.v (.int .i64 by_)) (.cons 5 (.v (.slice none 0 0)) (.cons 6 (.v (.int .i64 j)) (.cons 7 (.ref 0 0) (.cons 8 (.ar 1) (.cons 9 (.v (.int .i64 g)) .nil)))))) ∧ H = [.box [.v (.int .u8 kind), .v (.int .i64 by_), .v (.string name), .imm 7 (exRows index), .v (.int .u8 aop), .v (.int .i64 by_), .v (.bool ab), .v (.int .i32 ai), .v (.int .u64 af), .v (.string an), .imm 7 (exRows (movXs by_ aa)), .v (.int .i32 lo), .v (.int .i32 hi), .imm 15 (stRows thn), .imm 15 (stRows els)], .arr 7 (exRows (movXs by_ (index.take g)))]))) index.length ?_ ?_
        · conv => whnf
          exact ⟨rfl, 0, by simp, .inl ⟨rfl, rfl, rfl⟩⟩
        · rintro q ρ H ⟨g, hg, hcase⟩
          rcases hcase with ⟨hg0, rfl, rfl⟩ | ⟨hg0, rfl, rfl⟩
          · conv => whnf
            refine condI (fun h => ?_) (fun h => ?_) <;> conv => whnf
            · have hlt2 : g < index.length := by simpa [hix] using h
              have hmi := moved_run m by_ _ (hok.2.2.2.2.1.mem _ (List.getElem_mem hlt2))
              have htake2 : index.take (g + 1) = index.take g ++ [index[g]] := List.take_succ_eq_append_getElem hlt2
              refine elemP_mk (by rw [hix]; exact rows_get hlt2) ?_
              have hex : exRows (movXs by_ (index.take (g + 1))) = exRows (movXs by_ (index.take g)) ++ [(movX by_ index[g]).row] := by
                rw [htake2, exRows_eq, exRows_eq, movXs_eq, movXs_eq, List.map_append, List.map_append]; rfl
              generalize index[g] = c at *
              rcases c with ⟨cop, cpl, cb, ci, cf, cn, ca⟩
              conv => whnf
              refine Run.mono (fun o P h => ?_) hmi
              obtain ⟨rfl, rfl⟩ := h
              conv => whnf
              subst hg0
              refine ⟨rfl, q - 1, by omega, 1, by omega, .inr ⟨by omega, rfl, ?_⟩⟩
              rw [hex]
              rfl
            · have hge : index.length = 0 := by simp [hix] at h; omega
              obtain rfl := List.length_eq_zero_iff.1 hge
              have hnew : SubL [.v (.int .u8 kind), .v (.int .i64 by_), .v (.string name), .v (.slice none 0 0), .v (.int .u8 aop), .v (.int .i64 by_), .v (.bool ab), .v (.int .i32 ai), .v (.int .u64 af), .v (.string an), .imm 7 (exRows (movXs by_ aa)), .v (.int .i32 lo), .v (.int .i32 hi), .imm 15 (stRows (movSs by_ thn)), .imm 15 (stRows (movSs by_ els))] (movS by_ (.mk kind pl name [] (.mk aop apl ab ai af an aa) lo hi thn els)).row :=
                sub_same (sub_same (sub_same (sub_cons (sub_nil 7) (SubL.refl _))))
              refine Run.mono (fun o P h => ?_) ihj.1
              obtain ⟨rfl, rfl⟩ := h
              conv => whnf
              refine Run.mono (fun o P h => ?_) ihj.2
              obtain ⟨rfl, rfl⟩ := h
              conv => whnf
              subst hj0
              refine ⟨rfl, k - 1, by omega, 1, by omega, .inr ⟨by omega, rfl, _, ?_, rfl⟩⟩
              rw [htake]
              exact ⟨hnew, trivial⟩
          · conv => whnf
            refine condI (fun h => ?_) (fun h => ?_) <;> conv => whnf
            · have hlt2 : g < index.length := by simpa [hix] using h
              have hmi := moved_run m by_ _ (hok.2.2.2.2.1.mem _ (List.getElem_mem hlt2))
              have htake2 : index.take (g + 1) = index.take g ++ [index[g]] := List.take_succ_eq_append_getElem hlt2
              refine elemP_mk (by rw [hix]; exact rows_get hlt2) ?_
              have hex : exRows (movXs by_ (index.take (g + 1))) = exRows (movXs by_ (index.take g)) ++ [(movX by_ index[g]).row] := by
                rw [htake2, exRows_eq, exRows_eq, movXs_eq, movXs_eq, List.map_append, List.map_append]; rfl
              generalize index[g] = c at *
              rcases c with ⟨cop, cpl, cb, ci, cf, cn, ca⟩
              conv => whnf
              refine Run.mono (fun o P h => ?_) hmi
              obtain ⟨rfl, rfl⟩ := h
              conv => whnf
              have hl : (exRows (movXs by_ (index.take g))).length = g := by rw [exRows_eq, movXs_eq]; simp; omega
              refine needI (show ((exRows (movXs by_ (index.take g))).length + 1) * (72 + 1) ≤ roomy by rw [hl]; have := hok.2.2.2.1; unfold roomy; omega) ?_
              conv => whnf
              refine ⟨rfl, q - 1, by omega, g + 1, by omega, .inr ⟨by omega, by rw [fwrap64 (n := (g : Int) + 1) (by have := hok.2.2.2.1; omega) (by have := hok.2.2.2.1; omega)]; rfl, ?_⟩⟩
              rw [hex]
              rfl
            · have hge : index.length ≤ g := by simp [hix] at h; omega
              rw [List.take_of_length_le hge]
              have hnew : SubL [.v (.int .u8 kind), .v (.int .i64 by_), .v (.string name), .imm 7 (exRows (movXs by_ index)), .v (.int .u8 aop), .v (.int .i64 by_), .v (.bool ab), .v (.int .i32 ai), .v (.int .u64 af), .v (.string an), .imm 7 (exRows (movXs by_ aa)), .v (.int .i32 lo), .v (.int .i32 hi), .imm 15 (stRows (movSs by_ thn)), .imm 15 (stRows (movSs by_ els))] (movS by_ (.mk kind pl name index (.mk aop apl ab ai af an aa) lo hi thn els)).row :=
                SubL.refl _
              refine Run.mono (fun o P h => ?_) ihj.1
              obtain ⟨rfl, rfl⟩ := h
              conv => whnf
              refine Run.mono (fun o P h => ?_) ihj.2
              obtain ⟨rfl, rfl⟩ := h
              conv => whnf
              subst hj0
              refine ⟨rfl, k - 1, by omega, 1, by omega, .inr ⟨by omega, rfl, _, ?_, rfl⟩⟩
              rw [htake]
              exact ⟨hnew, trivial⟩
      · have hge : l.length = 0 := by simp [heq] at h; omega
        obtain rfl := List.length_eq_zero_iff.1 hge
        exact ⟨⟨_, rfl, sub_nil 15⟩, rfl⟩
    · conv => whnf
      refine condI (fun h => ?_) (fun h => ?_) <;> conv => whnf
      · have hlt : j < l.length := by simpa [heq] using h
        have hrow : (stRows l)[((j : Int)).toNat]? = some (l[j]).row := by rw [heq]; exact rows_get hlt
        have hok := hl.mem _ (List.getElem_mem hlt)
        have hmem := List.getElem_mem hlt
        have htake : l.take (j + 1) = l.take j ++ [l[j]] := List.take_succ_eq_append_getElem hlt
        refine elemP_mk hrow ?_
        generalize l[j] = a at *
        rcases a with ⟨kind, pl, name, index, e, lo, hi, thn, els⟩
        rw [St.Ok] at hok
        have ihj := ih _ _ _ _ _ _ _ _ _ hmem
        have hme := moved_run m by_ e hok.2.2.2.2.2.1
        rcases e with ⟨aop, apl, ab, ai, af, an, aa⟩
        conv => whnf
        refine Run.mono (fun o P h => ?_) hme
        obtain ⟨rfl, rfl⟩ := h
        conv => whnf
        have hix : exRows index = index.map Xp.row := exRows_eq index
        refine LoopP.inv (fun q ρ H => ∃ g : Nat, g + q = index.length ∧
            ((g = 0 ∧ ρ = .cons 0 (.imm 15 (stRows l)) (.cons 1 (.v (.int .i64 by_)) (.cons 5 (.ar 0) (.cons 6 (.v (.int .i64 j)) (.cons 7 (.ref 1 0) (.cons 8 (.v (.slice none 0 0)) (.cons 9 (.v (.int .i64 g)) .nil)))))) ∧ H = [.arr 15 rows, .box [.v (.int .u8 kind), .v (.int .i64 by_), .v (.string name), .imm 7 (exRows index), .v (.int .u8 aop), .v (.int .i64 by_), .v (.bool ab), .v (.int .i32 ai), .v (.int .u64 af), .v (.string an), .imm 7 (exRows (movXs by_ aa)), .v (.int .i32 lo), .v (.int .i32 hi), .imm 15 (stRows thn), .imm 15 (stRows els)]]) ∨
             (0 < g ∧ ρ = .cons 0 (.imm 15 (stRows l)) (.cons 1 (.v (.int .i64 by_)) (.cons 5 (.ar 0) (.cons 6 (.v (.int .i64 j)) (.cons 7 (.ref 1 0) (.cons 8 (.ar 2) (.cons 9 (.v (.int .i64 g)) .nil)))))) ∧ H = [.arr 15 rows, .box [.v (.int .u8 kind), .v (.int .i64 by_), .v (.string name), .imm 7 (exRows index), .v (.int .u8 aop), .v (.int .i64 by_), .v (.bool ab), .v (.int .i32 ai), .v (.int .u64 af), .v (.string an), .imm 7 (exRows (movXs by_ aa)), .v (.int .i32 lo), .v (.int .i32 hi), .imm 15 (stRows thn), .imm 15 (stRows els)], .arr 7 (exRows (movXs by_ (index.take g)))]))) index.length ?_ ?_
        · conv => whnf
          exact ⟨rfl, 0, by simp, .inl ⟨rfl, rfl, rfl⟩⟩
        · rintro q ρ H ⟨g, hg, hcase⟩
          rcases hcase with ⟨hg0, rfl, rfl⟩ | ⟨hg0, rfl, rfl⟩
          · conv => whnf
            refine condI (fun h => ?_) (fun h => ?_) <;> conv => whnf
            · have hlt2 : g < index.length := by simpa [hix] using h
              have hmi := moved_run m by_ _ (hok.2.2.2.2.1.mem _ (List.getElem_mem hlt2))
              have htake2 : index.take (g + 1) = index.take g ++ [index[g]] := List.take_succ_eq_append_getElem hlt2
              refine elemP_mk (by rw [hix]; exact rows_get hlt2) ?_
              have hex : exRows (movXs by_ (index.take (g + 1))) = exRows (movXs by_ (index.take g)) ++ [(movX by_ index[g]).row] := by
                rw [htake2, exRows_eq, exRows_eq, movXs_eq, movXs_eq, List.map_append, List.map_append]; rfl
              generalize index[g] = c at *
              rcases c with ⟨cop, cpl, cb, ci, cf, cn, ca⟩
              conv => whnf
              refine Run.mono (fun o P h => ?_) hmi
              obtain ⟨rfl, rfl⟩ := h
              conv => whnf
              subst hg0
              refine ⟨rfl, q - 1, by omega, 1, by omega, .inr ⟨by omega, rfl, ?_⟩⟩
              rw [hex]
              rfl
            · have hge : index.length = 0 := by simp [hix] at h; omega
              obtain rfl := List.length_eq_zero_iff.1 hge
              have hnew : SubL [.v (.int .u8 kind), .v (.int .i64 by_), .v (.string name), .v (.slice none 0 0), .v (.int .u8 aop), .v (.int .i64 by_), .v (.bool ab), .v (.int .i32 ai), .v (.int .u64 af), .v (.string an), .imm 7 (exRows (movXs by_ aa)), .v (.int .i32 lo), .v (.int .i32 hi), .imm 15 (stRows (movSs by_ thn)), .imm 15 (stRows (movSs by_ els))] (movS by_ (.mk kind pl name [] (.mk aop apl ab ai af an aa) lo hi thn els)).row :=
                sub_same (sub_same (sub_same (sub_cons (sub_nil 7) (SubL.refl _))))
              refine Run.mono (fun o P h => ?_) ihj.1
              obtain ⟨rfl, rfl⟩ := h
              conv => whnf
              refine Run.mono (fun o P h => ?_) ihj.2
              obtain ⟨rfl, rfl⟩ := h
              conv => whnf
              have hl : rows.length = j := by rw [hrows.length, stRows_eq, movSs_eq]; simp; omega
              refine needI (show (rows.length + 1) * (184 + 1) ≤ roomy by rw [hl]; unfold roomy; omega) ?_
              conv => whnf
              refine ⟨rfl, k - 1, by omega, j + 1, by omega, .inr ⟨by omega, by rw [fwrap64 (n := (j : Int) + 1) (by omega) (by omega)]; rfl, _, ?_, rfl⟩⟩
              rw [htake, movSs_snoc]
              exact hrows.append ⟨hnew, trivial⟩
          · conv => whnf
            refine condI (fun h => ?_) (fun h => ?_) <;> conv => whnf
            · have hlt2 : g < index.length := by simpa [hix] using h
              have hmi := moved_run m by_ _ (hok.2.2.2.2.1.mem _ (List.getElem_mem hlt2))
              have htake2 : index.take (g + 1) = index.take g ++ [index[g]] := List.take_succ_eq_append_getElem hlt2
              refine elemP_mk (by rw [hix]; exact rows_get hlt2) ?_
              have hex : exRows (movXs by_ (index.take (g + 1))) = exRows (movXs by_ (index.take g)) ++ [(movX by_ index[g]).row] := by
                rw [htake2, exRows_eq, exRows_eq, movXs_eq, movXs_eq, List.map_append, List.map_append]; rfl
              generalize index[g] = c at *
              rcases c with ⟨cop, cpl, cb, ci, cf, cn, ca⟩
              conv => whnf
              refine Run.mono (fun o P h => ?_) hmi
              obtain ⟨rfl, rfl⟩ := h
              conv => whnf
              have hl : (exRows (movXs by_ (index.take g))).length = g := by rw [exRows_eq, movXs_eq]; simp; omega
              refine needI (show ((exRows (movXs by_ (index.take g))).length + 1) * (72 + 1) ≤ roomy by rw [hl]; have := hok.2.2.2.1; unfold roomy; omega) ?_
              conv => whnf
              refine ⟨rfl, q - 1, by omega, g + 1, by omega, .inr ⟨by omega, by rw [fwrap64 (n := (g : Int) + 1) (by have := hok.2.2.2.1; omega) (by have := hok.2.2.2.1; omega)]; rfl, ?_⟩⟩
              rw [hex]
              rfl
            · have hge : index.length ≤ g := by simp [hix] at h; omega
              rw [List.take_of_length_le hge]
              have hnew : SubL [.v (.int .u8 kind), .v (.int .i64 by_), .v (.string name), .imm 7 (exRows (movXs by_ index)), .v (.int .u8 aop), .v (.int .i64 by_), .v (.bool ab), .v (.int .i32 ai), .v (.int .u64 af), .v (.string an), .imm 7 (exRows (movXs by_ aa)), .v (.int .i32 lo), .v (.int .i32 hi), .imm 15 (stRows (movSs by_ thn)), .imm 15 (stRows (movSs by_ els))] (movS by_ (.mk kind pl name index (.mk aop apl ab ai af an aa) lo hi thn els)).row :=
                SubL.refl _
              refine Run.mono (fun o P h => ?_) ihj.1
              obtain ⟨rfl, rfl⟩ := h
              conv => whnf
              refine Run.mono (fun o P h => ?_) ihj.2
              obtain ⟨rfl, rfl⟩ := h
              conv => whnf
              have hl : rows.length = j := by rw [hrows.length, stRows_eq, movSs_eq]; simp; omega
              refine needI (show (rows.length + 1) * (184 + 1) ≤ roomy by rw [hl]; unfold roomy; omega) ?_
              conv => whnf
              refine ⟨rfl, k - 1, by omega, j + 1, by omega, .inr ⟨by omega, by rw [fwrap64 (n := (j : Int) + 1) (by omega) (by omega)]; rfl, _, ?_, rfl⟩⟩
              rw [htake, movSs_snoc]
              exact hrows.append ⟨hnew, trivial⟩
      · have hge : l.length ≤ j := by simp [heq] at h; omega
        rw [List.take_of_length_le hge] at hrows
        exact ⟨⟨_, rfl, sub_imm hrows (pure_sts _)⟩, rfl⟩
theorem movB_run' (m : Int) (by_ : Int) : ∀ (n : Nat) (l : List St), SizeOf.sizeOf l ≤ n → l.length < 2097152 → StsOk l → MovRun m by_ l
  | 0, l, hn, _, _ => by cases l <;> simp at hn
  | n + 1, l, hn, h1, h2 => movB_step m by_ l h1 h2 fun kind pl name index e lo hi thn els hm => by
    have hok := h2.mem _ hm
    rw [St.Ok] at hok
    have hs := List.sizeOf_lt_of_mem hm
    simp only [St.mk.sizeOf_spec] at hs
    exact ⟨movB_run' m by_ n thn (by omega) hok.2.2.2.2.2.2.2.2.1 hok.2.2.2.2.2.2.2.2.2.1, movB_run' m by_ n els (by omega) hok.2.2.2.2.2.2.2.2.2.2.1 hok.2.2.2.2.2.2.2.2.2.2.2⟩
theorem movB_run (m : Int) (by_ : Int) (l : List St) (h1 : l.length < 2097152) (h2 : StsOk l) : MovRun m by_ l := movB_run' m by_ _ l (Nat.le_refl _) h1 h2
end Am
end Go.Proofs.YtbdnfkmcfencdaaGreatDoor
/- Law 12: what is wrong does not hang on places: in plain Lean. No condition. -/
namespace Go.Proofs.YtbdnfkmcfencdaaGreatDoor
namespace Am
open Go
set_option maxRecDepth 100000
set_option maxHeartbeats 1000000

/-- The same error, at another place. -/
def mvR {α : Type} (by_ : Int) : Except (Nat × Int) α → Except (Nat × Int) α
  | .ok x => .ok x
  | .error w => .error (w.1, by_)
def Xp.at_ (by_ : Int) : Xp → Xp | .mk op _ b i f name args => .mk op by_ b i f name args
def movD (by_ : Int) (d : De) : De := { d with pl := by_, lo := d.lo.at_ by_, hi := d.hi.at_ by_ }
/-- Scopes that say the same of each name. -/
def Same (s s' : Sc) : Prop := (∀ n, s.look n = s'.look n) ∧ s.init = s'.init ∧ s.loops = s'.loops
theorem movXs_length (by_ : Int) (l : List Xp) : (movXs by_ l).length = l.length := by rw [movXs_eq, List.length_map]
mutual
theorem mov_xpTy {s s' : Sc} (h : Same s s') (by_ : Int) : ∀ e : Xp, xpTy s' (movX by_ e) = mvR by_ (xpTy s e)
  | .mk op pl b i f name args => by
    simp only [movX, xpTy]
    by_cases h4 : op = 4
    · rw [if_pos h4, if_pos h4]
      unfold nameTy
      rw [← h.1 name, ← h.2.1, movXs_length, mov_xpTy1 h by_ args]
      cases s.look name with
      | none => rfl
      | some th =>
        dsimp only
        split
        · rfl
        · split
          · rfl
          · split
            · rfl
            · cases xpTy1 s args with
              | error w => rfl
              | ok t =>
                show (if t = 2 then _ else _) = mvR by_ (if t = 2 then _ else _)
                split <;> rfl
    · rw [if_neg h4, if_neg h4, mov_xpTys h by_ args]
      cases xpTys s args with
      | error w => rfl
      | ok l =>
        show (if resultT op l = 0 then _ else _) = mvR by_ (if resultT op l = 0 then _ else _)
        split
        · rfl
        · split <;> rfl
theorem mov_xpTy1 {s s' : Sc} (h : Same s s') (by_ : Int) : ∀ l : List Xp, xpTy1 s' (movXs by_ l) = mvR by_ (xpTy1 s l)
  | [] => rfl
  | e :: _ => mov_xpTy h by_ e
theorem mov_xpTys {s s' : Sc} (h : Same s s') (by_ : Int) : ∀ l : List Xp, xpTys s' (movXs by_ l) = mvR by_ (xpTys s l)
  | [] => rfl
  | e :: l => by
    simp only [movXs, xpTys, mov_xpTy h by_ e, mov_xpTys h by_ l]
    cases xpTy s e with
    | error w => rfl
    | ok t =>
      show (match mvR by_ (xpTys s l) with | .error w => _ | .ok ts => _) = _
      cases xpTys s l <;> rfl
end
theorem mov_pl (by_ : Int) : ∀ e : Xp, (movX by_ e).pl = by_
  | .mk .. => rfl
theorem mov_must {s s' : Sc} (h : Same s s') (by_ : Int) (e : Xp) (t : Int) : mustT s' (movX by_ e) t = mvR by_ (mustT s e t) := by
  unfold mustT
  rw [mov_xpTy h, mov_pl]
  cases xpTy s e with
  | error w => rfl
  | ok u =>
    show (if u = t then _ else _) = mvR by_ (if u = t then _ else _)
    split <;> rfl
theorem mov_assign {s s' : Sc} (h : Same s s') (by_ : Int) (pl : Int) (name : ByteArray) (index : List Xp) (e : Xp) : assignT s' by_ name (movXs by_ index) (movX by_ e) = mvR by_ (assignT s pl name index e) := by
  unfold assignT
  rw [← h.1 name]
  cases s.look name with
  | none => rfl
  | some th =>
    dsimp only
    rw [movXs_length]
    split
    · rfl
    · split
      · rfl
      · cases index with
        | nil => exact mov_must h by_ e th.t
        | cons i l =>
          simp only [movXs]
          rw [mov_must h, mov_must h]
          cases mustT s i 2 <;> rfl
theorem same_push {s s' : Sc} (h : Same s s') (name : ByteArray) : Same { s with loops := s.loops ++ [name] } { s' with loops := s'.loops ++ [name] } := by
  refine ⟨fun n => ?_, h.2.1, by simp only [h.2.2]⟩
  have h1 := h.1 n
  have h3 := h.2.2
  unfold Sc.look at h1 ⊢
  rw [h3] at h1 ⊢
  simp only [inLoops_append]
  split
  · rfl
  · exact h1
mutual
theorem mov_stT (by_ : Int) : ∀ (x : St) {s s' : Sc}, Same s s' → stT (movS by_ x) s' = mvR by_ (stT x s)
  | .mk kind pl name index e lo hi thn els, s, s', h => by
    simp only [movS, stT]
    by_cases h1 : kind = 1
    · rw [if_pos h1, if_pos h1]; exact mov_assign h by_ pl name index e
    · rw [if_neg h1, if_neg h1]
      by_cases h2 : kind = 2
      · rw [if_pos h2, if_pos h2, mov_must h]
        cases mustT s e 1 with
        | error w => rfl
        | ok u =>
          show (match stsT (movSs by_ thn) s' with | .error w => _ | .ok _ => _) = mvR by_ (match stsT thn s with | .error w => _ | .ok _ => _)
          rw [mov_stsT by_ thn h, mov_stsT by_ els h]
          cases stsT thn s <;> rfl
      · rw [if_neg h2, if_neg h2]
        by_cases h3 : kind = 3
        · rw [if_pos h3, if_pos h3, ← h.1 name, ← h.2.2]
          split
          · rfl
          · split
            · rfl
            · split
              · rfl
              · rw [h.2.2]
                have := mov_stsT by_ thn (same_push h name)
                rw [h.2.2] at this
                exact this
        · rw [if_neg h3, if_neg h3]; rfl
theorem mov_stsT (by_ : Int) : ∀ (l : List St) {s s' : Sc}, Same s s' → stsT (movSs by_ l) s' = mvR by_ (stsT l s)
  | [], _, _, _ => rfl
  | x :: l, s, s', h => by
    simp only [movSs, stsT]
    rw [mov_stT by_ x h, mov_stsT by_ l h]
    cases stT x s <;> rfl
end
theorem mov_endF (by_ : Int) (t : Int) : ∀ e : Xp, endF t (e.at_ by_) = endF t e
  | .mk .. => rfl
theorem mov_declC (by_ : Int) (t : Bool) (d : De) : declC t (movD by_ d) = mvR by_ (declC t d) := by
  unfold declC
  have h1 : badD (movD by_ d) = badD d := rfl
  have h2 : rangeBad (movD by_ d) = rangeBad d := by
    unfold rangeBad
    show (match endF d.type (d.hi.at_ by_), endF d.type (d.lo.at_ by_) with | some a, some b => lessF a b | _, _ => true) = _
    rw [mov_endF, mov_endF]
    rfl
  rw [h1, h2]
  show (if nameB d.name = false then _ else if t = true then _ else if d.type < 1 ∨ 3 < d.type then _ else if badD d = true then _ else if (d.input && d.range && rangeBad d) = true then _ else _) = _
  split
  · rfl
  · split
    · rfl
    · split
      · rfl
      · split
        · rfl
        · split <;> rfl
theorem mov_lookD (by_ : Int) (n : ByteArray) : ∀ l : List De, lookD n (l.map (movD by_)) = (lookD n l).map (movD by_)
  | [] => rfl
  | d :: l => by
    simp only [List.map_cons, lookD]
    show (if d.name = n then _ else _) = _
    by_cases h : d.name = n
    · rw [if_pos h, if_pos h]; rfl
    · rw [if_neg h, if_neg h]; exact mov_lookD by_ n l
theorem mov_declsT (by_ : Int) : ∀ (l a : List De) (c : Int), declsT (l.map (movD by_)) (a.map (movD by_)) c = mvR by_ (declsT l a c)
  | [], _, _ => rfl
  | d :: l, a, c => by
    simp only [List.map_cons, declsT]
    rw [mov_lookD, Option.isSome_map, mov_declC]
    show (match mvR by_ (declC (lookD d.name a).isSome d) with | .error w => _ | .ok n => _) = _
    cases declC (lookD d.name a).isSome d with
    | error w => rfl
    | ok n =>
      show (if 96 < c + n then _ else _) = mvR by_ (if 96 < c + n then _ else _)
      split
      · rfl
      · have := mov_declsT by_ l (a ++ [d]) (c + n)
        rw [List.map_append] at this
        exact this
def movP (by_ : Int) (p : Pr) : Pr := ⟨p.ticks, p.decls.map (movD by_), movSs by_ p.init, movSs by_ p.step⟩
theorem same_mov (by_ : Int) (l : List De) (init : Bool) : Same ⟨l, [], init⟩ ⟨l.map (movD by_), [], init⟩ := by
  refine ⟨fun n => ?_, rfl, rfl⟩
  unfold Sc.look
  simp only [inLoops]
  rw [mov_lookD, Option.map_map]
  rfl
theorem mov_checkT (by_ : Int) (p : Pr) : checkT (movP by_ p) = if p.ticks < 1 ∨ 2147483647 < p.ticks then .error (3, 0) else mvR by_ (checkT p) := by
  unfold checkT
  show (if p.ticks < 1 ∨ 2147483647 < p.ticks then _ else _) = _
  by_cases h : p.ticks < 1 ∨ 2147483647 < p.ticks
  · rw [if_pos h, if_pos h]
  · rw [if_neg h, if_neg h, if_neg h]
    have h1 := mov_declsT by_ p.decls [] 0
    have h2 := mov_stsT by_ p.init (same_mov by_ p.decls true)
    have h3 := mov_stsT by_ p.step (same_mov by_ p.decls false)
    simp only [List.map_nil] at h1
    show (match declsT (p.decls.map (movD by_)) [] 0 with | .error w => _ | .ok _ => (match stsT (movSs by_ p.init) ⟨p.decls.map (movD by_), [], true⟩ with | .error w => _ | .ok _ => stsT (movSs by_ p.step) ⟨p.decls.map (movD by_), [], false⟩)) = _
    rw [h1, h2, h3]
    cases declsT p.decls [] 0 with
    | error w => rfl
    | ok u =>
      show (match mvR by_ (stsT p.init ⟨p.decls, [], true⟩) with | .error w => _ | .ok _ => _) = _
      cases stsT p.init ⟨p.decls, [], true⟩ <;> rfl
theorem check_ticks {p : Pr} (h : p.ticks < 1 ∨ 2147483647 < p.ticks) : checkT p = .error (3, 0) := if_pos h
end Am
end Go.Proofs.YtbdnfkmcfencdaaGreatDoor
/- Law 12: what CheckPlaces answers. No condition. -/
namespace Go.Proofs.YtbdnfkmcfencdaaGreatDoor
namespace Am
open Go
set_option maxRecDepth 100000
set_option maxHeartbeats 1000000

theorem at_ok {by_ : Int} (hby : -9223372036854775808 ≤ by_ ∧ by_ < 9223372036854775808) : ∀ {e : Xp}, e.Ok → (e.at_ by_).Ok
  | .mk op pl b i f name args, h => by
    rw [Xp.Ok] at h
    simp only [Xp.at_]
    rw [Xp.Ok]
    exact ⟨h.1, hby, h.2.2⟩
theorem xpsOk_map {f : Xp → Xp} : ∀ l : List Xp, (∀ a ∈ l, (f a).Ok) → XpsOk (l.map f)
  | [], _ => trivial
  | x :: l, h => ⟨h x (List.mem_cons_self ..), xpsOk_map l fun a ha => h a (List.mem_cons_of_mem _ ha)⟩
theorem stsOk_map {f : St → St} : ∀ l : List St, (∀ a ∈ l, (f a).Ok) → StsOk (l.map f)
  | [], _ => trivial
  | x :: l, h => ⟨h x (List.mem_cons_self ..), stsOk_map l fun a ha => h a (List.mem_cons_of_mem _ ha)⟩
theorem movX_ok {by_ : Int} (hby : -9223372036854775808 ≤ by_ ∧ by_ < 9223372036854775808) : ∀ e : Xp, e.Ok → (movX by_ e).Ok
  | .mk op pl b i f name args, h => by
    rw [Xp.Ok] at h
    simp only [movX]
    rw [Xp.Ok, movXs_eq, List.length_map]
    refine ⟨h.1, hby, h.2.2.1, h.2.2.2.1, h.2.2.2.2.1, h.2.2.2.2.2.1, ?_⟩
    have hall := h.2.2.2.2.2.2
    exact xpsOk_map args fun a ha => movX_ok hby a (hall.mem a ha)
termination_by e => SizeOf.sizeOf e
decreasing_by
  have := List.sizeOf_lt_of_mem ha
  simp_wf
  omega
theorem movXs_ok {by_ : Int} (hby : -9223372036854775808 ≤ by_ ∧ by_ < 9223372036854775808) {l : List Xp} (h : XpsOk l) : XpsOk (movXs by_ l) := by
  rw [movXs_eq]; exact xpsOk_map l fun a ha => movX_ok hby a (h.mem a ha)
theorem movSs_ok' {by_ : Int} (hby : -9223372036854775808 ≤ by_ ∧ by_ < 9223372036854775808) : ∀ (n : Nat) (l : List St), SizeOf.sizeOf l ≤ n → StsOk l → StsOk (movSs by_ l)
  | 0, l, hn, _ => by cases l <;> simp at hn
  | n + 1, l, hn, h => by
    rw [movSs_eq]
    refine stsOk_map l fun a ha => ?_
    have hok := h.mem a ha
    have hs := List.sizeOf_lt_of_mem ha
    rcases a with ⟨kind, pl, name, index, e, lo, hi, thn, els⟩
    rw [St.Ok] at hok
    simp only [St.mk.sizeOf_spec] at hs
    simp only [movS]
    rw [St.Ok, movXs_length]
    have l1 : (movSs by_ thn).length = thn.length := by rw [movSs_eq, List.length_map]
    have l2 : (movSs by_ els).length = els.length := by rw [movSs_eq, List.length_map]
    rw [l1, l2]
    exact ⟨hok.1, hby, hok.2.2.1, hok.2.2.2.1, movXs_ok hby hok.2.2.2.2.1, movX_ok hby _ hok.2.2.2.2.2.1, hok.2.2.2.2.2.2.1, hok.2.2.2.2.2.2.2.1, hok.2.2.2.2.2.2.2.2.1, movSs_ok' hby n thn (by omega) hok.2.2.2.2.2.2.2.2.2.1,
      hok.2.2.2.2.2.2.2.2.2.2.1, movSs_ok' hby n els (by omega) hok.2.2.2.2.2.2.2.2.2.2.2⟩
theorem movP_ok {by_ : Int} (hby : -9223372036854775808 ≤ by_ ∧ by_ < 9223372036854775808) {p : Pr} (h : p.Ok) : (movP by_ p).Ok where
  ticks := h.ticks
  many := by show (p.decls.map (movD by_)).length < _; rw [List.length_map]; exact h.many
  decls := by
    intro d hd
    obtain ⟨d0, h0, rfl⟩ := List.mem_map.1 hd
    have := h.decls d0 h0
    exact ⟨hby, this.name, this.type, this.len, at_ok hby this.lo, at_ok hby this.hi⟩
  inits := by show (movSs by_ p.init).length < _; rw [movSs_eq, List.length_map]; exact h.inits
  init := movSs_ok' hby _ _ (Nat.le_refl _) h.init
  steps := by show (movSs by_ p.step).length < _; rw [movSs_eq, List.length_map]; exact h.steps
  step := movSs_ok' hby _ _ (Nat.le_refl _) h.step
theorem checkPlaces_run (m : Int) (p : Pr) (hp : p.Ok) (by_ : Int) (hby : -9223372036854775808 ≤ by_ ∧ by_ < 9223372036854775808) : Run Tryz.prog (GGm m) 4 [p.av, .v (.int .i64 by_)] [] fun o H => o = .ret (.v (.bool true)) ∧ H = [] := by
  have hw := works m
  have hweigh := weigh_run m p hp 1500
  have hinit := movB_run m by_ p.init hp.inits hp.init
  have hstep := movB_run m by_ p.step hp.steps hp.step
  have hc1 := checkP_run m p hp
  have hc2 := checkP_run m (movP by_ p) (movP_ok hby hp)
  rw [mov_checkT] at hc2
  have hlen := hp.many
  have hds := hp.decls
  have htick := @check_ticks p
  generalize checkT p = r at *
  rcases p with ⟨ticks, decls, init, step⟩
  unfold MovRun at hinit hstep
  dsimp only at *
  refine run_of_body (M := symMd _ _) mixed (FF_ok (subG m) 4 fi4 (by kernel_rfl)) ?_
  conv => whnf
  refine Run.mono (fun o P h => ?_) hw
  obtain ⟨rfl, rfl⟩ := Prod.mk.inj h
  conv => whnf
  refine Run.mono (fun o P h => ?_) hweigh
  obtain ⟨n, rfl, rfl⟩ := h
  conv => whnf
  refine condI (fun h => ?_) (fun h => ?_) <;> conv => whnf
  · exact ⟨rfl, rfl⟩
  refine Run.mono (fun o P h => ?_) hinit
  obtain ⟨rfl, rfl⟩ := h
  conv => whnf
  refine Run.mono (fun o P h => ?_) hstep
  obtain ⟨rfl, rfl⟩ := h
  conv => whnf
  refine LoopP.inv (fun k ρ H => ∃ j : Nat, j + k = decls.length ∧
      ((j = 0 ∧ ρ = .cons 1 (.v (.int .i64 by_)) (.cons 2 (.ref 0 0) (.cons 5 (.v (.bool true)) (.cons 6 (.ref 1 0) (.cons 7 (.v (.int .i64 j)) .nil)))) ∧ H = [.box [.v (.int .i64 ticks), .imm 20 (deRows decls), .imm 15 (stRows init), .imm 15 (stRows step)], .box [.v (.int .i64 ticks), .v (.slice none 0 0), .imm 15 (stRows (movSs by_ init)), .imm 15 (stRows (movSs by_ step))]]) ∨
       (0 < j ∧ ρ = .cons 1 (.v (.int .i64 by_)) (.cons 2 (.ref 0 0) (.cons 5 (.v (.bool true)) (.cons 6 (.ref 1 0) (.cons 7 (.v (.int .i64 j)) .nil)))) ∧ H = [.box [.v (.int .i64 ticks), .imm 20 (deRows decls), .imm 15 (stRows init), .imm 15 (stRows step)], .box [.v (.int .i64 ticks), .ar 2, .imm 15 (stRows (movSs by_ init)), .imm 15 (stRows (movSs by_ step))], .arr 20 (deRows ((decls.take j).map (movD by_)))]))) decls.length ?_ ?_
  · conv => whnf
    exact ⟨rfl, 0, by simp, .inl ⟨rfl, rfl, rfl⟩⟩
  · rintro k ρ H ⟨j, hj, hcase⟩
    rcases hcase with ⟨hj0, rfl, rfl⟩ | ⟨hj0, rfl, rfl⟩
    · conv => whnf
      refine condI (fun h => ?_) (fun h => ?_) <;> conv => whnf
      · have hlt : j < decls.length := by simpa [deRows] using h
        have hrow : (deRows decls)[((j : Int)).toNat]? = some (decls[j]).row := rows_get hlt
        have hsnoc : deRows ((decls.take (j + 1)).map (movD by_)) = deRows ((decls.take j).map (movD by_)) ++ [(movD by_ decls[j]).row] := by
          rw [List.take_succ_eq_append_getElem hlt, List.map_append]; simp [deRows]
        refine elemP_mk hrow ?_
        generalize decls[j] = d at *
        rcases d with ⟨dpl, dinput, dname, dtype, dlen, drange, ⟨lop, lpl, lb, li, lf, ln, la⟩, ⟨hop, hpl, hb, hi, hf, hn, ha⟩⟩
        conv => whnf
        subst hj0
        refine ⟨rfl, k - 1, by omega, 1, by omega, .inr ⟨by omega, rfl, ?_⟩⟩
        rw [hsnoc]
        rfl
      · have hge : decls.length = 0 := by simp [deRows] at h; omega
        obtain rfl := List.length_eq_zero_iff.1 hge
        have hc2 := Run.sub (xs := [.agg [.v (.int .i64 ticks), .v (.slice none 0 0), .imm 15 (stRows (movSs by_ init)), .imm 15 (stRows (movSs by_ step))]]) (sub_cons (sub_agg (sub_same (sub_cons (sub_nil 20) (SubL.refl _)))) sub_end) hc2
        refine Run.mono (fun o P h => ?_) hc1
        obtain ⟨rfl, rfl⟩ := h
        conv => whnf
        refine Run.mono (fun o P h => ?_) hc2
        obtain ⟨rfl, rfl⟩ := h
        by_cases ht : ticks < 1 ∨ 2147483647 < ticks
        · obtain rfl := htick ht
          simp only [if_pos ht]
          conv => whnf
          repeat' first
            | exact ⟨rfl, rfl⟩
            | (exfalso; simp_all [errN, errAt, mvR]; done)
            | (exfalso; simp_all [errN, errAt, mvR]; omega)
            | (refine ⟨?_, rfl⟩; simp_all [errN, errAt, mvR]; done)
            | (refine ⟨?_, rfl⟩; simp_all [errN, errAt, mvR]; omega)
            | (refine condI (fun _ => ?_) (fun _ => ?_) <;> (conv => whnf))
        · simp only [if_neg ht]
          cases r <;> (conv => whnf) <;>
          repeat' first
            | exact ⟨rfl, rfl⟩
            | (exfalso; simp_all [errN, errAt, mvR]; done)
            | (exfalso; simp_all [errN, errAt, mvR]; omega)
            | (refine ⟨?_, rfl⟩; simp_all [errN, errAt, mvR]; done)
            | (refine ⟨?_, rfl⟩; simp_all [errN, errAt, mvR]; omega)
            | (refine condI (fun _ => ?_) (fun _ => ?_) <;> (conv => whnf))
    · conv => whnf
      refine condI (fun h => ?_) (fun h => ?_) <;> conv => whnf
      · have hlt : j < decls.length := by simpa [deRows] using h
        have hrow : (deRows decls)[((j : Int)).toNat]? = some (decls[j]).row := rows_get hlt
        have hsnoc : deRows ((decls.take (j + 1)).map (movD by_)) = deRows ((decls.take j).map (movD by_)) ++ [(movD by_ decls[j]).row] := by
          rw [List.take_succ_eq_append_getElem hlt, List.map_append]; simp [deRows]
        refine elemP_mk hrow ?_
        generalize decls[j] = d at *
        rcases d with ⟨dpl, dinput, dname, dtype, dlen, drange, ⟨lop, lpl, lb, li, lf, ln, la⟩, ⟨hop, hpl, hb, hi, hf, hn, ha⟩⟩
        conv => whnf
        have hl : (deRows ((decls.take j).map (movD by_))).length = j := by simp [deRows]; omega
        refine needI (show ((deRows ((decls.take j).map (movD by_))).length + 1) * (200 + 1) ≤ roomy by rw [hl]; unfold roomy; omega) ?_
        conv => whnf
        refine ⟨rfl, k - 1, by omega, j + 1, by omega, .inr ⟨by omega, by rw [fwrap64 (n := (j : Int) + 1) (by omega) (by omega)]; rfl, ?_⟩⟩
        rw [hsnoc]
        rfl
      · have hge : decls.length ≤ j := by simpa [deRows] using h
        rw [List.take_of_length_le hge]
        refine Run.mono (fun o P h => ?_) hc1
        obtain ⟨rfl, rfl⟩ := h
        conv => whnf
        refine Run.mono (fun o P h => ?_) hc2
        obtain ⟨rfl, rfl⟩ := h
        by_cases ht : ticks < 1 ∨ 2147483647 < ticks
        · obtain rfl := htick ht
          simp only [if_pos ht]
          conv => whnf
          repeat' first
            | exact ⟨rfl, rfl⟩
            | (exfalso; simp_all [errN, errAt, mvR]; done)
            | (exfalso; simp_all [errN, errAt, mvR]; omega)
            | (refine ⟨?_, rfl⟩; simp_all [errN, errAt, mvR]; done)
            | (refine ⟨?_, rfl⟩; simp_all [errN, errAt, mvR]; omega)
            | (refine condI (fun _ => ?_) (fun _ => ?_) <;> (conv => whnf))
        · simp only [if_neg ht]
          cases r <;> (conv => whnf) <;>
          repeat' first
            | exact ⟨rfl, rfl⟩
            | (exfalso; simp_all [errN, errAt, mvR]; done)
            | (exfalso; simp_all [errN, errAt, mvR]; omega)
            | (refine ⟨?_, rfl⟩; simp_all [errN, errAt, mvR]; done)
            | (refine ⟨?_, rfl⟩; simp_all [errN, errAt, mvR]; omega)
            | (refine condI (fun _ => ?_) (fun _ => ?_) <;> (conv => whnf))
end Am
end Go.Proofs.YtbdnfkmcfencdaaGreatDoor
