/- CheckMore: for every input within the bound the law returns true, and each argument reads as it did. Condition: the card's own (the listed package-level variables hold what the program's text lays). -/
import Derived.Test.YtbdnfkmcfencdaaGreatDoorLawd
import Derived.Test.YtbdnfkmcfencdaaGreatDoorFin
namespace Go.Proofs.YtbdnfkmcfencdaaGreatDoor
namespace CheckMore
open Go
open Am Go.ChangeShapes Go.WideShapes Go.ChangeAt Go.RowKit
set_option maxRecDepth 100000
set_option maxHeartbeats 1000000

theorem contract (H : Type) (enc : TypeId × Value → H) (W : World) (base : Nat) (args : Array Value) (ds gs : List (DataW H)) (before : List MemPlace)
    (hval : ∀ (j : Nat) t v, Tryz.f7.params[j]? = some t → args[j]? = some v → Value.okWide Tryz.prog W .any base t v)
    (hW : DataW.Whole enc Tryz.prog Tryz.f7.params.toList Rows.checkMoreSpec.vars false W args.toList ds gs before) (hsmall : Rows.uptoSmall H (ds ++ gs) = true) (hL : laidMetH Tryz.prog Rows.checkMoreUptoRow.laid W) (hsh : W.ShapedOpen Tryz.prog) :
    Calls Tryz.prog 7 args W fun e W' => ∃ v, e = .returned v ∧ Rows.checkMoreSpec.post enc Tryz.prog Tryz.f7 false true false false W args v W' := by
  have hW' := hW
  obtain ⟨p, q, hA0, hV, rfl, hfz, hnd⟩ := hW
  have hA : DataW.TrodAll enc Tryz.prog W 0 (fun _ => true) true Tryz.f7.params.toList args.toList ds p := hA0
  rw [Tryz.params7] at hA hval
  obtain ⟨v0, vs0, d0, ds0, p0, q0, hargs, rfl, rfl, h0, r0⟩ := trodAll_cons hA
  obtain ⟨v1, vs1, d1, ds1, p1, q1, rfl, rfl, rfl, h1, r1⟩ := trodAll_cons r0
  obtain ⟨rfl, rfl, rfl⟩ := trodAll_nil r1
  obtain rfl : args = #[v0, v1] := by cases args; simp_all
  obtain ⟨rfl, rfl⟩ := trodVars_none hV
  have hB : Rows.uptoBulkAll ([d0, d1] ++ []) ≤ 1048576 := of_decide_eq_true hsmall
  simp only [List.append_nil, Rows.uptoBulkAll] at hB
  obtain ⟨n0, h0⟩ := h0
  obtain ⟨cs0, rfl⟩ := ok_struct Tryz.underlying25 (hval 0 25 v0 rfl rfl)
  obtain ⟨e0, he0, hrow0⟩ := openM_pr n0 _ _ h0 (by dsimp only; omega)
  obtain ⟨n1, h1⟩ := h1
  obtain ⟨cs1, rfl⟩ := ok_struct Tryz.underlying60 (hval 1 60 v1 rfl rfl)
  obtain ⟨e1, he1, hrow1⟩ := open_st n1 _ _ h1 (by dsimp only; omega)
  obtain ⟨m, hm⟩ := globals_of hL hsh (by kernel_rfl) (.head _) (.tail _ (.tail _ (.tail _ (.tail _ (.tail _ (.tail _ (.tail _ (.head _))))))))
  refine (calls_of_run (FF_ok (subG m) 7 fi7 (by kernel_rfl)) (checkMore_run m e0 he0.1 he0.2 e1 he1) hm (W := W) (args := #[.agg cs0, .agg cs1]) ⟨⟨cs0.toList, by simp, hrow0⟩, ⟨cs1.toList, by simp, hrow1⟩, trivial⟩).mono ?_
  rintro e' W' ⟨o, H', E', ⟨rfl, rfl⟩, hout, hk, hos, hot⟩
  cases e' with
  | returned v =>
    obtain ⟨_, rfl⟩ := hout
    refine ⟨_, rfl, post_of_kept (ds := [d0, d1]) (gs := []) hW' rfl (by kernel_rfl) ?_ rfl hk hos hot⟩
    rw [Tryz.params7]
    intro t ht
    have hs : (300 : Nat) ≤ Tryz.prog.types.size := of_decide_eq_true (by kernel_rfl)
    rcases (show t = 25 ∨ t = 60 by simpa using ht) with rfl | rfl
    · exact Nat.lt_of_lt_of_le (by decide : 25 < 300) hs
    · exact Nat.lt_of_lt_of_le (by decide : 60 < 300) hs
  | _ => exact hout.elim
def wit : Array Value := #[.agg #[.int .i64 0, .slice none 0 0, .slice none 0 0, .slice none 0 0], .agg #[.int .u8 0, .int .i64 0, .string ⟨#[]⟩, .slice none 0 0, .int .u8 0, .int .i64 0, .bool false, .int .i32 0, .int .u64 0, .string ⟨#[]⟩, .slice none 0 0, .int .i32 0, .int .i32 0, .slice none 0 0, .slice none 0 0]]
theorem reads (os : Os) {H : Type} (enc : TypeId × Value → H) : ∃ ds places, DataW.whole enc Tryz.prog (laidMem os wit) Tryz.f7.params.toList Rows.checkMoreSpec.vars false wit.toList 8 = some (ds, [], places) ∧ Rows.uptoSmall H (ds ++ []) = true :=
  ⟨[.agg [.lit (.int .i64 0), .nil, .nil, .nil], .agg [.lit (.int .u8 0), .lit (.int .i64 0), .lit (.string []), .nil, .agg [.lit (.int .u8 0), .lit (.int .i64 0), .lit (.bool false), .lit (.int .i32 0), .lit (.int .u64 0), .lit (.string []), .nil], .lit (.int .i32 0), .lit (.int .i32 0), .nil, .nil]], [], by kernel_rfl, by kernel_rfl⟩
theorem liftedUpto (os : Os) (started : os.Started) (H : Type) (enc : TypeId × Value → H) (F : Stop.Interp) :
    ReturnsInHanded {} Tryz.checked os 7 .any ((Rows.OpenSpec.upto Rows.checkMoreSpec).preRow enc Tryz.prog Tryz.f7 Rows.checkMoreUptoRow.domain false Rows.checkMoreUptoRow.laid) (((Rows.OpenSpec.upto Rows.checkMoreSpec).at F).post enc Tryz.prog Tryz.f7 false true false false) := by
  obtain ⟨ds, places, hx, hs⟩ := reads os enc
  refine returnsInHanded_of_row (C := Tryz.checked) (s := Rows.OpenSpec.upto Rows.checkMoreSpec) own started (by kernel_rfl) Tryz.func7
    (witness_row_atRef (enc := enc) (C := Tryz.checked) false (laidWorld os) wit rfl (by kernel_rfl) (by kernel_rfl) (by kernel_rfl)
      (OpenSpec.preRow_of_cond 8 hx (by kernel_rfl) (fun k hk => by cases hk; exact hs) (by kernel_rfl) (laid_met os _))) ?_
  intro W base args ds gs before hval hW _ hcond _ hL hsh _
  exact contract H enc W base args ds gs before hval hW (hcond _ rfl) hL hsh
theorem saidUpto : Rows.CheckMoreUptoSaid :=
  OpenClaim.holds_of_cond 7 Tryz.f7 rfl rfl rfl rfl rfl rfl rfl ⟨rfl, rfl, rfl, rfl, rfl⟩ rfl rfl rfl rfl rfl (by kernel_rfl) Tryz.func7 (by kernel_rfl)
    (of_decide_eq_true (by kernel_rfl)) (by unfold Func.isWrapper; first | (rw [if_pos (by decide +kernel)]; kernel_rfl) | (rw [if_neg (by decide +kernel)]; exact ⟨rfl, rfl⟩))
    (fun os started H enc _ F => by rw [OpenClaim.pre_eq_preRow]; exact liftedUpto os started H enc F)
theorem plain (f : FuncId) (fn : Func) (hf : Tryz.pinned.checked.prog.funcNamed Rows.checkMoreUptoRow.func = some f) (hfn : Tryz.pinned.checked.prog.funcs[f]? = some fn) :
    true = Tryz.pinned.checked.prog.looks [] ∧ ∀ (j : Nat) t, fn.params[j]? = some t → Tryz.pinned.checked.prog.wantsStandIn t = false := by
  obtain rfl : f = 7 := Option.some.inj ((show Tryz.prog.funcNamed Rows.checkMoreUptoRow.func = some 7 by kernel_rfl).symm.trans hf) |>.symm
  obtain rfl : fn = Tryz.f7 := (Option.some.inj (Tryz.func7.symm.trans hfn)).symm
  refine ⟨by kernel_rfl, fun j t ht => ?_⟩
  rw [Tryz.params7] at ht
  rcases (show t = 25 ∨ t = 60 by simpa using Array.mem_of_getElem? ht) with rfl | rfl
  · exact (show Tryz.prog.wantsStandIn 25 = false by kernel_rfl)
  · exact (show Tryz.prog.wantsStandIn 60 = false by kernel_rfl)
theorem cardUpto : Rows.CheckMoreUptoCardSaid :=
  Claim7.holds_tied_plain_at .later [] _ _ _ _ saidUpto (fun _ h => by cases h) (by kernel_rfl) (fun _ h => by cases h) checkMoreUpto_row_tie rfl ⟨rfl, rfl⟩ (by kernel_rfl) rfl plain (by kernel_rfl)
end CheckMore
end Go.Proofs.YtbdnfkmcfencdaaGreatDoor
