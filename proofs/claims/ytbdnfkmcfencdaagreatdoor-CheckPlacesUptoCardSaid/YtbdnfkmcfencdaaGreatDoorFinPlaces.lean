/- CheckPlaces: for every input within the bound the law returns true, and each argument reads as it did. Condition: the card's own (the listed package-level variables hold what the program's text lays). -/
import Derived.Test.YtbdnfkmcfencdaaGreatDoorLawb
import Derived.Test.YtbdnfkmcfencdaaGreatDoorFin
namespace Go.Proofs.YtbdnfkmcfencdaaGreatDoor
namespace CheckPlaces
open Go
open Am Go.ChangeShapes Go.WideShapes Go.ChangeAt Go.RowKit
set_option maxRecDepth 100000
set_option maxHeartbeats 1000000

theorem contract (H : Type) (enc : TypeId × Value → H) (W : World) (base : Nat) (args : Array Value) (ds gs : List (DataW H)) (before : List MemPlace)
    (hval : ∀ (j : Nat) t v, Tryz.f4.params[j]? = some t → args[j]? = some v → Value.okWide Tryz.prog W .any base t v)
    (hW : DataW.Whole enc Tryz.prog Tryz.f4.params.toList Rows.checkPlacesSpec.vars false W args.toList ds gs before) (hsmall : Rows.uptoSmall H (ds ++ gs) = true) (hL : laidMetH Tryz.prog Rows.checkPlacesUptoRow.laid W) (hsh : W.ShapedOpen Tryz.prog) :
    Calls Tryz.prog 4 args W fun e W' => ∃ v, e = .returned v ∧ Rows.checkPlacesSpec.post enc Tryz.prog Tryz.f4 false true false false W args v W' := by
  have hW' := hW
  obtain ⟨p, q, hA0, hV, rfl, hfz, hnd⟩ := hW
  have hA : DataW.TrodAll enc Tryz.prog W 0 (fun _ => true) true Tryz.f4.params.toList args.toList ds p := hA0
  rw [Tryz.params4] at hA hval
  obtain ⟨v0, vs0, d0, ds0, p0, q0, hargs, rfl, rfl, h0, r0⟩ := trodAll_cons hA
  obtain ⟨v1, vs1, d1, ds1, p1, q1, rfl, rfl, rfl, h1, r1⟩ := trodAll_cons r0
  obtain ⟨rfl, rfl, rfl⟩ := trodAll_nil r1
  obtain rfl : args = #[v0, v1] := by cases args; simp_all
  obtain ⟨rfl, rfl⟩ := trodVars_none hV
  have hB : Rows.uptoBulkAll ([d0, d1] ++ []) ≤ 1048576 := of_decide_eq_true hsmall
  simp only [List.append_nil, Rows.uptoBulkAll] at hB
  obtain ⟨n0, h0⟩ := h0
  obtain ⟨cs0, rfl⟩ := ok_struct Tryz.underlying25 (hval 0 25 v0 rfl rfl)
  obtain ⟨e0, he0, hrow0⟩ := open_pr n0 _ _ h0 (by dsimp only; omega)
  obtain ⟨n1, h1⟩ := h1
  obtain ⟨k1, rfl⟩ := ok_int Tryz.underlying3 (hval 1 3 v1 rfl rfl)
  obtain ⟨x1, hx1, lo1, hi1⟩ := trod_int Tryz.underlying3 h1
  obtain rfl : k1 = x1 := by simpa [Value.cells] using hx1
  replace lo1 : -9223372036854775808 ≤ k1 := lo1
  replace hi1 : k1 ≤ 9223372036854775807 := hi1
  obtain ⟨m, hm⟩ := globals_of hL hsh (by kernel_rfl) (.head _) (.tail _ (.tail _ (.tail _ (.tail _ (.tail _ (.tail _ (.tail _ (.head _))))))))
  refine (calls_of_run (FF_ok (subG m) 4 fi4 (by kernel_rfl)) (checkPlaces_run m e0 he0 k1 ⟨lo1, by omega⟩) hm (W := W) (args := #[.agg cs0, .int .i64 k1]) ⟨⟨cs0.toList, by simp, hrow0⟩, rep_int, trivial⟩).mono ?_
  rintro e' W' ⟨o, H', E', ⟨rfl, rfl⟩, hout, hk, hos, hot⟩
  cases e' with
  | returned v =>
    obtain ⟨_, rfl⟩ := hout
    refine ⟨_, rfl, post_of_kept (ds := [d0, d1]) (gs := []) hW' rfl (by kernel_rfl) ?_ rfl hk hos hot⟩
    rw [Tryz.params4]
    intro t ht
    have hs : (300 : Nat) ≤ Tryz.prog.types.size := of_decide_eq_true (by kernel_rfl)
    rcases (show t = 25 ∨ t = 3 by simpa using ht) with rfl | rfl
    · exact Nat.lt_of_lt_of_le (by decide : 25 < 300) hs
    · exact Nat.lt_of_lt_of_le (by decide : 3 < 300) hs
  | _ => exact hout.elim
def wit : Array Value := #[.agg #[.int .i64 0, .slice none 0 0, .slice none 0 0, .slice none 0 0], .int .i64 0]
theorem reads (os : Os) {H : Type} (enc : TypeId × Value → H) : ∃ ds places, DataW.whole enc Tryz.prog (laidMem os wit) Tryz.f4.params.toList Rows.checkPlacesSpec.vars false wit.toList 8 = some (ds, [], places) ∧ Rows.uptoSmall H (ds ++ []) = true :=
  ⟨[.agg [.lit (.int .i64 0), .nil, .nil, .nil], .lit (.int .i64 0)], [], by kernel_rfl, by kernel_rfl⟩
theorem liftedUpto (os : Os) (started : os.Started) (H : Type) (enc : TypeId × Value → H) (F : Stop.Interp) :
    ReturnsInHanded {} Tryz.checked os 4 .any ((Rows.OpenSpec.upto Rows.checkPlacesSpec).preRow enc Tryz.prog Tryz.f4 Rows.checkPlacesUptoRow.domain false Rows.checkPlacesUptoRow.laid) (((Rows.OpenSpec.upto Rows.checkPlacesSpec).at F).post enc Tryz.prog Tryz.f4 false true false false) := by
  obtain ⟨ds, places, hx, hs⟩ := reads os enc
  refine returnsInHanded_of_row (C := Tryz.checked) (s := Rows.OpenSpec.upto Rows.checkPlacesSpec) own started (by kernel_rfl) Tryz.func4
    (witness_row_atRef (enc := enc) (C := Tryz.checked) false (laidWorld os) wit rfl (by kernel_rfl) (by kernel_rfl) (by kernel_rfl)
      (OpenSpec.preRow_of_cond 8 hx (by kernel_rfl) (fun k hk => by cases hk; exact hs) (by kernel_rfl) (laid_met os _))) ?_
  intro W base args ds gs before hval hW _ hcond _ hL hsh _
  exact contract H enc W base args ds gs before hval hW (hcond _ rfl) hL hsh
theorem saidUpto : Rows.CheckPlacesUptoSaid :=
  OpenClaim.holds_of_cond 4 Tryz.f4 rfl rfl rfl rfl rfl rfl rfl ⟨rfl, rfl, rfl, rfl, rfl⟩ rfl rfl rfl rfl rfl (by kernel_rfl) Tryz.func4 (by kernel_rfl)
    (of_decide_eq_true (by kernel_rfl)) (by unfold Func.isWrapper; first | (rw [if_pos (by decide +kernel)]; kernel_rfl) | (rw [if_neg (by decide +kernel)]; exact ⟨rfl, rfl⟩))
    (fun os started H enc _ F => by rw [OpenClaim.pre_eq_preRow]; exact liftedUpto os started H enc F)
theorem plain (f : FuncId) (fn : Func) (hf : Tryz.pinned.checked.prog.funcNamed Rows.checkPlacesUptoRow.func = some f) (hfn : Tryz.pinned.checked.prog.funcs[f]? = some fn) :
    true = Tryz.pinned.checked.prog.looks [] ∧ ∀ (j : Nat) t, fn.params[j]? = some t → Tryz.pinned.checked.prog.wantsStandIn t = false := by
  obtain rfl : f = 4 := Option.some.inj ((show Tryz.prog.funcNamed Rows.checkPlacesUptoRow.func = some 4 by kernel_rfl).symm.trans hf) |>.symm
  obtain rfl : fn = Tryz.f4 := (Option.some.inj (Tryz.func4.symm.trans hfn)).symm
  refine ⟨by kernel_rfl, fun j t ht => ?_⟩
  rw [Tryz.params4] at ht
  rcases (show t = 25 ∨ t = 3 by simpa using Array.mem_of_getElem? ht) with rfl | rfl
  · exact (show Tryz.prog.wantsStandIn 25 = false by kernel_rfl)
  · exact (show Tryz.prog.wantsStandIn 3 = false by kernel_rfl)
theorem cardUpto : Rows.CheckPlacesUptoCardSaid :=
  Claim7.holds_tied_plain_at .later [] _ _ _ _ saidUpto (fun _ h => by cases h) (by kernel_rfl) (fun _ h => by cases h) checkPlacesUpto_row_tie rfl ⟨rfl, rfl⟩ (by kernel_rfl) rfl plain (by kernel_rfl)
end CheckPlaces
end Go.Proofs.YtbdnfkmcfencdaaGreatDoor
