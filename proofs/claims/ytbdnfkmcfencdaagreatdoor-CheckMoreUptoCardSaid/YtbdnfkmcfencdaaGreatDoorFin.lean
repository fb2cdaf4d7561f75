/- What a reading of data says of the values: slices, structs. No condition. -/
import Derived.Test.YtbdnfkmcfencdaaGreatDoorAme
import Derived.Test.YtbdnfkmcfencdaaGreatDoorRows
import Derived.ChangeReads
import Derived.Test.YtbdnfkmcfencdaaGreatDoorCka
import Derived.ProofKit
import Derived.OpenShut
import Derived.ReadAgain
import Derived.Lib.LaidTab
import Derived.Test.YtbdnfkmcfencdaaGreatDoorCards
import Derived.Test.YtbdnfkmcfencdaaGreatDoorTie
import Derived.Deep.DeepHandedRow
import Derived.Deep.DeepWitnessRowRef
import Derived.Lib.LaidIn
namespace Go.Proofs.YtbdnfkmcfencdaaGreatDoor
namespace Am
open Go
set_option maxRecDepth 100000
set_option maxHeartbeats 1000000

/-- All that the world holds is known, but for the machine's own records. -/
def worldEnv (W : World) : Env where
  Γ := fun b => match W.heap[b]? with
    | some o => if isRec o = true then none else some o
    | none => none
  im := fun b => (match W.heap[b]? with
    | some o => if isRec o = true then none else some o
    | none => (none : Option Obj)) ≠ none
  loc := fun _ => .absent
  n := fun _ => 0
  tot := fun _ => 0
  z := fun _ => 0
theorem worldEnv_cells {W : World} {b : Nat} {arr : Array Value} {T : TypeId} {fr : Nat × Nat} (h : W.heap[b]? = some (.cells arr T fr)) : (worldEnv W).Γ b = some (.cells arr T fr) := by
  simp [worldEnv, h, isRec]
theorem worldEnv_ok (W : World) : (worldEnv W).Ok W where
  mem b o h := by
    simp only [worldEnv] at h
    split at h
    · rename_i o' e
      split at h
      · cases h
      · cases h; exact e
    · cases h
  im b h := h
  norec b o h := by
    simp only [worldEnv] at h
    split at h
    · split at h
      · cases h
      · rename_i hr; cases h; simpa using hr
    · cases h
theorem worldEnv_heap (W : World) : RepH (worldEnv W) W [] fun _ => [] where
  obj k o h := by simp at h
  beyond k _ := ⟨rfl, rfl⟩
  nodup _ := List.nodup_nil
  apart _ _ _ _ h := by cases h
  free _ _ h := by cases h

section
variable {H : Type} {enc : TypeId × Value → H} {P : Program} {w : World} {base : Nat} {sp : Nat → Bool} {held : Bool} {n : Nat} {t : TypeId} {cs : List Value} {x : DataW H × List MemPlace}
theorem trod_bool (ht : P.underlying t = some .bool) (h : DataW.trod enc P w base sp held n t cs = some x) : ∃ b, cs = [.bool b] := by
  cases n with
  | zero => simp [DataW.trod] at h
  | succ n =>
    rw [DataW.trod_step] at h
    unfold DataW.trodStep at h
    rw [ht] at h
    split at h <;> simp_all
theorem trod_int {k : IntKind} (ht : P.underlying t = some (.int k)) (h : DataW.trod enc P w base sp held n t cs = some x) : ∃ v, cs = [.int k v] ∧ k.min ≤ v ∧ v ≤ k.max := by
  cases n with
  | zero => simp [DataW.trod] at h
  | succ n =>
    rw [DataW.trod_step] at h
    unfold DataW.trodStep at h
    rw [ht] at h
    split at h <;> simp_all [Lit.wf]
theorem trod_string (ht : P.underlying t = some .string) (h : DataW.trod enc P w base sp held n t cs = some x) : ∃ s, cs = [.string s] ∧ x.1 = .lit (.string s.data.toList) := by
  cases n with
  | zero => simp [DataW.trod] at h
  | succ n =>
    rw [DataW.trod_step] at h
    unfold DataW.trodStep at h
    rw [ht] at h
    split at h <;> simp_all
    exact h.2 ▸ rfl
theorem trod_slice {e : TypeId} (ht : P.underlying t = some (.slice e)) (h : DataW.trod enc P w base sp held n t cs = some x) : (cs = [.slice none 0 0] ∧ x.1 = .nil) ∨
    ∃ a len cap m elems rest, cs = [.slice (some a) len cap] ∧ n = m + 1 ∧ len ≤ cap ∧ x.1 = .slice (elems.map (·.1)) rest ∧
      (List.range len).mapM (fun i => (w.cells? base (a.add (i * P.cellsOf e)) (P.cellsOf e)).bind (DataW.trod enc P w base sp held m e)) = some elems := by
  cases n with
  | zero => simp [DataW.trod] at h
  | succ n =>
    rw [DataW.trod_step] at h
    unfold DataW.trodStep at h
    rw [ht] at h
    split at h <;> simp_all
    · exact h ▸ rfl
    · obtain ⟨⟨h1, h2, h3⟩, h4⟩ := h
      obtain ⟨elems, h5, h6⟩ := Option.bind_eq_some_iff.1 h4
      obtain ⟨rest, h7, h8⟩ := Option.map_eq_some_iff.1 h6
      refine ⟨_, _, _, ⟨rfl, rfl, rfl⟩, h2, elems, ⟨rest.map (·.1), ?_⟩, h5⟩
      exact h8 ▸ rfl
theorem trod_struct {fs : Array Field} (ht : P.underlying t = some (.struct fs)) (h : DataW.trod enc P w base sp held n t cs = some x) :
    ∃ m xs, n = m + 1 ∧ cs.length = P.cellsOf t ∧ x.1 = .agg (xs.map (·.1)) ∧
      fs.toList.mapM (fun f => DataW.trod enc P w base sp held m f.type ((cs.drop f.offset).take (P.cellsOf f.type))) = some xs := by
  cases n with
  | zero => simp [DataW.trod] at h
  | succ n =>
    rw [DataW.trod_step] at h
    unfold DataW.trodStep at h
    rw [ht] at h
    split at h <;> simp_all
    obtain ⟨h1, a, h2, h3⟩ := h
    exact ⟨a, h3 ▸ rfl, h2⟩
theorem mapM_len {α β : Type} {f : α → Option β} : ∀ {l : List α} {r : List β}, l.mapM f = some r → r.length = l.length
  | [], r, h => by cases h; rfl
  | a :: l, r, h => by
    rw [List.mapM_cons] at h
    simp only [Option.bind_eq_bind, Option.bind_eq_some_iff, Option.pure_def, Option.some.injEq] at h
    obtain ⟨y, _, ys, h2, rfl⟩ := h
    simp [mapM_len h2]
theorem mapM_get {α β : Type} {f : α → Option β} : ∀ {l : List α} {r : List β} {i : Nat} {a : α} {b : β}, l.mapM f = some r → l[i]? = some a → r[i]? = some b → f a = some b
  | [], r, i, a, b, h, h1, _ => by simp at h1
  | a0 :: l, r, i, a, b, h, h1, h2 => by
    rw [List.mapM_cons] at h
    simp only [Option.bind_eq_bind, Option.bind_eq_some_iff, Option.pure_def, Option.some.injEq] at h
    obtain ⟨y, h3, ys, h4, rfl⟩ := h
    cases i with
    | zero => simp at h1 h2; subst h1 h2; exact h3
    | succ i => simp at h1 h2; exact mapM_get h4 h1 h2
theorem cells_get {w : World} {base : Nat} {a : Addr} {n : Nat} {l : List Value} (h : w.cells? base a n = some l) : l.length = n ∧ ∀ i, i < n → w.cell? (a.add i) = l[i]? := by
  unfold World.cells? at h
  split at h
  · have hl := mapM_len h
    simp at hl
    refine ⟨hl, fun i hi => ?_⟩
    obtain ⟨v, hv⟩ : ∃ v, l[i]? = some v := ⟨_, List.getElem?_eq_getElem (by omega)⟩
    rw [hv]
    exact mapM_get (f := fun i => w.cell? (a.add i)) h (List.getElem?_range hi) hv
  · cases h
theorem cells_row {w : World} {base : Nat} {a : Addr} {n : Nat} {l : List Value} (hn : 0 < n) (h : w.cells? base a n = some l) : a.spot = none ∧ ∃ arr T fr, w.heap[a.block]? = some (.cells arr T fr) ∧ (arr.toList.drop a.off).take n = l := by
  obtain ⟨hl, hg⟩ := cells_get h
  have h0 := hg 0 hn
  obtain ⟨v, hv⟩ : ∃ v, l[0]? = some v := ⟨_, List.getElem?_eq_getElem (by omega)⟩
  rw [hv] at h0
  have ha : a.add 0 = a := by simp [Addr.add]
  rw [ha] at h0
  unfold World.cell? at h0
  split at h0
  · rename_i arr T fr he
    split at h0
    · cases h0
    · rename_i hs
      have hspot : a.spot = none := by cases h : a.spot with | none => rfl | some _ => simp [h] at hs
      refine ⟨hspot, arr, T, fr, he, ?_⟩
      apply List.ext_getElem?
      intro i
      by_cases hi : i < n
      · have hi2 := hg i hi
        unfold World.cell? at hi2
        have hb : (a.add i).block = a.block := by unfold Addr.add; split <;> rfl
        have ho : (a.add i).off = a.off + i := by unfold Addr.add; split <;> simp_all
        have hsp : (a.add i).spot.isSome = false := by unfold Addr.add; split <;> simp_all
        rw [hb, he] at hi2
        simp only [hsp, ho] at hi2
        rw [← hi2, List.getElem?_take, if_pos hi, List.getElem?_drop]
        simp
      · rw [List.getElem?_take, if_neg hi, List.getElem?_eq_none (by omega)]
  · cases h0
/-- A slice of things that are known one by one. -/
theorem open_slice {α : Type} {row : α → List AV} {good : α → Prop} {e : TypeId} {z : Nat} {B : Nat} (hz : 0 < z) (ht : P.underlying t = some (.slice e)) (hc : P.cellsOf e = z)
    (hlen : ∀ a, (row a).length = z) (hpure : ∀ a, (pureAVs (row a) && okCells (row a)) = true)
    (elem : ∀ m cs x, m < n → DataW.trod enc P w base sp held m e cs = some x → Rows.uptoBulk x.1 ≤ B → ∃ a : α, good a ∧ RepVs (worldEnv w) (row a) cs)
    (h : DataW.trod enc P w base sp held n t cs = some x) (hB : Rows.uptoBulk x.1 ≤ B) :
    ∃ l : List α, (∀ a ∈ l, good a) ∧ l.length ≤ Rows.uptoBulk x.1 ∧ ∃ v, cs = [v] ∧ RepV (worldEnv w) (.imm z (l.map row)) v := by
  rcases trod_slice ht h with ⟨rfl, _⟩ | ⟨a, len, cap, m, elems, rest, rfl, rfl, hcap, hx, hm⟩
  · exact ⟨[], by simp, by simp, _, rfl, ⟨none, 0, rfl, Nat.le_refl _, .inl rfl⟩⟩
  · rw [hc] at hm
    have hb : ∀ (l : List (DataW H)) d, d ∈ l → Rows.uptoBulk d ≤ Rows.uptoBulkAll l := by
      intro l
      induction l with
      | nil => intro d h; cases h
      | cons y l ih =>
        intro d h
        simp only [Rows.uptoBulkAll]
        rcases List.mem_cons.1 h with rfl | h
        · omega
        · have := ih d h; omega
    have hpos : ∀ d : DataW H, 1 ≤ Rows.uptoBulk d := by
      intro d
      cases d with
      | lit l => cases l <;> simp only [Rows.uptoBulk] <;> omega
      | _ => simp only [Rows.uptoBulk] <;> omega
    have hcount : ∀ l : List (DataW H), l.length ≤ Rows.uptoBulkAll l := by
      intro l
      induction l with
      | nil => simp
      | cons y l ih => simp only [Rows.uptoBulkAll, List.length_cons]; have := hpos y; omega
    have hel := mapM_len hm
    simp at hel
    have hall : Rows.uptoBulkAll (elems.map (·.1)) ≤ Rows.uptoBulk x.1 := by rw [hx]; simp only [Rows.uptoBulk]; omega
    have key : ∀ k, k ≤ len → ∃ l : List α, l.length = len - k ∧ (∀ a ∈ l, good a) ∧ (l = [] ∨ (a.spot = none ∧ ∃ arr T fr, w.heap[a.block]? = some (.cells arr T fr) ∧ RepEs (worldEnv w) z (l.map row) (arr.toList.drop (a.off + k * z)))) := by
      intro k hk
      induction hn : len - k generalizing k with
      | zero => exact ⟨[], by simp, by simp, .inl rfl⟩
      | succ j ih =>
        obtain ⟨l, h1, h2, h3⟩ := ih (k + 1) (by omega) (by omega)
        obtain ⟨y, hy⟩ : ∃ y, elems[k]? = some y := ⟨_, List.getElem?_eq_getElem (by omega)⟩
        have hg := mapM_get hm (i := k) (a := k) (List.getElem?_range (by omega)) hy
        obtain ⟨ce, h4, h5⟩ := Option.bind_eq_some_iff.1 hg
        have hby : Rows.uptoBulk y.1 ≤ B := by
          have := hb _ _ (List.mem_map_of_mem (f := (·.1)) (List.mem_of_getElem? hy))
          omega
        obtain ⟨a0, hgood, hrep⟩ := elem m ce y (by omega) h5 hby
        obtain ⟨hs, arr, T, fr, h6, h7⟩ := cells_row hz h4
        have hblk : (a.add (k * z)).block = a.block := by unfold Addr.add; split <;> rfl
        have hoff : (a.add (k * z)).off = a.off + k * z := by
          unfold Addr.add
          split
          · rename_i h0; rw [h0]; rfl
          · rfl
        rw [hblk] at h6
        rw [hoff] at h7
        have hspot : a.spot = none := by
          rcases h3 with rfl | ⟨h, _⟩
          · simp at h1
            -- the last one: any element tells
            by_cases hk0 : k = 0
            · subst hk0; simpa [Addr.add] using hs
            · obtain ⟨y0, hy0⟩ : ∃ y, elems[0]? = some y := ⟨_, List.getElem?_eq_getElem (by omega)⟩
              have hg0 := mapM_get hm (i := 0) (a := 0) (List.getElem?_range (by omega)) hy0
              obtain ⟨c0, h40, _⟩ := Option.bind_eq_some_iff.1 hg0
              have := (cells_row hz h40).1
              simpa [Addr.add] using this
          · exact h
        refine ⟨a0 :: l, by simp only [List.length_cons]; omega, fun b hb => ?_, .inr ⟨hspot, arr, T, fr, h6, ?_⟩⟩
        · rcases List.mem_cons.1 hb with rfl | hb
          · exact hgood
          · exact h2 b hb
        · simp only [List.map_cons, RepEs]
          refine ⟨hlen a0, ?_, ?_⟩
          · rw [h7]; exact hrep
          · rw [List.drop_drop]
            rcases h3 with rfl | ⟨_, arr', T', fr', h8, h9⟩
            · simp [RepEs]
            · rw [h6] at h8
              cases h8
              rw [show a.off + k * z + z = a.off + (k + 1) * z by rw [Nat.succ_mul]; omega]
              exact h9
    obtain ⟨l, h1, h2, h3⟩ := key 0 (Nat.zero_le _)
    have hll : l.length = len := by omega
    refine ⟨l, h2, ?_, _, rfl, some a, cap, by rw [List.length_map, hll], by rw [List.length_map]; omega, ?_⟩
    · have := hcount (elems.map (·.1))
      simp at this
      omega
    · rcases h3 with rfl | ⟨hspot, arr, T, fr, h4, h5⟩
      · exact .inl rfl
      · refine .inr ⟨a.block, a.off, arr, T, fr, ?_, ?_, worldEnv_cells h4, ?_, by simpa using h5⟩
        · cases a; simp_all
        · have := worldEnv_cells h4
          show (worldEnv w).Γ a.block ≠ none
          rw [this]; nofun
        · clear h1 h2 h5 hll
          induction l with
          | nil => rfl
          | cons b l ih => simp only [List.map_cons, pureEs, hpure b, ih, Bool.true_and]
end
end Am
end Go.Proofs.YtbdnfkmcfencdaaGreatDoor
/- Law 12: programs, opened. No condition. -/
namespace Go.Proofs.YtbdnfkmcfencdaaGreatDoor
namespace Am
open Go
set_option maxRecDepth 100000
set_option maxHeartbeats 1000000

theorem c3 : Tryz.prog.cellsOf 3 = 1 := by kernel_rfl
theorem c4 : Tryz.prog.cellsOf 4 = 1 := by kernel_rfl
theorem c9 : Tryz.prog.cellsOf 9 = 1 := by kernel_rfl
theorem c21 : Tryz.prog.cellsOf 21 = 1 := by kernel_rfl
theorem c22 : Tryz.prog.cellsOf 22 = 1 := by kernel_rfl
theorem c23 : Tryz.prog.cellsOf 23 = 1 := by kernel_rfl
theorem c25 : Tryz.prog.cellsOf 25 = 4 := by kernel_rfl
theorem c36 : Tryz.prog.cellsOf 36 = 1 := by kernel_rfl
theorem c37 : Tryz.prog.cellsOf 37 = 1 := by kernel_rfl
theorem c39 : Tryz.prog.cellsOf 39 = 1 := by kernel_rfl
theorem c40 : Tryz.prog.cellsOf 40 = 1 := by kernel_rfl
theorem c42 : Tryz.prog.cellsOf 42 = 7 := by kernel_rfl
theorem c44 : Tryz.prog.cellsOf 44 = 20 := by kernel_rfl
theorem c58 : Tryz.prog.cellsOf 58 = 1 := by kernel_rfl
theorem c60 : Tryz.prog.cellsOf 60 = 15 := by kernel_rfl
theorem row_len : ∀ e : Xp, e.row.length = 7
  | .mk .. => rfl
theorem row_pure : ∀ e : Xp, (pureAVs e.row && okCells e.row) = true
  | .mk .. => rfl
theorem st_len : ∀ e : St, e.row.length = 15
  | .mk _ _ _ _ (.mk ..) _ _ _ _ => rfl
theorem st_pure : ∀ e : St, (pureAVs e.row && okCells e.row) = true
  | .mk _ _ _ _ (.mk ..) _ _ _ _ => rfl
theorem de_len : ∀ e : De, e.row.length = 20
  | ⟨_, _, _, _, _, _, .mk .., .mk ..⟩ => rfl
theorem de_pure : ∀ e : De, (pureAVs e.row && okCells e.row) = true
  | ⟨_, _, _, _, _, _, .mk .., .mk ..⟩ => rfl

section
variable {H : Type} {enc : TypeId × Value → H} {w : World} {base : Nat} {sp : Nat → Bool} {held : Bool}
theorem bulk_le {d : DataW H} : ∀ {l : List (DataW H)}, d ∈ l → Rows.uptoBulk d ≤ Rows.uptoBulkAll l
  | y :: l, h => by
    simp only [Rows.uptoBulkAll]
    rcases List.mem_cons.1 h with rfl | h
    · omega
    · have := bulk_le (l := l) h; omega
theorem rep_int {E : Env} {k : IntKind} {n : Int} : RepV E (.v (.int k n)) (.int k n) := ⟨rfl, rfl⟩
theorem rep_bool {E : Env} {b : Bool} : RepV E (.v (.bool b)) (.bool b) := ⟨rfl, rfl⟩
theorem rep_string {E : Env} {b : ByteArray} : RepV E (.v (.string b)) (.string b) := ⟨rfl, rfl⟩
theorem bulk_string' {s : ByteArray} : s.data.toList.length = s.size := by
  cases s; simp [ByteArray.size]
theorem xpsOk_of : ∀ l : List Xp, (∀ a ∈ l, a.Ok) → XpsOk l
  | [], _ => trivial
  | x :: l, h => ⟨h x (List.mem_cons_self ..), xpsOk_of l fun a ha => h a (List.mem_cons_of_mem _ ha)⟩
theorem stsOk_of : ∀ l : List St, (∀ a ∈ l, a.Ok) → StsOk l
  | [], _ => trivial
  | x :: l, h => ⟨h x (List.mem_cons_self ..), stsOk_of l fun a ha => h a (List.mem_cons_of_mem _ ha)⟩
theorem openS_xp : ∀ (n : Nat) (cs : List Value) (x : DataW H × List MemPlace), DataW.trod enc Tryz.prog w base sp held n 42 cs = some x → Rows.uptoBulk x.1 ≤ 1048576 → ∃ e : Xp, (e.Ok ∧ e.Short) ∧ RepVs (worldEnv w) e.row cs := by
  intro n
  induction n using Nat.strongRecOn with
  | ind n ih =>
    intro cs x h hB
    obtain ⟨m, xs, rfl, hl, hx, hm⟩ := trod_struct Tryz.underlying42 h
    rw [c42] at hl
    obtain ⟨v0, v1, v2, v3, v4, v5, v6, rfl⟩ : ∃ v0 v1 v2 v3 v4 v5 v6, cs = [v0, v1, v2, v3, v4, v5, v6] := by
      match cs, hl with
      | [v0, v1, v2, v3, v4, v5, v6], _ => exact ⟨_, _, _, _, _, _, _, rfl⟩
    simp only [List.mapM_cons, List.mapM_nil, Option.bind_eq_bind, Option.bind_eq_some_iff, Option.pure_def, Option.some.injEq, c37, c3, c4, c21, c39, c9, c40, List.drop_succ_cons, List.drop_zero, List.take_succ_cons, List.take_zero] at hm
    obtain ⟨x0, h0, _, ⟨x1, h1, _, ⟨x2, h2, _, ⟨x3, h3, _, ⟨x4, h4, _, ⟨x5, h5, _, ⟨x6, h6, _, rfl, rfl⟩, rfl⟩, rfl⟩, rfl⟩, rfl⟩, rfl⟩, rfl⟩ := hm
    obtain ⟨i0, e0, a0, b0⟩ := trod_int Tryz.underlying37 h0
    obtain ⟨i1, e1, a1, b1⟩ := trod_int Tryz.underlying3 h1
    obtain ⟨i2, e2⟩ := trod_bool Tryz.underlying4 h2
    obtain ⟨i3, e3, a3, b3⟩ := trod_int Tryz.underlying21 h3
    obtain ⟨i4, e4, a4, b4⟩ := trod_int Tryz.underlying39 h4
    obtain ⟨i5, e5, g5⟩ := trod_string Tryz.underlying9 h5
    simp only [hx, List.map_cons, List.map_nil, Rows.uptoBulk, Rows.uptoBulkAll, g5] at hB
    rw [bulk_string'] at hB
    obtain ⟨l, hl1, hl2, v, e6, hl3⟩ := open_slice (row := Xp.row) (good := fun e => e.Ok ∧ e.Short) (B := 1048576) (by decide) Tryz.underlying40 c42 row_len row_pure (fun m' cs x hm' h hb => ih m' (by omega) cs x h hb) h6 (by omega)
    cases e0; cases e1; cases e2; cases e3; cases e4; cases e5; cases e6
    have u8a : IntKind.u8.min = 0 := rfl
    have u8b : IntKind.u8.max = 255 := rfl
    have i64a : IntKind.i64.min = -9223372036854775808 := rfl
    have i64b : IntKind.i64.max = 9223372036854775807 := rfl
    have i32a : IntKind.i32.min = -2147483648 := rfl
    have i32b : IntKind.i32.max = 2147483647 := rfl
    have u64a : IntKind.u64.min = 0 := rfl
    have u64b : IntKind.u64.max = 18446744073709551615 := rfl
    rw [u8a] at a0; rw [u8b] at b0; rw [i64a] at a1; rw [i64b] at b1; rw [i32a] at a3; rw [i32b] at b3; rw [u64a] at a4; rw [u64b] at b4
    obtain ⟨f, rfl⟩ := Int.eq_ofNat_of_zero_le a4
    refine ⟨.mk i0 i1 i2 i3 f i5 l, ?_, ?_⟩
    · rw [Xp.Ok, Xp.Short]
      exact ⟨⟨⟨by omega, by omega⟩, ⟨by omega, by omega⟩, ⟨by omega, by omega⟩, by omega, by omega, by omega, xpsOk_of l fun a ha => (hl1 a ha).1⟩, by omega, xpsShort_of l fun a ha => (hl1 a ha).2⟩
    · rw [Xp.row, exRows_eq]
      exact ⟨rep_int, rep_int, rep_bool, rep_int, rep_int, rep_string, hl3, trivial⟩
theorem openS_xps {n : Nat} {cs : List Value} {x : DataW H × List MemPlace} (h : DataW.trod enc Tryz.prog w base sp held n 40 cs = some x) (hB : Rows.uptoBulk x.1 ≤ 1048576) :
    ∃ l : List Xp, (XpsOk l ∧ XpsShort l) ∧ l.length ≤ 1048576 ∧ ∃ v, cs = [v] ∧ RepV (worldEnv w) (.imm 7 (exRows l)) v := by
  obtain ⟨l, hl1, hl2, v, e6, hl3⟩ := open_slice (row := Xp.row) (good := fun e => e.Ok ∧ e.Short) (B := 1048576) (by decide) Tryz.underlying40 c42 row_len row_pure (fun m' cs x _ h hb => openS_xp m' cs x h hb) h hB
  exact ⟨l, ⟨xpsOk_of l fun a ha => (hl1 a ha).1, xpsShort_of l fun a ha => (hl1 a ha).2⟩, by omega, v, e6, by rw [exRows_eq]; exact hl3⟩
theorem rep_append {E : Env} {a b : List AV} {x y : List Value} (h : RepVs E a x) (k : RepVs E b y) : RepVs E (a ++ b) (x ++ y) := h.append k
theorem openS_st : ∀ (n : Nat) (cs : List Value) (x : DataW H × List MemPlace), DataW.trod enc Tryz.prog w base sp held n 60 cs = some x → Rows.uptoBulk x.1 ≤ 1048576 → ∃ e : St, (e.Ok ∧ e.Short) ∧ RepVs (worldEnv w) e.row cs := by
  intro n
  induction n using Nat.strongRecOn with
  | ind n ih =>
    intro cs x h hB
    obtain ⟨m, xs, rfl, hl, hx, hm⟩ := trod_struct Tryz.underlying60 h
    rw [c60] at hl
    obtain ⟨v0, v1, v2, v3, v4, v5, v6, v7, v8, v9, v10, v11, v12, v13, v14, rfl⟩ : ∃ v0 v1 v2 v3 v4 v5 v6 v7 v8 v9 v10 v11 v12 v13 v14, cs = [v0, v1, v2, v3, v4, v5, v6, v7, v8, v9, v10, v11, v12, v13, v14] := by
      match cs, hl with
      | [v0, v1, v2, v3, v4, v5, v6, v7, v8, v9, v10, v11, v12, v13, v14], _ => exact ⟨_, _, _, _, _, _, _, _, _, _, _, _, _, _, _, rfl⟩
    simp only [List.mapM_cons, List.mapM_nil, Option.bind_eq_bind, Option.bind_eq_some_iff, Option.pure_def, Option.some.injEq, c58, c3, c9, c40, c42, c21, c23, List.drop_succ_cons, List.drop_zero, List.take_succ_cons, List.take_zero] at hm
    obtain ⟨x0, h0, _, ⟨x1, h1, _, ⟨x2, h2, _, ⟨x3, h3, _, ⟨x4, h4, _, ⟨x5, h5, _, ⟨x6, h6, _, ⟨x7, h7, _, ⟨x8, h8, _, rfl, rfl⟩, rfl⟩, rfl⟩, rfl⟩, rfl⟩, rfl⟩, rfl⟩, rfl⟩, rfl⟩ := hm
    obtain ⟨i0, e0, a0, b0⟩ := trod_int Tryz.underlying58 h0
    obtain ⟨i1, e1, a1, b1⟩ := trod_int Tryz.underlying3 h1
    obtain ⟨i2, e2, g2⟩ := trod_string Tryz.underlying9 h2
    obtain ⟨i5, e5, a5, b5⟩ := trod_int Tryz.underlying21 h5
    obtain ⟨i6, e6, a6, b6⟩ := trod_int Tryz.underlying21 h6
    simp only [hx, List.map_cons, List.map_nil, Rows.uptoBulk, Rows.uptoBulkAll, g2] at hB
    rw [bulk_string'] at hB
    obtain ⟨ix, k1, k2, w3, e3, k3⟩ := openS_xps h3 (by omega)
    obtain ⟨ex, k4, k5⟩ := openS_xp _ _ _ h4 (by omega)
    obtain ⟨th, t1, t2, w7, e7, t3⟩ := open_slice (row := St.row) (good := fun e => e.Ok ∧ e.Short) (B := 1048576) (by decide) Tryz.underlying23 c60 st_len st_pure (fun m' cs x hm' h hb => ih m' (by omega) cs x h hb) h7 (by omega)
    obtain ⟨el, l1, l2, w8, e8, l3⟩ := open_slice (row := St.row) (good := fun e => e.Ok ∧ e.Short) (B := 1048576) (by decide) Tryz.underlying23 c60 st_len st_pure (fun m' cs x hm' h hb => ih m' (by omega) cs x h hb) h8 (by omega)
    cases e0; cases e1; cases e2; cases e3; cases e5; cases e6; cases e7; cases e8
    have u8a : IntKind.u8.min = 0 := rfl
    have u8b : IntKind.u8.max = 255 := rfl
    have i64a : IntKind.i64.min = -9223372036854775808 := rfl
    have i64b : IntKind.i64.max = 9223372036854775807 := rfl
    have i32a : IntKind.i32.min = -2147483648 := rfl
    have i32b : IntKind.i32.max = 2147483647 := rfl
    rw [u8a] at a0; rw [u8b] at b0; rw [i64a] at a1; rw [i64b] at b1; rw [i32a] at a5 a6; rw [i32b] at b5 b6
    refine ⟨.mk i0 i1 i2 ix ex i5 i6 th el, ?_, ?_⟩
    · rw [St.Ok, St.Short]
      exact ⟨⟨⟨by omega, by omega⟩, ⟨by omega, by omega⟩, by omega, by omega, k1.1, k4.1, ⟨by omega, by omega⟩, ⟨by omega, by omega⟩, by omega, stsOk_of th fun a ha => (t1 a ha).1, by omega, stsOk_of el fun a ha => (l1 a ha).1⟩,
        by omega, k1.2, k4.2, stsShort_of th fun a ha => (t1 a ha).2, stsShort_of el fun a ha => (l1 a ha).2⟩
    · rw [St.row, stRows_eq, stRows_eq]
      exact ⟨rep_int, rep_int, rep_string, k3, rep_append k5 (y := [_, _, _, _]) ⟨rep_int, rep_int, t3, l3, trivial⟩⟩
theorem openS_sts {n : Nat} {cs : List Value} {x : DataW H × List MemPlace} (h : DataW.trod enc Tryz.prog w base sp held n 23 cs = some x) (hB : Rows.uptoBulk x.1 ≤ 1048576) :
    ∃ l : List St, (StsOk l ∧ StsShort l) ∧ l.length ≤ 1048576 ∧ ∃ v, cs = [v] ∧ RepV (worldEnv w) (.imm 15 (stRows l)) v := by
  obtain ⟨l, hl1, hl2, v, e6, hl3⟩ := open_slice (row := St.row) (good := fun e => e.Ok ∧ e.Short) (B := 1048576) (by decide) Tryz.underlying23 c60 st_len st_pure (fun m' cs x _ h hb => openS_st m' cs x h hb) h hB
  exact ⟨l, ⟨stsOk_of l fun a ha => (hl1 a ha).1, stsShort_of l fun a ha => (hl1 a ha).2⟩, by omega, v, e6, by rw [stRows_eq]; exact hl3⟩
theorem openS_de (n : Nat) (cs : List Value) (x : DataW H × List MemPlace) (h : DataW.trod enc Tryz.prog w base sp held n 44 cs = some x) (hB : Rows.uptoBulk x.1 ≤ 1048576) : ∃ e : De, (e.Ok ∧ e.name.size < 1048577) ∧ RepVs (worldEnv w) e.row cs := by
    obtain ⟨m, xs, rfl, hl, hx, hm⟩ := trod_struct Tryz.underlying44 h
    rw [c44] at hl
    obtain ⟨v0, v1, v2, v3, v4, v5, v6, v7, v8, v9, v10, v11, v12, v13, v14, v15, v16, v17, v18, v19, rfl⟩ : ∃ v0 v1 v2 v3 v4 v5 v6 v7 v8 v9 v10 v11 v12 v13 v14 v15 v16 v17 v18 v19, cs = [v0, v1, v2, v3, v4, v5, v6, v7, v8, v9, v10, v11, v12, v13, v14, v15, v16, v17, v18, v19] := by
      match cs, hl with
      | [v0, v1, v2, v3, v4, v5, v6, v7, v8, v9, v10, v11, v12, v13, v14, v15, v16, v17, v18, v19], _ => exact ⟨_, _, _, _, _, _, _, _, _, _, _, _, _, _, _, _, _, _, _, _, rfl⟩
    simp only [List.mapM_cons, List.mapM_nil, Option.bind_eq_bind, Option.bind_eq_some_iff, Option.pure_def, Option.some.injEq, c3, c4, c9, c36, c42, List.drop_succ_cons, List.drop_zero, List.take_succ_cons, List.take_zero] at hm
    obtain ⟨x0, h0, _, ⟨x1, h1, _, ⟨x2, h2, _, ⟨x3, h3, _, ⟨x4, h4, _, ⟨x5, h5, _, ⟨x6, h6, _, ⟨x7, h7, _, rfl, rfl⟩, rfl⟩, rfl⟩, rfl⟩, rfl⟩, rfl⟩, rfl⟩, rfl⟩ := hm
    obtain ⟨i0, e0, a0, b0⟩ := trod_int Tryz.underlying3 h0
    obtain ⟨i1, e1⟩ := trod_bool Tryz.underlying4 h1
    obtain ⟨i2, e2, g2⟩ := trod_string Tryz.underlying9 h2
    obtain ⟨i3, e3, a3, b3⟩ := trod_int Tryz.underlying36 h3
    obtain ⟨i4, e4, a4, b4⟩ := trod_int Tryz.underlying3 h4
    obtain ⟨i5, e5⟩ := trod_bool Tryz.underlying4 h5
    simp only [hx, List.map_cons, List.map_nil, Rows.uptoBulk, Rows.uptoBulkAll, g2] at hB
    rw [bulk_string'] at hB
    obtain ⟨lo, k1, k2⟩ := openS_xp _ _ _ h6 (by omega)
    obtain ⟨hi, k3, k4⟩ := openS_xp _ _ _ h7 (by omega)
    cases e0; cases e1; cases e2; cases e3; cases e4; cases e5
    have u8a : IntKind.u8.min = 0 := rfl
    have u8b : IntKind.u8.max = 255 := rfl
    have i64a : IntKind.i64.min = -9223372036854775808 := rfl
    have i64b : IntKind.i64.max = 9223372036854775807 := rfl
    rw [u8a] at a3; rw [u8b] at b3; rw [i64a] at a0 a4; rw [i64b] at b0 b4
    refine ⟨⟨i0, i1, i2, i3, i4, i5, lo, hi⟩, ⟨⟨⟨by dsimp only; omega, by dsimp only; omega⟩, by dsimp only; omega, ⟨by dsimp only; omega, by dsimp only; omega⟩, ⟨by dsimp only; omega, by dsimp only; omega⟩, k1.1, k3.1⟩, by dsimp only; omega⟩, ?_⟩
    exact ⟨rep_int, rep_bool, rep_string, rep_int, rep_int, rep_bool, rep_append k2 k4⟩
theorem openS_des {n : Nat} {cs : List Value} {x : DataW H × List MemPlace} (h : DataW.trod enc Tryz.prog w base sp held n 22 cs = some x) (hB : Rows.uptoBulk x.1 ≤ 1048576) :
    ∃ l : List De, (∀ d ∈ l, d.Ok ∧ d.name.size < 1048577) ∧ l.length ≤ 1048576 ∧ ∃ v, cs = [v] ∧ RepV (worldEnv w) (.imm 20 (deRows l)) v := by
  obtain ⟨l, hl1, hl2, v, e6, hl3⟩ := open_slice (row := De.row) (good := fun d => d.Ok ∧ d.name.size < 1048577) (B := 1048576) (by decide) Tryz.underlying22 c44 de_len de_pure (fun m' cs x _ h hb => openS_de m' cs x h hb) h hB
  exact ⟨l, hl1, by omega, v, e6, hl3⟩
theorem openS_pr (n : Nat) (cs : List Value) (x : DataW H × List MemPlace) (h : DataW.trod enc Tryz.prog w base sp held n 25 cs = some x) (hB : Rows.uptoBulk x.1 ≤ 1048576) : ∃ p : Pr, (p.Ok ∧ p.Short) ∧ RepVs (worldEnv w) p.cells cs := by
    obtain ⟨m, xs, rfl, hl, hx, hm⟩ := trod_struct Tryz.underlying25 h
    rw [c25] at hl
    obtain ⟨v0, v1, v2, v3, rfl⟩ : ∃ v0 v1 v2 v3, cs = [v0, v1, v2, v3] := by
      match cs, hl with
      | [v0, v1, v2, v3], _ => exact ⟨_, _, _, _, rfl⟩
    simp only [List.mapM_cons, List.mapM_nil, Option.bind_eq_bind, Option.bind_eq_some_iff, Option.pure_def, Option.some.injEq, c3, c22, c23, List.drop_succ_cons, List.drop_zero, List.take_succ_cons, List.take_zero] at hm
    obtain ⟨x0, h0, _, ⟨x1, h1, _, ⟨x2, h2, _, ⟨x3, h3, _, rfl, rfl⟩, rfl⟩, rfl⟩, rfl⟩ := hm
    obtain ⟨i0, e0, a0, b0⟩ := trod_int Tryz.underlying3 h0
    simp only [hx, List.map_cons, List.map_nil, Rows.uptoBulk, Rows.uptoBulkAll] at hB
    obtain ⟨ds, d1, d2, w1, e1, d3⟩ := openS_des h1 (by omega)
    obtain ⟨th, t1, t2, w2, e2, t3⟩ := openS_sts h2 (by omega)
    obtain ⟨el, l1, l2, w3, e3, l3⟩ := openS_sts h3 (by omega)
    cases e0; cases e1; cases e2; cases e3
    have i64a : IntKind.i64.min = -9223372036854775808 := rfl
    have i64b : IntKind.i64.max = 9223372036854775807 := rfl
    rw [i64a] at a0; rw [i64b] at b0
    refine ⟨⟨i0, ds, th, el⟩, ⟨⟨⟨a0, (by omega : i0 < 9223372036854775808)⟩, (by omega : ds.length < 2097152), fun d hd => (d1 d hd).1, (by omega : th.length < 2097152), t1.1, (by omega : el.length < 2097152), l1.1⟩, fun d hd => (d1 d hd).2, t1.2, l1.2⟩, ?_⟩
    exact ⟨rep_int, d3, t3, l3, trivial⟩
theorem open_xp (n : Nat) (cs : List Value) (x : DataW H × List MemPlace) (h : DataW.trod enc Tryz.prog w base sp held n 42 cs = some x) (hB : Rows.uptoBulk x.1 ≤ 1048576) : ∃ e : Xp, e.Ok ∧ RepVs (worldEnv w) e.row cs := by
  obtain ⟨e, h1, h2⟩ := openS_xp n cs x h hB; exact ⟨e, h1.1, h2⟩
theorem open_st (n : Nat) (cs : List Value) (x : DataW H × List MemPlace) (h : DataW.trod enc Tryz.prog w base sp held n 60 cs = some x) (hB : Rows.uptoBulk x.1 ≤ 1048576) : ∃ e : St, e.Ok ∧ RepVs (worldEnv w) e.row cs := by
  obtain ⟨e, h1, h2⟩ := openS_st n cs x h hB; exact ⟨e, h1.1, h2⟩
theorem open_des {n : Nat} {cs : List Value} {x : DataW H × List MemPlace} (h : DataW.trod enc Tryz.prog w base sp held n 22 cs = some x) (hB : Rows.uptoBulk x.1 ≤ 1048576) :
    ∃ l : List De, (∀ d ∈ l, d.Ok) ∧ l.length ≤ 1048576 ∧ ∃ v, cs = [v] ∧ RepV (worldEnv w) (.imm 20 (deRows l)) v := by
  obtain ⟨l, h1, h2⟩ := openS_des h hB; exact ⟨l, fun d hd => (h1 d hd).1, h2⟩
theorem open_pr (n : Nat) (cs : List Value) (x : DataW H × List MemPlace) (h : DataW.trod enc Tryz.prog w base sp held n 25 cs = some x) (hB : Rows.uptoBulk x.1 ≤ 1048576) : ∃ p : Pr, p.Ok ∧ RepVs (worldEnv w) p.cells cs := by
  obtain ⟨p, h1, h2⟩ := openS_pr n cs x h hB; exact ⟨p, h1.1, h2⟩
end
end Am
end Go.Proofs.YtbdnfkmcfencdaaGreatDoor
/- From the abstract machine to the given statements: what every law of this seat shares. No condition. -/
namespace Go.Proofs.YtbdnfkmcfencdaaGreatDoor
namespace Am
open Go
set_option maxRecDepth 100000
set_option maxHeartbeats 1000000

section
variable {P : Program} {w : World} {r : Reach} {base : Nat} {t : TypeId} {v : Value}
theorem ok_slice {e : TypeId} (ht : P.underlying t = some (.slice e)) (h : Value.okWide P w r base t v) : ∃ a l c, v = .slice a l c := by
  simp only [Value.okWide, ht, Cell.okWide, Cell.ok] at h
  cases v <;> simp_all
theorem ok_struct {fs : Array Field} (ht : P.underlying t = some (.struct fs)) (h : Value.okWide P w r base t v) : ∃ cs, v = .agg cs := by
  simp only [Value.okWide, ht] at h
  obtain ⟨cs, h, _⟩ := h
  exact ⟨cs, h⟩
theorem ok_int {k : IntKind} (ht : P.underlying t = some (.int k)) (h : Value.okWide P w r base t v) : ∃ n, v = .int k n := by
  simp only [Value.okWide, ht, Cell.okWide, Cell.ok] at h
  cases v <;> simp_all
end
/-- What a variable on the list holds. -/
theorem laid_mem {P : Program} {w : World} {name : String} {d : DataW Unit} : ∀ {l : List (String × DataW Unit)} {ps : List MemPlace}, DataW.LaidVars P w l ps → (name, d) ∈ l →
    ∃ g t cs fuel p, P.globalNamed name = some g ∧ (P.globals[g]?).map (·.type) = some t ∧ w.var? P name = some cs ∧ DataW.trod (fun _ => ()) P w 0 (fun _ => true) false fuel t cs.toList = some (d, p)
  | (n, d') :: r, ps, h, hm => by
    obtain ⟨g, t, cs, fuel, p, q, h1, h2, h3, h4, h5, _⟩ := h
    rcases List.mem_cons.1 hm with e | hm
    · cases e; exact ⟨g, t, cs, fuel, p, h1, h2, h3, h4⟩
    · exact laid_mem h5 hm
theorem var_cells {P : Program} {w : World} {name : String} {g : Nat} {cs : Array Value} (hg : P.globalNamed name = some g) (h : w.var? P name = some cs) : ∃ T fr, w.heap[g]? = some (.cells cs T fr) := by
  unfold World.var? at h
  rw [hg] at h
  simp only [Option.bind_some] at h
  split at h
  · rename_i cs' T fr e
    cases h
    exact ⟨T, fr, e⟩
  · cases h
/-- A table on the list. -/
theorem laid_table {P : Program} {w : World} {name : String} {k : IntKind} {zs : List Int} {l : List (String × DataW Unit)} {ps : List MemPlace} {g : Nat} {t e : TypeId} {n : Nat}
    (hg : P.globalNamed name = some g) (hty : (P.globals[g]?).map (·.type) = some t) (ht : P.underlying t = some (.array n e)) (he : P.underlying e = some (.int k)) (hce : P.cellsOf e = 1) (hct : P.cellsOf t = n)
    (h : DataW.LaidVars P w l ps) (hm : (name, Lib.tabData k zs) ∈ l) : ∃ arr T fr, w.heap[g]? = some (.cells arr T fr) ∧ arr.toList = zs.map fun z => Value.int k z := by
  obtain ⟨g', t', cs, fuel, p, hg', ht', hvar, hd⟩ := laid_mem h hm
  obtain rfl := Option.some.inj (hg.symm.trans hg')
  obtain rfl := Option.some.inj (hty.symm.trans ht')
  obtain ⟨T, fr, hc⟩ := var_cells hg hvar
  exact ⟨cs, T, fr, hc, Lib.cells_of_tab ht he hce hct hd⟩
theorem plains_ints {k : IntKind} : ∀ zs : List Int, plains (zs.map fun z => Value.int k z) = true
  | [] => rfl
  | _ :: l => plains_ints l
def deBruijn32 : List Int := [0, 1, 28, 2, 29, 14, 24, 3, 30, 22, 20, 15, 25, 17, 4, 8, 31, 27, 13, 23, 21, 19, 16, 7, 26, 12, 18, 6, 11, 5, 10, 9]
def asciiSpaces : List Int := (List.range 256).map fun i => (if i == 9 || i == 10 || i == 11 || i == 12 || i == 13 || i == 32 then 1 else 0 : Int)
theorem deBruijn32_data : Rows.laid_math_bits_deBruijn32tab = Lib.tabData (H := Unit) .u8 deBruijn32 := by kernel_rfl
theorem asciiSpace_data : Rows.laid_strings_asciiSpace = Lib.tabData (H := Unit) .u8 asciiSpaces := by kernel_rfl
theorem gBruijn : Tryz.prog.globalNamed "math/bits.deBruijn32tab" = some 8 := by kernel_rfl
theorem gSpace : Tryz.prog.globalNamed "strings.asciiSpace" = some 3 := by kernel_rfl
theorem tBruijn : (Tryz.prog.globals[8]?).map (·.type) = some 303 := by kernel_rfl
theorem tSpace : (Tryz.prog.globals[3]?).map (·.type) = some 259 := by kernel_rfl
theorem t3 : (Tryz.prog.globals[0]?).map (·.type) = some 3 := by kernel_rfl
theorem GG_cases {g : Nat} {vs : List Value} (h : GG g = some vs) : (g = 8 ∧ vs = deBruijn32.map fun z => Value.int .u8 z) ∨ (g = 3 ∧ vs = asciiSpaces.map fun z => Value.int .u8 z) := by
  unfold GG at h
  cases h8 : Nat.beq g 8 with
  | true => rw [h8] at h; cases h; exact .inl ⟨Nat.eq_of_beq_eq_true h8, rfl⟩
  | false =>
    rw [h8] at h
    cases h3 : Nat.beq g 3 with
    | true => rw [h3] at h; cases h; exact .inr ⟨Nat.eq_of_beq_eq_true h3, by simp [asciiSpaces]⟩
    | false => rw [h3] at h; cases h
theorem row0 : ((begin Tryz.prog (fun _ _ => 0) default).world.heap[0]?).bind Obj.row? = some (#[.int .i64 0], 3) := by kernel_rfl
theorem sizes : 0 < Tryz.prog.globals.size := of_decide_eq_true (by kernel_rfl)
theorem build3 : Tryz.prog.buildable 3 = true := by kernel_rfl
theorem globals_of {W : World} {l : List (String × DataW Unit)} (hL : laidMetH Tryz.prog l W) (hsh : W.ShapedOpen Tryz.prog)
    (h1 : (l.filter fun x => x.2.handleName?.isSome) = []) (h2 : ("math/bits.deBruijn32tab", Rows.laid_math_bits_deBruijn32tab) ∈ l) (h3 : ("strings.asciiSpace", Rows.laid_strings_asciiSpace) ∈ l) :
    ∃ m, Globals (worldEnv W) (GGm m) := by
  unfold laidMetH at hL
  rw [h1] at hL
  obtain ⟨ps, hv, _⟩ := hL
  rw [deBruijn32_data] at h2
  rw [asciiSpace_data] at h3
  obtain ⟨a8, T8, fr8, e8, l8⟩ := laid_table gBruijn tBruijn Tryz.underlying303 Tryz.underlying5 (by kernel_rfl) (by kernel_rfl) hv h2
  obtain ⟨a3, T3, fr3, e3, l3⟩ := laid_table gSpace tSpace Tryz.underlying259 Tryz.underlying5 (by kernel_rfl) (by kernel_rfl) hv h3
  obtain ⟨cs, e0, hs, hok⟩ := hsh.1 0 _ _ sizes row0
  obtain ⟨ts, k1, k2, k3⟩ := hok build3
  have k1' : Tryz.prog.cellTypes Tryz.prog.depth 3 = some [3] := by kernel_rfl
  obtain rfl := Option.some.inj (k1'.symm.trans k1)
  have hs : cs.size = 1 := hs
  obtain ⟨u, hu, hc⟩ := k3 0 cs[0] (by simp [hs])
  obtain rfl : (3 : Nat) = u := by simpa using hu
  obtain ⟨m, hm⟩ : ∃ m, cs[0] = .int .i64 m := by
    simp only [Cell.ok, Tryz.underlying3] at hc
    revert hc
    cases cs[0] <;> simp_all
  refine ⟨m, fun g vs hg => ?_⟩
  unfold GGm at hg
  split at hg
  · rename_i h0; subst h0
    cases hg
    refine ⟨rfl, cs, 3, _, worldEnv_cells e0, ?_⟩
    apply List.ext_getElem (by simp [hs])
    intro i h1 h2
    have : i = 0 := by simp at h2; omega
    subst this
    simpa using hm
  · rcases GG_cases hg with ⟨rfl, rfl⟩ | ⟨rfl, rfl⟩
    · exact ⟨plains_ints _, a8, T8, fr8, worldEnv_cells e8, l8⟩
    · exact ⟨plains_ints _, a3, T3, fr3, worldEnv_cells e3, l3⟩
/-- A call, out of a run, in any world whose variables are known. -/
theorem calls_of_run {G : Nat → Option (List Value)} {f : Nat} {fi : FI} (ok : FnOk Tryz.prog G f fi) {xs : List AV} {Q : Out → Heap → Prop} (h : Run Tryz.prog G f xs [] Q) {W : World} {args : Array Value}
    (hG : Globals (worldEnv W) G) (hx : RepVs (worldEnv W) xs args.toList) :
    Calls Tryz.prog f args W fun e w' => ∃ o H' E', Q o H' ∧ RepOut E' o e ∧ (∀ (b : Nat) (o : Obj), W.heap[b]? = some o → w'.heap[b]? = some o) ∧ w'.os = W.os ∧ w'.output = W.output := by
  unfold Run at h
  have h := h (worldEnv W) W (fun _ => []) args.toList (worldEnv_heap W) (worldEnv_ok W) hG (fun k hk => by simp at hk) hx
  obtain ⟨fn, hf, hb, hres, hname, hcode⟩ := ok.fn
  have hrun : (callFunc f args.toList.toArray).run Tryz.prog W = .ok (.enter f args.toList.toArray) W := by
    unfold callFunc
    simp only [Sem.run_bind, run_program, Result.andThen_ok, hf]
    rw [if_neg (by simp [hname])]
    simp [hb]
  unfold Called at h
  rw [hrun] at h
  simp only [Array.toArray_toList] at h
  refine h.mono fun e w' ⟨o, H', E', own', k1, k2, k3, k4, k5, k6⟩ => ⟨o, H', E', k1, k3, fun b ob hb => ?_, k6.beside.os, k6.beside.output⟩
  cases hr : isRec ob with
  | true => exact k6.beside.recs b ob hb hr
  | false => exact k5.mem b ob (k6.le.Γ b ob (by simp [worldEnv, hb, hr]))
section
variable {H : Type} {enc : TypeId × Value → H}
theorem same_of_kept {W W' : World} (hk : ∀ (b : Nat) (o : Obj), W.heap[b]? = some o → W'.heap[b]? = some o) {p : MemPlace} (hp : p.block < W.heap.size) : W.sameAt W' p := by
  cases p with
  | cell b off =>
    have hb : b < W.heap.size := hp
    obtain ⟨o, ho⟩ : ∃ o, W.heap[b]? = some o := ⟨_, Array.getElem?_eq_getElem hb⟩
    simp only [World.sameAt, World.cell?, ho, hk b o ho]
  | map b =>
    have hb : b < W.heap.size := hp
    obtain ⟨o, ho⟩ : ∃ o, W.heap[b]? = some o := ⟨_, Array.getElem?_eq_getElem hb⟩
    simp only [World.sameAt, ho, hk b o ho]
theorem trodAll_kept {P : Program} {W W' : World} {base : Nat} {sp : Nat → Bool} {held : Bool} (hk : ∀ (b : Nat) (o : Obj), W.heap[b]? = some o → W'.heap[b]? = some o) : ∀ {ts : List TypeId} {vs : List Value} {ds : List (DataW H)} {ps : List MemPlace},
    DataW.TrodAll enc P W base sp held ts vs ds ps → (∀ p ∈ ps, p.block < W.heap.size) → DataW.TrodAll enc P W' base sp held ts vs ds ps
  | [], [], [], _, h, _ => h
  | _ :: _, _ :: _, _ :: _, _, ⟨p, q, ⟨n, h1⟩, h2, e⟩, hs =>
    ⟨p, q, ⟨n, DataW.trod_carry n _ _ _ h1 fun x hx => same_of_kept hk (hs x (by rw [e]; exact List.mem_append_left _ hx))⟩, trodAll_kept hk h2 (fun x hx => hs x (by rw [e]; exact List.mem_append_right _ hx)), e⟩
theorem kidsT : Kids Tryz.prog (· < Tryz.prog.types.size) := kids_rows (by kernel_rfl) (by kernel_rfl)
theorem fullT : ∀ t e, t < Tryz.prog.types.size → Tryz.prog.underlying t = some (.slice e) → 0 < Tryz.prog.cellsOf e := slices_full_of Tryz.prog (by kernel_rfl)
theorem kept_but {W W' : World} {may : MemPlace → Prop} (hk : ∀ (b : Nat) (o : Obj), W.heap[b]? = some o → W'.heap[b]? = some o) (hos : W'.os = W.os) (hout : W'.output = W.output) : W.keptBut W' may := by
  refine ⟨hos, hout, fun i hi => ?_⟩
  obtain ⟨o, ho⟩ : ∃ o, W.heap[i]? = some o := ⟨_, Array.getElem?_eq_getElem hi⟩
  rw [ho, hk i o ho]
  cases o <;> simp
open Go.ChangeShapes Go.WideShapes Go.ChangeAt Go.RowKit in
/-- A law's answer 'true', behind which all that was there is there. -/
theorem post_of_kept {f : Func} {s : ChangeSpec} {apart fresh handsOn again : Bool} {W W' : World} {args : Array Value} {ds gs : List (DataW H)} {before : List MemPlace}
    (hW : DataW.Whole enc Tryz.prog f.params.toList s.vars apart W args.toList ds gs before) (hv : s.vars = []) (hres : f.resultTypes = #[4]) (hp : ∀ t ∈ f.params.toList, t < Tryz.prog.types.size)
    (hfn : s.fn H (ds ++ gs) = { results := [.lit (.bool true)], args := ds })
    (hk : ∀ (b : Nat) (o : Obj), W.heap[b]? = some o → W'.heap[b]? = some o) (hos : W'.os = W.os) (hout : W'.output = W.output) : s.post enc Tryz.prog f apart fresh handsOn again W args (.bool true) W' := by
  have hlt := hW.lt
  have hold : ∀ p ∈ before, (fun b => decide (b < W.heap.size)) p.block = true := fun p hp => by simpa using hlt p hp
  have hr : (Value.bool true).resultList f.resultTypes.size = [.bool true] := by rw [hres]; rfl
  have hret : ∀ (b : Nat) (sp : Nat → Bool) (hd : Bool), DataW.TrodAll enc Tryz.prog W' b sp hd f.resultTypes.toList ((Value.bool true).resultList f.resultTypes.size) (s.fn H (ds ++ gs)).results [] := by
    intro b sp hd
    rw [hr, hfn, hres]
    exact trodAll_cons_mk (shut_bool Tryz.underlying4 _) trodAll_mk0
  obtain ⟨p, q, hA, hV, hpq, hfz, hnd⟩ := hW
  rw [hv] at hV
  obtain ⟨rfl, rfl⟩ := trodVars_none hV
  simp only [List.append_nil] at hpq hfn
  subst hpq
  have hargs : ∀ sp : Nat → Bool, (∀ x ∈ before, sp x.block = true) → DataW.TrodAll enc Tryz.prog W' 0 sp true f.params.toList args.toList (s.fn H (ds ++ [])).args before := by
    intro sp hsp
    rw [List.append_nil, hfn]
    exact trodAll_kept hk (DataW.TrodAll.respare kidsT fullT hp hA hsp) hlt
  have hvars : ∀ sp : Nat → Bool, DataW.TrodVars enc Tryz.prog W' sp s.vars (s.fn H (ds ++ [])).vars [] := by
    intro sp
    rw [List.append_nil, hfn, hv]
    rfl
  refine ⟨ds, [], before, [], before, [], ⟨before, [], hA, by rw [hv]; exact hV, by simp, hfz, hnd⟩, hret _ _ _, hargs _ hold, hvars _, kept_but hk hos hout, fun _ => ⟨?_, ?_⟩⟩
  · intro j t r h1 h2
    rw [hres] at h1
    rw [hr] at h2
    cases j with
    | zero => cases h1; cases h2; exact okWide_bool_mk Tryz.underlying4 _
    | succ j => simp at h2
  · refine ⟨_, _, [] ++ before, ⟨[] ++ before, [], trodAll_append (hargs _ fun _ _ => rfl) (hret _ _ _), hvars _, by simp, ?_, fun ha => by simpa using hnd ha⟩, fun p hp _ => by simpa using hp⟩
    intro b off hp
    have hp : MemPlace.cell b off ∈ before := by simpa using hp
    have hb : b < W.heap.size := hlt _ hp
    obtain ⟨o, ho⟩ : ∃ o, W.heap[b]? = some o := ⟨_, Array.getElem?_eq_getElem hb⟩
    have := hfz b off hp
    simp only [World.frozen?, ho] at this
    simp only [World.frozen?, hk b o ho]
    exact this
end
end Am
end Go.Proofs.YtbdnfkmcfencdaaGreatDoor
/- A world for the witness: the listed variables hold what the rows say. No condition. -/
namespace Go.Proofs.YtbdnfkmcfencdaaGreatDoor
namespace Am
open Go
open Go.Lib
set_option maxRecDepth 100000

theorem own : ownKnob Tryz.prog.godebug = none := by kernel_rfl
/-- The cells of a datum without an address. -/
def litCells : DataW Unit → List Value
  | .lit (.int k n) => [.int k n]
  | .agg l => go l
  | _ => []
where go : List (DataW Unit) → List Value
  | [] => []
  | d :: r => litCells d ++ go r
def whiteCells : List Value := [9, 13, 1, 32, 133, 101, 160, 5760, 5600, 8192, 8202, 1, 8232, 8233, 1, 8239, 8287, 48, 12288, 12288, 1].map (Value.int .u16)
noncomputable def laidWorld (os : Os) : World :=
  let N := (World.settled Tryz.prog os).heap.size
  let w0 := World.holding Tryz.prog os ⟨#[
    .cells #[.string ⟨#[118, 97, 108, 117, 101, 32, 111, 117, 116, 32, 111, 102, 32, 114, 97, 110, 103, 101]⟩] 269,
    .cells #[.string ⟨#[105, 110, 118, 97, 108, 105, 100, 32, 115, 121, 110, 116, 97, 120]⟩] 269,
    .cells #[.slice (some ⟨N + 3, 0, none⟩) 7 7, .slice none 0 0, .int .i64 2] 285,
    .cells whiteCells.toArray 288], #[], []⟩
  let put (h : Array Obj) (g : Nat) (cs : Array Value) : Array Obj := h.modify g fun
    | .cells _ t frozen => .cells cs t frozen
    | o => o
  let h1 := put w0.heap 1 #[.iface 267 (.pointer (some ⟨N + 1, 0, none⟩))]
  let h2 := put h1 2 #[.iface 267 (.pointer (some ⟨N, 0, none⟩))]
  let h3 := put h2 3 (litCells Rows.laid_strings_asciiSpace).toArray
  let h4 := put h3 4 #[.pointer (some ⟨N + 2, 0, none⟩)]
  let h5 := put h4 5 (litCells Rows.laid_unicode_utf8_first).toArray
  let h6 := put h5 6 (litCells Rows.laid_unicode_utf8_acceptRanges).toArray
  let h7 := put h6 7 (litCells Rows.laid_internal_strconv_uint64pow10).toArray
  let h8 := put h7 8 (litCells Rows.laid_math_bits_deBruijn32tab).toArray
  let h9 := put h8 9 (litCells Rows.laid_math_bits_deBruijn64tab).toArray
  { w0 with heap := h9 }
noncomputable abbrev N0 : Nat := (World.settled Tryz.prog default).heap.size
noncomputable abbrev laidMem (os : Os) (args : Array Value) : World := ((laidWorld os).forCall (fun _ _ => 0) ⟨#[], args, []⟩).memory
theorem piece1 (os : Os) (args : Array Value) : LaidIn Tryz.prog (laidMem os args) [("math/bits.deBruijn32tab", Rows.laid_math_bits_deBruijn32tab), ("math/bits.deBruijn64tab", Rows.laid_math_bits_deBruijn64tab), ("internal/strconv.uint64pow10", Rows.laid_internal_strconv_uint64pow10), ("unicode/utf8.acceptRanges", Rows.laid_unicode_utf8_acceptRanges)] [8, 9, 7, 6] :=
  LaidIn.of_run [8, 9, 7, 6] 8 (by kernel_rfl) (by kernel_rfl) (by kernel_rfl) (by kernel_rfl)
theorem piece2 (os : Os) (args : Array Value) : LaidIn Tryz.prog (laidMem os args) [("strconv.ErrRange", Rows.laid_strconv_ErrRange), ("strconv.ErrSyntax", Rows.laid_strconv_ErrSyntax), ("unicode.White_Space", Rows.laid_unicode_White_Space)] [2, 1, 4, N0, N0 + 1, N0 + 2, N0 + 3] :=
  LaidIn.of_run [2, 1, 4, N0, N0 + 1, N0 + 2, N0 + 3] 8 (by kernel_rfl) (by kernel_rfl) (by kernel_rfl) (by kernel_rfl)
theorem piece3 (os : Os) (args : Array Value) : LaidIn Tryz.prog (laidMem os args) [("strings.asciiSpace", Rows.laid_strings_asciiSpace)] [3] :=
  LaidIn.of_run [3] 8 (by kernel_rfl) (by kernel_rfl) (by kernel_rfl) (by kernel_rfl)
theorem piece4 (os : Os) (args : Array Value) : LaidIn Tryz.prog (laidMem os args) [("unicode/utf8.first", Rows.laid_unicode_utf8_first)] [5] :=
  LaidIn.of_run [5] 8 (by kernel_rfl) (by kernel_rfl) (by kernel_rfl) (by kernel_rfl)
theorem laid_met (os : Os) (args : Array Value) : laidMet Tryz.prog Rows.checkTypesRow.laid (laidMem os args) :=
  ((((piece1 os args).append (piece2 os args) (by kernel_rfl)).append (piece3 os args) (by kernel_rfl)).append (piece4 os args) (by kernel_rfl)).met
end Am
end Go.Proofs.YtbdnfkmcfencdaaGreatDoor
