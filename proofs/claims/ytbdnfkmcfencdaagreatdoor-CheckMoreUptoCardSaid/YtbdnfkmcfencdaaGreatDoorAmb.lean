/- The abstract machine is sound, operation by operation (slices made, built, cut, copied). No condition. -/
import Derived.Test.YtbdnfkmcfencdaaGreatDoorAma
import Derived.Laws.BytesString
import Derived.Lib.ConvBytes
import Derived.Tactics
import Derived.LoopN
namespace Go.Proofs.YtbdnfkmcfencdaaGreatDoor
namespace Am
open Go

theorem RepEs.mk {E : Env} {z : Nat} : ∀ {es : List (List AV)} {xs : List Value}, (∀ (i : Nat) e, es[i]? = some e → e.length = z ∧ RepVs E e ((xs.drop (i * z)).take z)) → RepEs E z es xs
  | [], _, _ => by simp [RepEs]
  | e :: es, xs, h => by
    have h0 := h 0 e rfl
    simp only [RepEs]
    refine ⟨h0.1, by simpa using h0.2, RepEs.mk fun i f hf => ?_⟩
    have := h (i + 1) f (by simpa using hf)
    rw [Nat.succ_mul, Nat.add_comm] at this
    rw [List.drop_drop]
    exact this
theorem made_part {zc : Array Value} {m i : Nat} (h : i < m) : ((madeCells zc (m * zc.size)).toList.drop (i * zc.size)).take zc.size = zc.toList := by
  have hb : i * zc.size + zc.size ≤ m * zc.size := by
    have := Nat.mul_le_mul_right zc.size h
    rw [Nat.succ_mul] at this
    exact this
  apply List.ext_getElem?
  intro j
  rw [List.getElem?_take, List.getElem?_drop]
  by_cases hj : j < zc.size
  · rw [if_pos hj]
    have h1 : i * zc.size + j < m * zc.size := by omega
    simp only [madeCells, Array.toList_map, Array.toList_range, List.getElem?_map, List.getElem?_range h1, Option.map_some]
    have h2 : (i * zc.size + j) % zc.size = j := by
      rw [Nat.add_comm, Nat.add_mul_mod_self_right, Nat.mod_eq_of_lt hj]
    rw [h2]
    simp [hj]
  · rw [if_neg hj, List.getElem?_eq_none (by simpa using hj)]
theorem pureEs_replicate {e : List AV} (h1 : pureAVs e = true) (h2 : okCells e = true) : ∀ n, pureEs (List.replicate n e) = true
  | 0 => rfl
  | n + 1 => by simp [List.replicate_succ, pureEs, h1, h2, pureEs_replicate h1 h2 n]
theorem pureAVs_v : ∀ l : List Value, pureAVs (l.map .v) = true
  | [] => rfl
  | _ :: l => by simp [pureAVs, pureAV, pureAVs_v l]

section
variable {P : Program} {G : Nat → Option (List Value)} {M : Md P G} {L : Nat → Prop} {X : Ctx} {E : Env} {own : Nat → List Nat} {ρ : Regs} {H : Heap} {d : Dx} {a : Act} {w : World}
theorem makeSlice_lands (r : Rel G L E own ρ H d a w) (hT : Agree P X.T) {K : VK Prop} {t : Nat} {l c : Operand} (hl : Vis L l) (hc : Vis L c) (h : makeSliceO (propSig M) X ρ H d K t l c) :
    Lands G L E a w K ((do pure (.value (← Instr.makeSlice t (a.eval l) (a.eval c))) : Sem Next).run P w) := by
  obtain ⟨e, j, h1, ht, hj⟩ := elemT_inv (M := M) hT h
  clear h
  obtain ⟨p, h2, hp⟩ := evalK_inv r hl h1
  obtain ⟨q, h3, hq⟩ := evalK_inv r hc h2
  clear h1 h2
  obtain ⟨kl, n, hn, h4⟩ := asNat_inv h3 hp
  obtain ⟨kc, m, hm, h5⟩ := asNat_inv h4 hq
  clear h3 h4
  obtain ⟨⟨hnm, hfit⟩, h6⟩ := need_inv h5
  rw [newK_eq'] at h6
  obtain ⟨i, hi, his, hib, z, hz, hz1, hz2, hz3, hz4⟩ := hj.info
  have hro : roomy = 35184372088832 := by decide
  have hb : m * j.bytes + m ≤ 35184372088832 := by rw [Nat.mul_add] at hfit; omega
  have hrun := run_make (P := P) w t e i z ht hi hz kl kc n m (by omega) (by omega) (by
    rw [hib]
    have : ((j.bytes * m : Nat) : Int) ≤ 281474976710656 := by rw [Nat.mul_comm]; omega
    rwa [Int.natCast_mul] at this) (by omega)
  simp only [Int.toNat_natCast] at hrun
  have hzs : z.cells.size = j.size := by simpa using hz4
  obtain ⟨E', own', r', hv, hg⟩ := r.newArr (z := j.size) (tot := m) (es := List.replicate n j.zero) e (cells := madeCells z.cells (m * i.size)) (by rw [size_madeCells, his]) (by simpa using hnm)
    (pureEs_replicate (by rw [hz1]; exact pureAVs_v _) (by rw [hz1]; exact okCells_v _) n) (by
      refine RepEs.mk fun i' e' he' => ?_
      rw [List.getElem?_replicate] at he'
      split at he'
      · rename_i hlt
        cases he'
        refine ⟨by rw [hz1, List.length_map]; exact hz4, ?_⟩
        have := made_part (zc := z.cells) (m := m) (i := i') (by omega)
        rw [hzs] at this
        rw [his, this, hz1]
        exact plains_rep hz2
      · cases he')
  refine ⟨_, ρ, _, d, E', own', a.defers, _, _, h6, r'.same, hv, hg, .inl ⟨?_, rfl⟩⟩
  rw [hn, hm, Sem.run_bind, hrun, List.length_replicate]
  rfl

/-- The cells of several values. -/
def flatV : List Value → List Value
  | [] => []
  | v :: vs => v.cells.toList ++ flatV vs
theorem fill_row {size : Nat} : ∀ (vs : List Value) (k : Nat) (cells : Array Value), (∀ v ∈ vs, v.cells.toList.length = size) → (k + vs.length) * size ≤ cells.size →
    ∃ cells', Instr.fill (fun i => some (i * size, size)) cells ((vs.zipIdx k).map fun p => (p.2, p.1)) = some cells' ∧ cells'.toList = paste cells.toList (k * size) (flatV vs)
  | [], k, cells, _, _ => ⟨cells, rfl, by simp [flatV, paste_nil]⟩
  | v :: vs, k, cells, h, hl => by
    have hv : v.cells.size = size := by simpa using h v (by simp)
    have hk : k * size + v.cells.size ≤ cells.size := by
      rw [hv]
      have : (k + 1) * size ≤ (k + (v :: vs).length) * size := Nat.mul_le_mul_right _ (by simp)
      rw [Nat.succ_mul] at this
      omega
    have hp := fold_paste (k * size) v.cells cells hk
    have hsz : (v.cells.zipIdx.foldl (fun cs (p : Value × Nat) => cs.setIfInBounds (k * size + p.2) p.1) cells).size = cells.size := by
      have := congrArg List.length hp
      rw [paste_length _ _ _ (by simpa using hk)] at this
      simpa using this
    obtain ⟨c', hc, hc'⟩ := fill_row vs (k + 1) (v.cells.zipIdx.foldl (fun cs (p : Value × Nat) => cs.setIfInBounds (k * size + p.2) p.1) cells) (fun u hu => h u (by simp [hu])) (by
      rw [hsz]; rw [List.length_cons] at hl; rw [show k + 1 + vs.length = k + (vs.length + 1) from by omega]; exact hl)
    refine ⟨c', ?_, ?_⟩
    · simp only [List.zipIdx_cons, List.map_cons, Instr.fill]
      rw [if_neg (by rw [hv]; simp; omega)]
      exact hc
    · rw [hc', hp]
      have hfl : ∀ us : List Value, (∀ u ∈ us, u.cells.toList.length = size) → (flatV us).length = us.length * size := by
        intro us
        induction us with
        | nil => intro _; simp [flatV]
        | cons u us ih => intro hu; simp only [flatV, List.length_append, List.length_cons, Nat.succ_mul]; rw [ih fun x hx => hu x (by simp [hx]), hu u (by simp)]; omega
      have hl2 := hfl vs fun u hu => h u (by simp [hu])
      have hb : k * size + (size + vs.length * size) ≤ cells.toList.length := by
        have h3 : (k + (vs.length + 1)) * size ≤ cells.size := hl
        rw [Nat.add_mul, Nat.succ_mul] at h3
        have h4 : cells.toList.length = cells.size := Array.length_toList
        omega
      have hv' : v.cells.toList.length = size := by simpa using hv
      have hs1 : (k + 1) * size = k * size + size := Nat.succ_mul k size
      have hA : (k + 1) * size + (flatV vs).length ≤ (paste cells.toList (k * size) v.cells.toList).length := by
        rw [paste_length _ _ _ (by omega), hl2, hs1, Nat.add_assoc]
        exact hb
      apply List.ext_getElem?
      intro j
      rw [paste_get hA, paste_get (l := cells.toList) (p := flatV (v :: vs)) (by simp only [flatV, List.length_append]; omega), paste_get (l := cells.toList) (p := v.cells.toList) (by omega)]
      simp only [flatV, List.length_append, hl2, hv']
      by_cases h1 : j < k * size
      · rw [if_pos (by omega), if_pos h1, if_pos h1]
      · by_cases h2 : j < k * size + size
        · rw [if_pos (by omega), if_neg h1, if_pos h2, if_neg h1, if_pos (by omega), List.getElem?_append_left (by omega)]
        · by_cases h3 : j < k * size + (size + vs.length * size)
          · rw [if_neg (by omega), if_pos (by omega), if_neg h1, if_pos h3, List.getElem?_append_right (by omega)]
            congr 1
            omega
          · rw [if_neg (by omega), if_neg (by omega), if_neg h1, if_neg (by omega), if_neg h1, if_neg h3]
theorem cellsAll_inv {size : Nat} : ∀ {xs : List AV} {vs : List Value} {K : List (List AV) → Prop}, RepVs E xs vs → pureAVs xs = true →
    mapK (fun x K => cellsK (propSig M) x fun cs => sizedK (propSig M) cs.length size cs K) xs K →
    ∃ es, K es ∧ es.length = vs.length ∧ (∀ v ∈ vs, v.cells.toList.length = size) ∧ pureEs es = true ∧ RepEs E size es (flatV vs)
  | [], [], K, _, _, h => ⟨[], h, rfl, by simp, rfl, by simp [RepEs]⟩
  | x :: xs, v :: vs, K, hr, hp, h => by
    simp only [RepVs] at hr
    simp only [pureAVs, Bool.and_eq_true] at hp
    rw [mapK_cons] at h
    obtain ⟨h1, ho, hc⟩ := cellsK_inv h hr.1
    clear h
    obtain ⟨hs, h2⟩ := sizedK_inv h1
    clear h1
    obtain ⟨es, h3, hl, hv, hpu, hre⟩ := cellsAll_inv hr.2 hp.2 h2
    have hcl := hc.length
    refine ⟨_, h3, by simp [hl], fun u hu => ?_, ?_, ?_⟩
    · rcases List.mem_cons.1 hu with rfl | hu
      · rw [← hcl]; exact hs
      · exact hv u hu
    · simp only [pureEs, pureAVs_cells hp.1, ho, hpu, Bool.and_self]
    · simp only [RepEs, flatV]
      rw [← hs, hcl, List.take_left, List.drop_left]
      refine ⟨rfl, hc, ?_⟩
      rw [← hcl, hs]
      exact hre
  | [], _ :: _, _, hr, _, _ => by simp [RepVs] at hr
  | _ :: _, [], _, hr, _, _ => by simp [RepVs] at hr
theorem RepPs.split {E : Env} : ∀ {l : List (Nat × AV)} {m : List (Nat × Value)}, RepPs E l m → l.map (·.1) = m.map (·.1) ∧ RepVs E (l.map (·.2)) (m.map (·.2))
  | [], [], _ => ⟨rfl, trivial⟩
  | (_, _) :: _, (_, _) :: _, h => by
    obtain ⟨rfl, h1, h2⟩ := h
    have := RepPs.split h2
    exact ⟨by simp [this.1], h1, this.2⟩
  | [], _ :: _, h => h.elim
  | _ :: _, [], h => h.elim
theorem zip_range : ∀ (m : List (Nat × Value)) (k : Nat), m.map (·.1) = (List.range' k m.length) → m = ((m.map (·.2)).zipIdx k).map fun p => (p.2, p.1)
  | [], _, _ => rfl
  | (i, v) :: m, k, h => by
    simp only [List.map_cons, List.length_cons, List.range'_succ, List.cons.injEq] at h
    simp only [List.map_cons, List.zipIdx_cons]
    rw [h.1, ← zip_range m (k + 1) h.2]
theorem buildSlice_lands (r : Rel G L E own ρ H d a w) (hT : Agree P X.T) {K : VK Prop} {t n : Nat} {ps : Array (Nat × Operand)} (hv : ∀ p ∈ ps.toList, Vis L p.2)
    (h : buildSliceO (propSig M) X ρ H d K t n ps.toList) :
    Lands G L E a w K ((do pure (.value (← Instr.buildSlice t n (ps.map fun (i, x) => (i, a.eval x)))) : Sem Next).run P w) := by
  obtain ⟨e, j, h1, ht, hj⟩ := elemT_inv (M := M) hT h
  clear h
  obtain ⟨l, h2, hl⟩ := partsK_inv r hv h1
  clear h1
  split at h2
  · rename_i hrange
    rw [spineK_eq] at h2
    obtain ⟨hfst, hsnd⟩ := hl.split
    obtain ⟨E1, own1, ρ1, H1, xs1, h3, r1, hx1, hg1, hlen1⟩ := freezeK_inv r hsnd h2
    clear h2
    obtain ⟨hpc, h4⟩ := condF h3
    clear h3
    simp only [Bool.and_eq_true] at hpc
    obtain ⟨hpu, hble⟩ := hpc
    have hble := Nat.le_of_ble_eq_true hble
    generalize hm : (ps.toList.map fun p => (p.1, a.eval p.2)) = m at *
    obtain ⟨es, h5, hel, hvs, hpe, hre⟩ := cellsAll_inv hx1 hpu h4
    clear h4
    rw [newK_eq'] at h5
    rw [hrange] at hfst
    have hml : m.length = n := by have := congrArg List.length hfst; simpa using this.symm
    have hmz := zip_range m 0 (by rw [← hfst, hml, List.range_eq_range'])
    obtain ⟨i, hi, his, hib, z, hz, hz1, hz2, hz3, hz4⟩ := hj.info
    obtain ⟨cells', hfill, hcells⟩ := fill_row (size := j.size) (m.map (·.2)) 0 ((Array.range (n * j.size)).map ((if n * j.size = 0 then #[] else z.cells)[· % (if n * j.size = 0 then #[] else z.cells).size]!)) hvs (by simp [hml])
    rw [← hmz] at hfill
    have hflat : (flatV (m.map (·.2))).length = n * j.size := by
      have hfl : ∀ us : List Value, (∀ u ∈ us, u.cells.toList.length = j.size) → (flatV us).length = us.length * j.size := by
        intro us
        induction us with
        | nil => intro _; simp [flatV]
        | cons u us ih => intro hu; simp only [flatV, List.length_append, List.length_cons, Nat.succ_mul]; rw [ih fun x hx => hu x (by simp [hx]), hu u (by simp)]; omega
      rw [hfl _ hvs]; simp [hml]
    have hce : cells'.toList = flatV (m.map (·.2)) := by
      rw [hcells]
      unfold paste
      rw [Nat.zero_mul, List.take_zero, List.nil_append, hflat, List.drop_of_length_le (by simp), List.append_nil]
    obtain ⟨E', own', r', hv', hg⟩ := r1.newArr (z := j.size) (tot := n) (es := es) e (cells := cells') (by rw [← Array.length_toList, hce, hflat]) (by rw [hel]; simp [hml]) hpe (by rw [hce]; exact hre)
    have hesl : es.length = n := by rw [hel]; simp [hml]
    refine ⟨_, ρ1, _, d, E', own', a.defers, _, _, h5, r'.same, hv', hg1.trans hg, .inl ⟨?_, rfl⟩⟩
    have hpl : (ps.map fun (x : Nat × Operand) => (x.1, a.eval x.2)).toList = m := by rw [← hm]; simp
    have hno : ¬ (n * i.size > 2 ^ 24) := by rw [his]; omega
    rw [hesl, Sem.run_bind]
    have hrun : (Instr.buildSlice t n (ps.map fun (i, x) => (i, a.eval x))).run P w = .ok (.slice (some ⟨w.heap.size, 0, none⟩) n n) (push w (.cells cells' e)) := by
      by_cases hn0 : n * j.size = 0
      · rw [if_pos hn0] at hfill
        simp only [Instr.buildSlice, Sem.run_bind, run_underlying ht, Result.andThen_ok, sizeOf, typeInfo, run_program, hi, Sem.run_pure, his, hn0, if_true, show ¬ ((0 : Nat) > 2 ^ 24) from by omega, if_false]
        simp only [hn0] at hfill
        rw [hpl, hfill]
        simp [newRow]
        rfl
      · rw [if_neg hn0] at hfill
        rw [his] at hno
        simp only [Instr.buildSlice, Sem.run_bind, run_underlying ht, Result.andThen_ok, sizeOf, typeInfo, run_program, hi, Sem.run_pure, his, hno, if_false, hn0, zeroValue, hz]
        rw [hpl, hfill]
        simp [newRow]
        rfl
    rw [hrun]
    rfl
  · exact h2.elim
end
end Am
end Go.Proofs.YtbdnfkmcfencdaaGreatDoor
/- The abstract machine is sound, operation by operation (slices cut and copied). No condition. -/
namespace Go.Proofs.YtbdnfkmcfencdaaGreatDoor
namespace Am
open Go

section
variable {P : Program} {G : Nat → Option (List Value)} {M : Md P G} {L : Nat → Prop} {X : Ctx} {E : Env} {own : Nat → List Nat} {ρ : Regs} {H : Heap} {d : Dx} {a : Act} {w : World}
theorem boundK_inv (r : Rel G L E own ρ H d a w) {x : Option Operand} (hx : ∀ o, x = some o → Vis L o) {dflt : Nat} {K : Nat → Prop} (h : boundK (propSig M) ρ x dflt K) :
    ∃ n, K n ∧ ((x = none ∧ n = dflt) ∨ ∃ o k, x = some o ∧ a.eval o = .int k (n : Nat)) := by
  cases x with
  | none => exact ⟨dflt, h, .inl ⟨rfl, rfl⟩⟩
  | some o =>
    obtain ⟨y, h1, hy⟩ := evalK_inv r (hx o rfl) h
    obtain ⟨k, n, hn, h2⟩ := asNat_inv h1 hy
    exact ⟨n, h2, .inr ⟨o, k, rfl, hn⟩⟩
theorem bounds_run {isSlice : Bool} {len cap l h : Nat} {lo hi : Option Operand} (hlo : (lo = none ∧ l = 0) ∨ ∃ o k, lo = some o ∧ a.eval o = .int k (l : Nat))
    (hhi : (hi = none ∧ h = len) ∨ ∃ o k, hi = some o ∧ a.eval o = .int k (h : Nat)) (h1 : l ≤ h) (h2 : h ≤ cap) :
    (Instr.sliceBounds isSlice len cap (lo.map a.eval) (hi.map a.eval) none).run P w = .ok (l, h, cap) w := by
  rcases hlo with ⟨rfl, rfl⟩ | ⟨o, k, rfl, ho⟩ <;> rcases hhi with ⟨rfl, rfl⟩ | ⟨o', k', rfl, ho'⟩
  · simp [Instr.sliceBounds]
  · simp [Instr.sliceBounds, Instr.sliceBound, ho', asIntOf, h2]
  · simp [Instr.sliceBounds, Instr.sliceBound, ho, asIntOf, h1]
  · simp [Instr.sliceBounds, Instr.sliceBound, ho, ho', asIntOf, h1, h2]
theorem map_add (p : Option Addr) (b o n : Nat) (h : p = some ⟨b, o, none⟩) : p.map (·.add n) = some ⟨b, o + n, none⟩ := by subst h; simp [addr_add]
theorem slice_lands (r : Rel G L E own ρ H d a w) (hT : Agree P X.T) {K : VK Prop} {t : Nat} {x : Operand} {lo hi mx : Option Operand} (hx : Vis L x) (hlo : ∀ o, lo = some o → Vis L o) (hhi : ∀ o, hi = some o → Vis L o)
    (hmx : ∀ o, mx = some o → Vis L o) (h : sliceO (propSig M) X ρ H d K t x lo hi mx) :
    Lands0 E w ρ H d K ((do pure (.value (← Instr.sliceAt t (a.eval x) (lo.map a.eval) (hi.map a.eval) (mx.map a.eval))) : Sem Next).run P w) := by
  obtain ⟨y, h1, hy⟩ := evalK_inv r hx h
  clear h
  have slices : ∀ {y : AV}, RepV E y (a.eval x) → elemT (propSig M) X t (fun j => sliceV (propSig M) ρ H d K j.size y lo hi mx) →
      Lands0 E w ρ H d K ((do pure (.value (← Instr.sliceAt t (a.eval x) (lo.map a.eval) (hi.map a.eval) (mx.map a.eval))) : Sem Next).run P w) := by
    intro y hy h1
    obtain ⟨e, j, h2, ht, hj⟩ := elemT_inv (M := M) hT h1
    clear h1
    obtain ⟨p, n, cap, hc, h3⟩ := lenK_inv r hy h2
    clear h2
    obtain ⟨l, h4, hl⟩ := boundK_inv r hlo h3
    obtain ⟨m, h5, hm⟩ := boundK_inv r hhi h4
    clear h3 h4
    cases mx with
    | some mo =>
      obtain ⟨hsome, h5⟩ := condF h5
      obtain ⟨q, h6, hq⟩ := evalK_inv r (hmx mo rfl) h5
      obtain ⟨k3, n3, hn3, h7⟩ := asNat_inv h6 hq
      clear h5 h6
      obtain ⟨⟨rfl, rfl, rfl⟩, h8⟩ := need_inv h7
      refine Lands0.value (v := .slice p 0 0) r h8 ⟨p, rfl⟩ ?_
      have hb : (Instr.sliceBounds true n cap (lo.map a.eval) (hi.map a.eval) (some (a.eval mo))).run P w = .ok (0, 0, 0) w := by
        rcases hl with ⟨rfl, _⟩ | ⟨o, k, rfl, ho⟩ <;> rcases hm with ⟨rfl, hm⟩ | ⟨o', k', rfl, ho'⟩
        · simp at hsome
        · simp [Instr.sliceBounds, Instr.sliceBound, ho', hn3, asIntOf]
        · simp at hsome
        · simp [Instr.sliceBounds, Instr.sliceBound, ho, ho', hn3, asIntOf]
      simp [Instr.sliceAt, run_underlying ht, Instr.slice, hc, hb, hj.run_sizeOf]
    | none =>
      obtain ⟨⟨hlm, hmn⟩, h6⟩ := need_inv h5
      have fin : ∀ {u : AV} {v : Value}, n ≤ cap → K u ρ H d → RepV E u v → v = .slice (if cap = l then p else p.map (·.add (l * j.size))) (m - l) (cap - l) →
          Lands0 E w ρ H d K ((do pure (.value (← Instr.sliceAt t (a.eval x) (lo.map a.eval) (hi.map a.eval) ((none : Option Operand).map a.eval))) : Sem Next).run P w) := by
        intro u v hcap hk hv e
        refine Lands0.value r hk hv ?_
        have hb := bounds_run (P := P) (w := w) (isSlice := true) (len := n) (cap := cap) hl hm hlm (by omega)
        simp [Instr.sliceAt, run_underlying ht, Instr.slice, hc, hb, hj.run_sizeOf, e]
      unfold cutV at h6
      split at h6
      · rename_i z es
        obtain ⟨hz, h7⟩ := sizedK_inv h6
        clear h6
        obtain ⟨p', cap', hc', hle, hr⟩ := hy
        rw [hc] at hc'
        obtain ⟨rfl, rfl, rfl⟩ : p = p' ∧ n = es.length ∧ cap = cap' := by simpa using hc'
        have hlen : ((es.drop l).take (m - l)).length = m - l := by simp; omega
        refine fin hle h7 ?_ rfl
        by_cases hml : m - l = 0
        · refine ⟨_, _, by rw [hlen], by omega, .inl ?_⟩
          rw [hml]; simp
        · rcases hr with rfl | ⟨b, off, arr, T, fr, rfl, him, hg, hpu, hrep⟩
          · simp at hmn; omega
          · refine ⟨_, _, by rw [hlen], by omega, .inr ⟨b, off + l * z, arr, T, fr, ?_, him, hg, pureEs_take _ (pureEs_drop _ hpu), ?_⟩⟩
            · rw [if_neg (by omega), hz]; simp [addr_add]
            · rw [← List.drop_drop]; exact (hrep.drop l).take _
      · rename_i k
        obtain ⟨z, es, e', h7⟩ := arrK_inv h6
        clear h6
        obtain ⟨hz, h8⟩ := sizedK_inv h7
        clear h7
        rcases hy with ⟨b, hb, hc'⟩ | ⟨hb, p', hc'⟩
        · rw [hc] at hc'
          obtain ⟨rfl, rfl, rfl⟩ : p = some ⟨b, 0, none⟩ ∧ n = E.n k ∧ cap = E.tot k := by simpa using hc'
          obtain ⟨arr, T, g1, g2, g3, g4, g5, g6, g7⟩ := r.arr e' hb
          by_cases hcl : E.tot k = l
          · exact fin g5 h8 (.inl ⟨b, 0, hb, by omega, rfl, .inr hcl.symm⟩) (by rw [if_pos hcl])
          · exact fin g5 h8 (.inl ⟨b, l * z, hb, by omega, rfl, .inl (by rw [g6])⟩) (by rw [if_neg hcl, hz]; simp [addr_add])
        · rw [hc] at hc'
          obtain ⟨rfl, rfl, rfl⟩ : p = p' ∧ n = 0 ∧ cap = 0 := by simpa using hc'
          obtain rfl : l = 0 := by omega
          obtain rfl : m = 0 := by omega
          exact fin (Nat.le_refl _) h8 (.inr ⟨hb, rfl, rfl, p, rfl⟩) (by simp)
      · rename_i k b0 len0
        obtain ⟨z, es, e', h7⟩ := arrK_inv h6
        clear h6
        obtain ⟨hz, h8⟩ := sizedK_inv h7
        clear h7
        rcases hy with ⟨b, o, hb, hbl, hc', ho⟩ | ⟨hb, rfl, rfl, p', hc'⟩
        · rw [hc] at hc'
          obtain ⟨rfl, rfl, rfl⟩ : p = some ⟨b, o, none⟩ ∧ n = len0 ∧ cap = E.tot k - b0 := by simpa using hc'
          obtain ⟨arr, T, g1, g2, g3, g4, g5, g6, g7⟩ := r.arr e' hb
          by_cases hcl : E.tot k - b0 = l
          · exact fin (v := .slice (some ⟨b, o, none⟩) (m - l) (E.tot k - b0 - l)) (by omega) h8 (.inl ⟨b, o, hb, by omega, by rw [Nat.sub_sub], .inr (by omega)⟩) (by rw [if_pos hcl])
          · have ho : o = b0 * E.z k := ho.resolve_right (by omega)
            exact fin (v := .slice (some ⟨b, (b0 + l) * z, none⟩) (m - l) (E.tot k - b0 - l)) (by omega) h8 (.inl ⟨b, (b0 + l) * z, hb, by omega, by rw [Nat.sub_sub], .inl (by rw [g6])⟩) (by rw [if_neg hcl, ho, g6, Nat.add_mul, hz]; simp [addr_add])
        · rw [hc] at hc'
          obtain ⟨rfl, rfl, rfl⟩ : p = p' ∧ n = 0 ∧ cap = 0 := by simpa using hc'
          obtain rfl : l = 0 := by omega
          obtain rfl : m = 0 := by omega
          exact fin (Nat.le_refl _) h8 (.inr ⟨hb, rfl, rfl, p, rfl⟩) (by simp)
      · rename_i n1 n2
        obtain ⟨hp, hc'⟩ := hy
        have hn : n1 = 0 ∧ n2 = 0 := by
          unfold plain at hp
          split at hp <;> first | exact ⟨rfl, rfl⟩ | (rename_i e; cases e; exact ⟨rfl, rfl⟩) | (rename_i e; cases e) | cases hp
        obtain ⟨rfl, rfl⟩ := hn
        rw [hc] at hc'
        obtain ⟨rfl, rfl, rfl⟩ : p = none ∧ n = 0 ∧ cap = 0 := by simpa using hc'
        obtain rfl : l = 0 := by omega
        obtain rfl : m = 0 := by omega
        exact fin (Nat.le_refl _) h6 ⟨rfl, rfl⟩ (by simp)
      · obtain ⟨p', hc'⟩ := hy
        rw [hc] at hc'
        obtain ⟨rfl, rfl, rfl⟩ : p = p' ∧ n = 0 ∧ cap = 0 := by simpa using hc'
        obtain rfl : l = 0 := by omega
        obtain rfl : m = 0 := by omega
        exact fin (Nat.le_refl _) h6 ⟨p, rfl⟩ (by simp)
      · exact h6.elim
  split at h1
  · rename_i bs
    obtain ⟨i, h2, ht⟩ := tiK_inv hT h1
    clear h1
    obtain ⟨dd, hd, _, hund, hrun⟩ := ht.run_underlying (w := w)
    split at h2
    · rename_i hu
      obtain rfl := utOf_string (hund.symm.trans hu)
      obtain ⟨hnone, h3⟩ := condF h2
      clear h2
      obtain rfl : mx = none := by simpa using hnone
      obtain ⟨_, hc⟩ := hy
      obtain ⟨l, h4, hl⟩ := boundK_inv r hlo h3
      obtain ⟨m, h5, hm⟩ := boundK_inv r hhi h4
      clear h3 h4
      obtain ⟨⟨hlm, hmn⟩, h6⟩ := need_inv h5
      refine Lands0.value (v := .string (bs.extract l m)) r h6 ⟨rfl, rfl⟩ ?_
      have hb := bounds_run (P := P) (w := w) (isSlice := false) (len := bs.size) (cap := bs.size) hl hm hlm hmn
      simp [Instr.sliceAt, hrun, Instr.slice, hc, hb]
    · exact h2.elim
  · exact slices hy h1
theorem copy_lands (r : Rel G L E own ρ H d a w) (hT : Agree P X.T) {K : VK Prop} {t ty : Nat} {ts : Array Nat} (h0 : ts[0]? = some t) {x y : AV} {cx cy : Value} (hx : RepV E x cx) (hy : RepV E y cy)
    (h : elemT (propSig M) X t fun j => copyO (propSig M) ρ H d K j.size x y) :
    Lands G L E a w K ((do pure (.value (← Builtin.copy_ ts ty #[cx, cy])) : Sem Next).run P w) := by
  obtain ⟨e, j, h2, ht, hj⟩ := elemT_inv (M := M) hT h
  clear h
  obtain ⟨ys, cs, h4, hys⟩ := elemsK_inv r hy h2
  clear h2
  split at h4
  · rename_i k
    obtain ⟨z, es, e', h5⟩ := arrK_inv h4
    clear h4
    obtain ⟨hz, h6⟩ := sizedK_inv h5
    clear h5
    rw [setK_eq] at h6
    subst hz
    have hmin : ∀ n, Nat.min ys.length n ≤ ys.length := fun n => Nat.min_le_left _ _
    rcases hx with ⟨b, hb, rfl⟩ | ⟨hb, p, rfl⟩
    · obtain ⟨arr, T, g1, g2, g3, g4, g5, g6, g7⟩ := r.arr e' hb
      have hcells := hys.cells (Nat.min ys.length (E.n k)) w (hmin _) rfl
      have hcl : (cs.take (Nat.min ys.length (E.n k) * j.size)).length = Nat.min ys.length (E.n k) * j.size := by
        rw [List.length_take, hys.long, Nat.min_eq_left (Nat.mul_le_mul_right _ (hmin _))]
      have hone : ∀ v ∈ cs.take (Nat.min ys.length (E.n k) * j.size), v.oneCell' = true := by
        have := hys.rep.one hys.pure
        rw [List.take_of_length_le (by rw [hys.long]; exact Nat.le_refl _)] at this
        exact fun v hv => this v (List.mem_of_mem_take hv)
      have hml : Nat.min ys.length (E.n k) ≤ E.tot k := Nat.le_trans (Nat.min_le_right _ _) g5
      have hfit : (cs.take (Nat.min ys.length (E.n k) * j.size)).length ≤ arr.size := by
        rw [hcl, g3]; exact Nat.mul_le_mul_right _ hml
      have hst := run_storeCells (P := P) (cs.take (Nat.min ys.length (E.n k) * j.size)) 0 (b := b) (o := 0) g2 hone (by simpa using hfit)
      have hel := g4
      have hlen2 : (ys.take es.length ++ es.drop ys.length).length = es.length := by simp; omega
      have hps : (paste arr.toList (0 + 0) (cs.take (Nat.min ys.length (E.n k) * j.size))).length = arr.size := by rw [paste_length _ _ _ (by simpa using hfit)]; simp
      have hrep : RepEs E j.size (ys.take es.length ++ es.drop ys.length) (paste arr.toList (0 + 0) (cs.take (Nat.min ys.length (E.n k) * j.size))) := by
        have hyl : (ys.take es.length).length = Nat.min ys.length (E.n k) := by rw [List.length_take, g4]; exact Nat.min_comm _ _
        refine RepEs.append ((hys.rep.take es.length).congr ?_) ?_
        · rw [hyl]
          unfold paste
          rw [Nat.add_zero, List.take_zero, List.nil_append, List.take_append_of_le_length (by rw [hcl]; exact Nat.le_refl _), List.take_take, Nat.min_self]
        · rw [hyl]
          have : (paste arr.toList (0 + 0) (cs.take (Nat.min ys.length (E.n k) * j.size))).drop (Nat.min ys.length (E.n k) * j.size) = arr.toList.drop (Nat.min ys.length (E.n k) * j.size) := by
            rw [paste_drop (by rw [hcl]; omega) (by have h9 : arr.toList.length = arr.size := Array.length_toList; rw [h9, g3]; exact Nat.mul_le_mul_right _ hml)]
          rw [this]
          by_cases hc : ys.length ≤ E.n k
          · rw [show Nat.min ys.length (E.n k) = ys.length from Nat.min_eq_left hc]
            exact g7.2.drop ys.length
          · rw [List.drop_of_length_le (by omega)]
            simp [RepEs]
      have hpu : pureEs (ys.take es.length ++ es.drop ys.length) = true := pureEs_append (pureEs_take _ hys.pure) (pureEs_drop _ g7.1)
      obtain ⟨r', hg⟩ := r.write g1 (o := .arr j.size (ys.take es.length ++ es.drop ys.length)) (ob := .cells (paste arr.toList (0 + 0) (cs.take (Nat.min ys.length (E.n k) * j.size))).toArray T (0, 0)) (by
        simp only [RepO, hb]
        exact ⟨_, T, trivial, setBlock_same g2, by simpa [hps] using g3, by rw [hlen2]; exact g4, g5, g6, hpu, hrep⟩) (fun cs e => by cases e)
      refine ⟨_, ρ, _, d, E, _, a.defers, _, .int .i64 (Nat.min ys.length (E.n k) : Nat), h6, r'.same, ⟨rfl, by rw [g4]⟩, hg, .inl ⟨?_, rfl⟩⟩
      simp [Builtin.copy_, h0, run_underlying ht, hys.len, hj.run_sizeOf, hcells, hst, goInt]
    · have := r.heap.obj k _ e'
      simp only [RepO, hb] at this
      obtain ⟨_, rfl, _⟩ := this
      have hset : H.set k (.arr j.size (ys.take ([] : List (List AV)).length ++ ([] : List (List AV)).drop ys.length)) = H := by
        apply List.ext_getElem?
        intro i
        rw [List.getElem?_set]
        split
        · rename_i hi; subst hi
          split
          · rw [e']; simp
          · rename_i hn; rw [List.getElem?_eq_none (by omega)]
        · rfl
      rw [hset] at h6
      have hcells := hys.cells 0 w (Nat.zero_le _) rfl
      refine Lands.value (v := .int .i64 (0 : Nat)) r h6 ⟨rfl, by simp⟩ ?_
      simp only [Nat.zero_mul, List.take_zero] at hcells
      cases p <;> simp [Builtin.copy_, h0, run_underlying ht, hys.len, hj.run_sizeOf, hcells, goInt, storeCells]
  · exact h4.elim
end
end Am
end Go.Proofs.YtbdnfkmcfencdaaGreatDoor
/- The abstract machine is sound, operation by operation (maps). No condition. -/
namespace Go.Proofs.YtbdnfkmcfencdaaGreatDoor
namespace Am
open Go

/-- A map's keys' type. -/
def keyD : UT → Option TypeDesc
  | .int k => some (.int k)
  | .string => some .string
  | _ => none
theorem sameKey_now {u : UT} {dd : TypeDesc} (hu : keyD u = some dd) {p q : Value} {t : Bool} (h : sameKey u p q = some t) : Instr.sameNow dd p q = some t ∧ (t = true → p = q) := by
  unfold sameKey at h
  split at h
  · simp only [keyD, Option.some.injEq] at hu; subst hu
    split at h
    · rename_i e; subst e
      cases h
      exact ⟨by simp [Instr.sameNow], fun e => by rw [eq_of_beq e]⟩
    · cases h
  · simp only [keyD, Option.some.injEq] at hu; subst hu
    cases h
    rename_i a b
    have e : sameBytes a.data.toList b.data.toList = (a == b) := by rw [sameBytes_eq, beq_toListBytes, ByteArray.toList_eq, ByteArray.toList_eq]
    refine ⟨by simp [Instr.sameNow, e], fun ht => ?_⟩
    rw [sameBytes_eq] at ht
    have h1 : a.data = b.data := Array.toList_inj.1 (eq_of_beq ht)
    cases a; cases b
    simp only at h1
    rw [h1]
  · cases h
theorem check_run {P : Program} {w : World} {t : Nat} {u : UT} {dd : TypeDesc} (hu : keyD u = some dd) (hd : P.underlying t = some dd) (e : Bool) (n : Nat) (v : Value) : (Instr.checkKey e (n + 1) t v).run P w = .ok () w := by
  unfold keyD at hu
  split at hu <;> cases hu <;> simp [Instr.checkKey, run_underlying hd]
section
variable {P : Program} {G : Nat → Option (List Value)} {M : Md P G} {L : Nat → Prop} {X : Ctx} {E : Env} {own : Nat → List Nat} {ρ : Regs} {H : Heap} {d : Dx} {a : Act} {w : World}
theorem keyK_inv {u : UT} {p q : Value} {K : Bool → Prop} (h : keyK (propSig M) u p q K) : ∃ t, sameKey u p q = some t ∧ K t := by
  unfold keyK at h
  split at h
  · exact ⟨_, by assumption, h⟩
  · exact h.elim
theorem findK_inv {u : UT} {dd : TypeDesc} (hu : keyD u = some dd) {key : Value} {F : Prop} {K : AV → Prop} : ∀ {kv : List (Value × AV)} {ents : List MapEntry} (i : Nat), RepKv E kv ents → findK (propSig M) u key kv F K →
    (F ∧ Instr.findNow dd key ents i = some none) ∨ ∃ n x e, kv[n]? = some (key, x) ∧ ents[n]? = some e ∧ e.key = key ∧ Instr.findNow dd key ents i = some (some (i + n, e.val)) ∧ K x
  | [], [], i, _, h => .inl ⟨h, rfl⟩
  | (k, x) :: kv, e :: ents, i, hr, h => by
    simp only [RepKv] at hr
    obtain ⟨t, ht, h1⟩ := keyK_inv h
    obtain ⟨hn, he⟩ := sameKey_now hu ht
    cases t with
    | true =>
      have := he rfl
      subst this
      exact .inr ⟨0, x, e, rfl, rfl, hr.1, by simp [Instr.findNow, hr.1, hn], h1⟩
    | false =>
      rcases findK_inv hu (i + 1) hr.2.2.2.2 h1 with ⟨hF, hf⟩ | ⟨n, y, e', h2, h3, h4, h5, h6⟩
      · exact .inl ⟨hF, by simp [Instr.findNow, hr.1, hn, hf]⟩
      · exact .inr ⟨n + 1, y, e', by simpa using h2, by simpa using h3, h4, by simp only [Instr.findNow, hr.1, hn, h5]; rw [show i + 1 + n = i + (n + 1) from by omega], h6⟩
  | [], _ :: _, _, hr, _ => by simp [RepKv] at hr
  | _ :: _, [], _, hr, _ => by simp [RepKv] at hr
theorem putKeyK_inv {u : UT} {dd : TypeDesc} (hu : keyD u = some dd) {key : Value} {y : AV} : ∀ {kv : List (Value × AV)} {ents : List MapEntry} {K : List (Value × AV) → Prop} (i : Nat), RepKv E kv ents → putKeyK (propSig M) u key y kv K →
    (K (kv ++ [(key, y)]) ∧ Instr.findNow dd key ents i = some none) ∨ ∃ n x e, kv[n]? = some (key, x) ∧ ents[n]? = some e ∧ e.key = key ∧ sameKey u key key = some true ∧ Instr.findNow dd key ents i = some (some (i + n, e.val)) ∧ K (kv.set n (key, y))
  | [], [], K, i, _, h => .inl ⟨h, rfl⟩
  | (k, x) :: kv, e :: ents, K, i, hr, h => by
    simp only [RepKv] at hr
    obtain ⟨t, ht, h1⟩ := keyK_inv h
    obtain ⟨hn, he⟩ := sameKey_now hu ht
    cases t with
    | true =>
      have := he rfl
      subst this
      exact .inr ⟨0, x, e, rfl, rfl, hr.1, ht, by simp [Instr.findNow, hr.1, hn], h1⟩
    | false =>
      rcases putKeyK_inv hu (K := fun r => K ((k, x) :: r)) (i + 1) hr.2.2.2.2 h1 with ⟨hF, hf⟩ | ⟨n, y', e', h2, h3, h4, hs, h5, h6⟩
      · exact .inl ⟨hF, by simp [Instr.findNow, hr.1, hn, hf]⟩
      · exact .inr ⟨n + 1, y', e', by simpa using h2, by simpa using h3, h4, hs, by simp only [Instr.findNow, hr.1, hn, h5]; rw [show i + 1 + n = i + (n + 1) from by omega], h6⟩
  | [], _ :: _, _, _, hr, _ => by simp [RepKv] at hr
  | _ :: _, [], _, _, hr, _ => by simp [RepKv] at hr
theorem dropKeyK_inv {u : UT} {dd : TypeDesc} (hu : keyD u = some dd) {key : Value} : ∀ {kv : List (Value × AV)} {ents : List MapEntry} {K : List (Value × AV) → Prop} (i : Nat), RepKv E kv ents → dropKeyK (propSig M) u key kv K →
    (K kv ∧ Instr.findNow dd key ents i = some none) ∨ ∃ n e, ents[n]? = some e ∧ Instr.findNow dd key ents i = some (some (i + n, e.val)) ∧ K (kv.eraseIdx n)
  | [], [], K, i, _, h => .inl ⟨h, rfl⟩
  | (k, x) :: kv, e :: ents, K, i, hr, h => by
    simp only [RepKv] at hr
    obtain ⟨t, ht, h1⟩ := keyK_inv h
    obtain ⟨hn, he⟩ := sameKey_now hu ht
    cases t with
    | true =>
      have := he rfl
      subst this
      exact .inr ⟨0, e, rfl, by simp [Instr.findNow, hr.1, hn], h1⟩
    | false =>
      rcases dropKeyK_inv hu (K := fun r => K ((k, x) :: r)) (i + 1) hr.2.2.2.2 h1 with ⟨hF, hf⟩ | ⟨n, e', h3, h5, h6⟩
      · exact .inl ⟨hF, by simp [Instr.findNow, hr.1, hn, hf]⟩
      · exact .inr ⟨n + 1, e', by simpa using h3, by simp only [Instr.findNow, hr.1, hn, h5]; rw [show i + 1 + n = i + (n + 1) from by omega], h6⟩
  | [], _ :: _, _, _, hr, _ => by simp [RepKv] at hr
  | _ :: _, [], _, _, hr, _ => by simp [RepKv] at hr
theorem RepKv.append : ∀ {l l' : List (Value × AV)} {m m' : List MapEntry}, RepKv E l m → RepKv E l' m' → RepKv E (l ++ l') (m ++ m')
  | [], _, [], _, _, k => k
  | (_, _) :: _, _, _ :: _, _, h, k => by simp only [RepKv, List.cons_append] at h ⊢; exact ⟨h.1, h.2.1, h.2.2.1, h.2.2.2.1, RepKv.append h.2.2.2.2 k⟩
  | [], _, _ :: _, _, h, _ => by simp [RepKv] at h
  | _ :: _, _, [], _, h, _ => by simp [RepKv] at h
theorem RepKv.get : ∀ {l : List (Value × AV)} {m : List MapEntry} {n : Nat} {k : Value} {x : AV} {e : MapEntry}, RepKv E l m → l[n]? = some (k, x) → m[n]? = some e → e.key = k ∧ plain k = true ∧ pureAV x = true ∧ RepV E x e.val
  | (_, _) :: _, _ :: _, 0, _, _, _, h, e1, e2 => by simp only [RepKv] at h; simp at e1 e2; obtain ⟨rfl, rfl⟩ := e1; subst e2; exact ⟨h.1, h.2.1, h.2.2.1, h.2.2.2.1⟩
  | (_, _) :: _, _ :: _, n + 1, _, _, _, h, e1, e2 => by simp only [RepKv] at h; exact RepKv.get h.2.2.2.2 (by simpa using e1) (by simpa using e2)
  | [], _, _, _, _, _, _, e1, _ => by simp at e1
  | _ :: _, [], _, _, _, _, h, _, _ => by simp [RepKv] at h
theorem RepKv.set : ∀ {l : List (Value × AV)} {m : List MapEntry} (n : Nat) {k : Value} {x : AV} {e : MapEntry}, RepKv E l m → e.key = k → plain k = true → pureAV x = true → RepV E x e.val → RepKv E (l.set n (k, x)) (m.set n e)
  | [], [], _, _, _, _, h, _, _, _, _ => by simpa using h
  | (_, _) :: _, _ :: _, 0, _, _, _, h, a, b, c, d => by simp only [RepKv, List.set_cons_zero] at h ⊢; exact ⟨a, b, c, d, h.2.2.2.2⟩
  | (_, _) :: _, _ :: _, n + 1, _, _, _, h, a, b, c, d => by simp only [RepKv, List.set_cons_succ] at h ⊢; exact ⟨h.1, h.2.1, h.2.2.1, h.2.2.2.1, RepKv.set n h.2.2.2.2 a b c d⟩
  | [], _ :: _, _, _, _, _, h, _, _, _, _ => by simp [RepKv] at h
  | _ :: _, [], _, _, _, _, h, _, _, _, _ => by simp [RepKv] at h
theorem RepKv.erase : ∀ {l : List (Value × AV)} {m : List MapEntry} (n : Nat), RepKv E l m → RepKv E (l.eraseIdx n) (m.eraseIdx n)
  | [], [], _, h => by simpa using h
  | (_, _) :: _, _ :: _, 0, h => by simp only [RepKv, List.eraseIdx_zero, List.tail_cons] at h ⊢; exact h.2.2.2.2
  | (_, _) :: _, _ :: _, n + 1, h => by simp only [RepKv, List.eraseIdx_cons_succ] at h ⊢; exact ⟨h.1, h.2.1, h.2.2.1, h.2.2.2.1, RepKv.erase n h.2.2.2.2⟩
  | [], _ :: _, _, h => by simp [RepKv] at h
  | _ :: _, [], _, h => by simp [RepKv] at h
theorem mapT_inv (hT : Agree P X.T) {t : Nat} {K : UT → Nat → Prop} (h : mapT (propSig M) X t K) : ∃ u e k dd, K u e ∧ keyD u = some dd ∧ P.underlying t = some (.map k e) ∧ P.underlying k = some dd := by
  obtain ⟨i, h1, ht⟩ := tiK_inv hT h
  clear h
  obtain ⟨d1, hd1, _, hu1, _⟩ := ht.run_underlying (w := default)
  split at h1
  · rename_i k e hu
    obtain rfl := utOf_map (hu1.symm.trans hu)
    obtain ⟨j, h2, hj⟩ := tiK_inv hT h1
    clear h1
    obtain ⟨d2, hd2, _, hu2, _⟩ := hj.run_underlying (w := default)
    split at h2
    · rename_i k' hu'
      obtain rfl := utOf_int (hu2.symm.trans hu')
      exact ⟨_, e, k, _, h2, rfl, hd1, hd2⟩
    · rename_i hu'
      obtain rfl := utOf_string (hu2.symm.trans hu')
      exact ⟨_, e, k, _, h2, rfl, hd1, hd2⟩
    · exact h2.elim
  · exact h1.elim
theorem agg_zero {t : Nat} {j : TI} (hj : TIs P t j) : ∃ z, (zeroValue t).run P w = .ok z w ∧ RepV E (aggOf j) z := by
  obtain ⟨z, h1, h2, h3, h4⟩ := hj.run_zero (w := w)
  refine ⟨z, h1, ?_⟩
  unfold aggOf
  cases ha : j.agg with
  | true =>
    rw [ha] at h4
    cases z <;> simp [zeroFits] at h4
    rename_i cs
    exact ⟨cs.toList, by simp, by rw [h2]; exact plains_rep (by simpa [Value.cells] using h3)⟩
  | false =>
    rw [ha] at h4
    rw [h2]
    cases z <;> simp only [zeroFits, Bool.not_false, Bool.false_eq_true] at h4 <;>
      exact ⟨by simpa [Value.cells, plains] using h3, rfl⟩
theorem lookup_lands (r : Rel G L E own ρ H d a w) (hT : Agree P X.T) {K : VK Prop} {t : Nat} {x ix : Operand} {ok : Bool} (hx : Vis L x) (hix : Vis L ix) (h : lookupO (propSig M) X ρ H d K t x ix ok) :
    Lands0 E w ρ H d K ((do pure (.value (← Instr.lookup t (a.eval x) (a.eval ix) ok)) : Sem Next).run P w) := by
  obtain ⟨u, e, k, dd, h1, hu, hm, hk⟩ := mapT_inv (M := M) hT h
  clear h
  obtain ⟨j, h2, hj⟩ := tiK_inv hT h1
  obtain ⟨p, h3, hp⟩ := evalK_inv r hx h2
  obtain ⟨q, h4, hq⟩ := evalK_inv r hix h3
  clear h1 h2 h3
  have fin : ∀ {kv : List (Value × AV)} {ents : Array MapEntry} {key : Value}, a.eval ix = key → RepKv E kv ents.toList → foundV (propSig M) ρ H d K u j ok key kv →
      ((a.eval x = .map none ∧ ents = #[]) ∨ ∃ b clock, a.eval x = .map (some b) ∧ w.heap[b]? = some (.map ents clock)) → Lands0 E w ρ H d K ((do pure (.value (← Instr.lookup t (a.eval x) (a.eval ix) ok)) : Sem Next).run P w) := by
    intro kv ents key hkey hkv h hwhere
    have hc : (Instr.checkKey ents.isEmpty 10000 k key).run P w = .ok () w := check_run hu hk _ 9999 _
    rcases findK_inv hu 0 hkv h with ⟨hF, hf⟩ | ⟨n, y, en, h5, h6, h7, h8, h9⟩
    · obtain ⟨z, hz, hzr⟩ := agg_zero (E := E) (w := w) hj
      have hr : (Instr.lookup t (a.eval x) (a.eval ix) ok).run P w = .ok (if ok then .tuple #[z, .bool false] else z) w := by
        rcases hwhere with ⟨hxv, rfl⟩ | ⟨b, clock, hxv, hb⟩
        · simp only [Instr.lookup, Sem.run_bind, run_underlying hm, Result.andThen_ok, hxv, Sem.run_pure, hc, Instr.findKey, run_underlying hk, hkey, hf, hz]
        · simp only [Instr.lookup, Sem.run_bind, run_underlying hm, Result.andThen_ok, hxv, Sem.run_pure, getObj_run hb, hc, Instr.findKey, run_underlying hk, hkey, hf, hz]
      cases ok with
      | true => exact Lands0.value (v := .tuple #[z, .bool false]) r hF ⟨[z, .bool false], rfl, hzr, ⟨rfl, rfl⟩, trivial⟩ (by rw [Sem.run_bind, hr]; rfl)
      | false => exact Lands0.value (v := z) r hF hzr (by rw [Sem.run_bind, hr]; rfl)
    · have hg := hkv.get h5 h6
      have hr : (Instr.lookup t (a.eval x) (a.eval ix) ok).run P w = .ok (if ok then .tuple #[en.val, .bool true] else en.val) w := by
        rcases hwhere with ⟨hxv, rfl⟩ | ⟨b, clock, hxv, hb⟩
        · simp only [Instr.lookup, Sem.run_bind, run_underlying hm, Result.andThen_ok, hxv, Sem.run_pure, hc, Instr.findKey, run_underlying hk, hkey, h8]
        · simp only [Instr.lookup, Sem.run_bind, run_underlying hm, Result.andThen_ok, hxv, Sem.run_pure, getObj_run hb, hc, Instr.findKey, run_underlying hk, hkey, h8]
      cases ok with
      | true => exact Lands0.value (v := .tuple #[en.val, .bool true]) r h9 ⟨[en.val, .bool true], rfl, hg.2.2.2, ⟨rfl, rfl⟩, trivial⟩ (by rw [Sem.run_bind, hr]; rfl)
      | false => exact Lands0.value (v := en.val) r h9 hg.2.2.2 (by rw [Sem.run_bind, hr]; rfl)
  unfold lookupV at h4
  split at h4
  · rename_i key
    obtain ⟨_, hkey⟩ := hq
    split at h4
    · rename_i m
      obtain ⟨kv, e', h5⟩ := mapObjK_inv h4
      obtain ⟨b, hb, hc⟩ := hp
      obtain ⟨ents, clock, g1, g2, g3⟩ := r.map e' hb
      exact fin hkey g3 h5 (.inr ⟨b, clock, hc, g2⟩)
    · obtain ⟨_, hc⟩ := hp
      exact fin (ents := #[]) hkey (by simp [RepKv]) h4 (.inl ⟨hc, rfl⟩)
    · exact h4.elim
  · exact h4.elim
theorem sameBits_self {u : UT} {p : Value} (n : Nat) (h : sameKey u p p = some true) : Instr.sameBits (n + 1) p p = true := by
  unfold sameKey at h
  split at h
  · simp [Instr.sameBits]
  · rename_i b
    have : (b == b) = true := by rw [beq_toListBytes]; exact beq_self_eq_true _
    simp [Instr.sameBits, this]
  · cases h
theorem keyThat_run {u : UT} {p : Value} (h : sameKey u p p = some true) : (Instr.keyThatStays p p).run P w = .ok p w := by
  have hs : Instr.sameBits 10000 p p = true := sameBits_self 9999 h
  simp only [Instr.keyThatStays, hs, if_true, Sem.run_pure]
theorem mapUpdate_lands (r : Rel G L E own ρ H d a w) (hT : Agree P X.T) {K : VK Prop} {t : Nat} {m k x : Operand} (hm : Vis L m) (hk : Vis L k) (hx : Vis L x) (h : mapUpdateO (propSig M) X ρ H d K t m k x) :
    Lands G L E a w K ((do Instr.mapUpdate t (a.eval m) (a.eval k) (a.eval x); pure .skip : Sem Next).run P w) := by
  obtain ⟨u, e, kt, dd, h1, hu, hmt, hkt⟩ := mapT_inv (M := M) hT h
  clear h
  obtain ⟨p, h2, hp⟩ := evalK_inv r hm h1
  obtain ⟨q, h3, hq⟩ := evalK_inv r hk h2
  obtain ⟨y, h4, hy⟩ := evalK_inv r hx h3
  clear h1 h2 h3
  unfold putV at h4
  split at h4
  · rename_i j key
    obtain ⟨E1, own1, ρ1, H1, xs1, h5, r1, hx1, hg1, _⟩ := freezeK_inv r (xs := [y]) (cs := [a.eval x]) ⟨hy, trivial⟩ h4
    clear h4
    obtain ⟨y1, l1, rfl, hy1, hl1⟩ : ∃ y1 l1, xs1 = y1 :: l1 ∧ RepV E1 y1 (a.eval x) ∧ RepVs E1 l1 [] := by
      cases xs1 with
      | nil => simp [RepVs] at hx1
      | cons y1 l1 => simp only [RepVs] at hx1; exact ⟨y1, l1, rfl, hx1⟩
    obtain ⟨hpu, h6⟩ := condF h5
    clear h5
    obtain ⟨kv, e', h7⟩ := mapObjK_inv h6
    clear h6
    obtain ⟨b, hb, hmv⟩ := RepV.mono hg1.le hp
    obtain ⟨hpk, hkey⟩ := hq
    obtain ⟨ents, clock, g1, g2, g3⟩ := r1.map e' hb
    have hc : (Instr.checkKey false 10000 kt key).run P w = .ok () w := check_run hu hkt _ 9999 _
    have fin : ∀ {kv' : List (Value × AV)} {ents' : Array MapEntry} {clock' : Nat}, RepKv E1 kv' ents'.toList → setK H1 j (.map kv') (fun H => K .undef ρ1 H d) →
        (Instr.mapUpdate t (a.eval m) (a.eval k) (a.eval x)).run P w = .ok () (setBlock w b (.map ents' clock')) →
        Lands G L E a w K ((do Instr.mapUpdate t (a.eval m) (a.eval k) (a.eval x); pure .skip : Sem Next).run P w) := by
      intro kv' ents' clock' hr h8 hrun
      rw [setK_eq] at h8
      obtain ⟨r', hg⟩ := r1.write g1 (o := .map kv') (ob := .map ents' clock') (by
        simp only [RepO, hb]
        exact ⟨_, _, trivial, setBlock_same g2, hr⟩) (fun cs e => by cases e)
      exact ⟨_, ρ1, _, d, E1, _, a.defers, _, undef, h8, r'.same, trivial, hg1.trans hg, .inr (.inl ⟨by rw [Sem.run_bind, hrun]; rfl, rfl, rfl⟩)⟩
    rcases putKeyK_inv hu 0 g3 h7 with ⟨h8, hf⟩ | ⟨n, z, en, h8, h9, h10, hs, hf, h11⟩
    · refine fin (ents' := ents.push { key := key, val := a.eval x, born := clock }) (clock' := clock + 1) ?_ h8 ?_
      · rw [Array.toList_push]
        exact g3.append ⟨rfl, hpk, hpu, hy1, trivial⟩
      · simp only [Instr.mapUpdate, Sem.run_bind, run_underlying hmt, Result.andThen_ok, hmv, getObj_run g2, hkey, hc, Instr.findKey, run_underlying hkt, hf, Sem.run_pure]
        exact setObj_run g2 nofun
    · refine fin (ents' := ents.modify (0 + n) fun e => { e with key := key, val := a.eval x }) (clock' := clock) ?_ h11 ?_
      · have hn : n < ents.toList.length := (List.getElem?_eq_some_iff.1 h9).1
        have he : ents.toList[n] = en := (List.getElem?_eq_some_iff.1 h9).2
        have : (ents.modify (0 + n) fun e => { e with key := key, val := a.eval x }).toList = ents.toList.set n { en with key := key, val := a.eval x } := by
          apply List.ext_getElem?
          intro i
          rw [Array.getElem?_toList, Array.getElem?_modify, List.getElem?_set, Nat.zero_add]
          by_cases hi : n = i
          · subst hi
            have h9' : ents[n]? = some en := by simpa using h9
            simp only [if_true, h9', Option.map_some, hn]
          · simp only [hi, if_false, Array.getElem?_toList]
        rw [this]
        exact g3.set n rfl hpk hpu hy1
      · have h9' : ents[n]? = some en := by simpa using h9
        simp only [Instr.mapUpdate, Sem.run_bind, run_underlying hmt, Result.andThen_ok, hmv, getObj_run g2, hkey, hc, Instr.findKey, run_underlying hkt, hf, Sem.run_pure, Nat.zero_add, h9', Option.map_some, Option.getD_some, h10,
          keyThat_run hs]
        exact setObj_run g2 nofun
  · exact h4.elim
theorem delete_lands (r : Rel G L E own ρ H d a w) (hT : Agree P X.T) {K : VK Prop} {t ty : Nat} {ts : Array Nat} (h0 : ts[0]? = some t) {x y : AV} {cx cy : Value} (hx : RepV E x cx) (hy : RepV E y cy)
    (h : deleteO (propSig M) X ρ H d K t x y) :
    Lands G L E a w K ((do pure (.value (← Builtin.delete_ ts ty #[cx, cy])) : Sem Next).run P w) := by
  obtain ⟨u, e, kt, dd, h1, hu, hmt, hkt⟩ := mapT_inv (M := M) hT h
  clear h
  split at h1
  · rename_i j key
    obtain ⟨kv, e', h7⟩ := mapObjK_inv h1
    clear h1
    obtain ⟨b, hb, hmv⟩ := hx
    obtain ⟨hpk, hkey⟩ := hy
    obtain ⟨ents, clock, g1, g2, g3⟩ := r.map e' hb
    have hc : (Instr.checkKey ents.isEmpty 10000 kt key).run P w = .ok () w := check_run hu hkt _ 9999 _
    have fin : ∀ {kv' : List (Value × AV)} {ents' : Array MapEntry}, RepKv E kv' ents'.toList → setK H j (.map kv') (fun H => K (.tup []) ρ H d) →
        (Builtin.delete_ ts ty #[cx, cy]).run P w = .ok (.tuple #[]) (setBlock w b (.map ents' clock)) →
        Lands G L E a w K ((do pure (.value (← Builtin.delete_ ts ty #[cx, cy])) : Sem Next).run P w) := by
      intro kv' ents' hr h8 hrun
      rw [setK_eq] at h8
      obtain ⟨r', hg⟩ := r.write g1 (o := .map kv') (ob := .map ents' clock) (by
        simp only [RepO, hb]
        exact ⟨_, _, trivial, setBlock_same g2, hr⟩) (fun cs e => by cases e)
      exact ⟨_, ρ, _, d, E, _, a.defers, _, .tuple #[], h8, r'.same, ⟨[], rfl, trivial⟩, hg, .inl ⟨by rw [Sem.run_bind, hrun]; rfl, rfl⟩⟩
    rcases dropKeyK_inv hu 0 g3 h7 with ⟨h8, hf⟩ | ⟨n, en, h9, hf, h11⟩
    · refine fin (ents' := ents) g3 h8 ?_
      simp only [Builtin.delete_, h0, List.getElem?_toArray, List.getElem?_cons_zero, List.getElem?_cons_succ, Sem.run_bind, run_underlying hmt, Result.andThen_ok, hmv, getObj_run g2, hkey, hc, Instr.findKey, run_underlying hkt, hf, Sem.run_pure,
        setObj_run (P := P) (o := .map ents clock) g2 nofun]
    · refine fin (ents' := ents.eraseIdxIfInBounds (0 + n)) ?_ h11 ?_
      · have hn : n < ents.size := by simpa using (List.getElem?_eq_some_iff.1 h9).1
        rw [Nat.zero_add]
        simp only [Array.eraseIdxIfInBounds, hn, dif_pos, Array.toList_eraseIdx]
        exact g3.erase n
      · simp only [Builtin.delete_, h0, List.getElem?_toArray, List.getElem?_cons_zero, List.getElem?_cons_succ, Sem.run_bind, run_underlying hmt, Result.andThen_ok, hmv, getObj_run g2, hkey, hc, Instr.findKey, run_underlying hkt, hf, Sem.run_pure,
          setObj_run (P := P) (o := .map (ents.eraseIdxIfInBounds (0 + n)) clock) g2 nofun]
  · exact h1.elim
end
end Am
end Go.Proofs.YtbdnfkmcfencdaaGreatDoor
/- The abstract machine is sound, operation by operation (the rest). No condition. -/
namespace Go.Proofs.YtbdnfkmcfencdaaGreatDoor
namespace Am
open Go

theorem bytes_row {E : Env} : ∀ {es : List (List AV)} {cs : List Value} {bs : List UInt8}, bytesOf es = some bs → RepEs E 1 es cs → cs.length = es.length * 1 → ∃ ns : List Int, cs = ns.map (Value.int .u8) ∧ bs = ns.map fun n => UInt8.ofNat n.toNat
  | [], cs, bs, h, _, hl => by
    simp only [bytesOf, Option.some.injEq] at h
    subst h
    have : cs = [] := List.length_eq_zero_iff.1 (by simpa using hl)
    exact ⟨[], by simp [this], rfl⟩
  | e :: es, cs, bs, h, hr, hl => by
    unfold bytesOf at h
    split at h
    · rename_i heq; cases heq
    · rename_i n l heq
      simp only [List.cons.injEq] at heq
      obtain ⟨rfl, rfl⟩ := heq
      cases hb : bytesOf es with
      | none => rw [hb] at h; cases h
      | some bs' =>
        rw [hb] at h
        simp only [Option.map_some, Option.some.injEq] at h
        subst h
        simp only [RepEs] at hr
        cases cs with
        | nil => simp at hl
        | cons c cs =>
          have h1 := hr.2.1
          simp only [List.take_succ_cons, List.take_zero, RepVs, RepV, and_true] at h1
          obtain ⟨ns, h2, h3⟩ := bytes_row hb (by simpa using hr.2.2) (by simpa using hl)
          exact ⟨n :: ns, by rw [h1.2, h2]; rfl, by rw [h3]; rfl⟩
    · cases h
theorem push_all : ∀ (ns : List Int) (s : ByteArray), ns.foldl (fun r n => r.push (UInt8.ofNat n.toNat)) s = ⟨s.data ++ (ns.map fun n => UInt8.ofNat n.toNat).toArray⟩
  | [], s => by cases s; simp
  | n :: ns, s => by
    rw [List.foldl_cons, push_all ns]
    cases s
    simp [ByteArray.push]
section
variable {P : Program} {G : Nat → Option (List Value)} {M : Md P G} {L : Nat → Prop} {X : Ctx} {E : Env} {own : Nat → List Nat} {ρ : Regs} {H : Heap} {d : Dx} {a : Act} {w : World}
theorem makeMap_lands (r : Rel G L E own ρ H d a w) (hT : Agree P X.T) {K : VK Prop} {t : Nat} {m : Option Operand} (hm : ∀ o, m = some o → Vis L o) (h : makeMapO (propSig M) X ρ H d K t m) :
    Lands G L E a w K ((do pure (.value (← Instr.makeMap t (m.map a.eval))) : Sem Next).run P w) := by
  have fin : newK H (.map []) (fun k H => K (.mp k) ρ H d) → (Instr.makeMap t (m.map a.eval)).run P w = .ok (.map (some w.heap.size)) (push w (.map #[] 0)) →
      Lands G L E a w K ((do pure (.value (← Instr.makeMap t (m.map a.eval))) : Sem Next).run P w) := by
    intro h hr
    rw [newK_eq'] at h
    obtain ⟨E', own', h1, h2, _, _, _, h3⟩ := r.new (.map #[] 0) 0 0 0 (.map []) (fun _ e => by cases e) (by
      simp only [RepO, Env.add, if_true]
      exact ⟨#[], 0, trivial, push_new _ _, by simp [RepKv]⟩)
    exact ⟨_, ρ, _, d, E', own', a.defers, _, _, h, h1.same, ⟨_, h2, rfl⟩, h3, .inl ⟨by rw [Sem.run_bind, hr]; rfl, rfl⟩⟩
  cases m with
  | none => exact fin h (by simp [Instr.makeMap, push])
  | some o =>
    simp only [makeMapO] at h
    obtain ⟨u, e, k, dd, h1, hu, hmt, hk⟩ := mapT_inv hT h
    obtain ⟨q, h2, hq⟩ := evalK_inv r (hm o rfl) h1
    obtain ⟨k', n, hn, h3⟩ := asNat_inv h2 hq
    exact fin h3 (by simp [Instr.makeMap, run_underlying hmt, hn, asInt, asIntOf]; rfl)
theorem range_lands (r : Rel G L E own ρ H d a w) (hT : Agree P X.T) {K : VK Prop} {t : Nat} {x : Operand} (hx : Vis L x) (h : rangeO (propSig M) X ρ H d K t x) :
    Lands G L E a w K ((do pure (.value (← Instr.range t (a.eval x))) : Sem Next).run P w) := by
  obtain ⟨i, h1, ht⟩ := tiK_inv hT h
  obtain ⟨y, h2, hy⟩ := evalK_inv r hx h1
  clear h h1
  obtain ⟨dd, hd, _, hund, hrun⟩ := ht.run_underlying (w := w)
  split at h2
  · rename_i hu
    obtain rfl := utOf_string (hund.symm.trans hu)
    split at h2
    · rename_i b
      rw [newK_eq'] at h2
      obtain ⟨_, e⟩ := hy
      obtain ⟨E', own', g1, g2, _, _, _, g3⟩ := r.new (.stringIter b 0) 0 0 0 (.siter b 0) (fun _ e => by cases e) (by
        simp only [RepO, Env.add, if_true]
        exact ⟨trivial, push_new _ _⟩)
      exact ⟨_, ρ, _, d, E', own', a.defers, _, .pointer (some ⟨w.heap.size, 0, none⟩), h2, g1.same, ⟨_, g2, rfl⟩, g3, .inl ⟨by simp [Instr.range, hrun, e]; rfl, rfl⟩⟩
    · exact h2.elim
  · exact h2.elim
theorem next_lands (r : Rel G L E own ρ H d a w) {K : VK Prop} {x : Operand} {s : Bool} {ty : Nat} (hx : Vis L x) (h : nextO (propSig M) ρ H d K x s) :
    Lands G L E a w K ((do pure (.value (← Instr.next (a.eval x) s ty)) : Sem Next).run P w) := by
  obtain ⟨hs, h1⟩ := condF h
  subst hs
  obtain ⟨y, h2, hy⟩ := evalK_inv r hx h1
  clear h h1
  split at h2
  · rename_i k
    obtain ⟨o, e, h3⟩ := objK_inv h2
    clear h2
    split at h3
    · rename_i b pos
      obtain ⟨bl, hb, hc⟩ := hy
      have ho := r.heap.obj k _ e
      simp only [RepO, hb] at ho
      obtain ⟨hown, hw⟩ := ho
      have h3 : cond (decide (pos < b.size)) (setK H k (.siter b (pos + (Utf8.decode b pos).2)) fun H => K (.tup [.v (.bool true), .v (.int .i64 pos), .v (.int .i32 (Utf8.decode b pos).1)]) ρ H d) (K (.tup [.v (.bool false)]) ρ H d) := h3
      by_cases hp : pos < b.size
      · rw [decide_eq_true hp] at h3
        simp only [cond_true, setK_eq] at h3
        obtain ⟨r', hg⟩ := r.write hown (o := .siter b (pos + (Utf8.decode b pos).2)) (ob := .stringIter b (pos + (Utf8.decode b pos).2)) (by
          simp only [RepO, hb]
          exact ⟨trivial, setBlock_same hw⟩) (fun cs e => by cases e)
        refine ⟨_, ρ, _, d, E, _, a.defers, _, .tuple #[.bool true, goInt pos, .int .i32 (Utf8.decode b pos).1], h3, r'.same, ⟨[.bool true, goInt pos, .int .i32 (Utf8.decode b pos).1], rfl, ⟨rfl, rfl⟩, ⟨rfl, rfl⟩, ⟨rfl, rfl⟩, trivial⟩, hg, .inl ⟨?_, rfl⟩⟩
        simp only [Instr.next, hc, Sem.run_bind, getObj_iter hw, Result.andThen_ok, hp, if_true, setObj_run (P := P) (o := .stringIter b (pos + (Utf8.decode b pos).2)) hw nofun, Sem.run_pure]
      · rw [decide_eq_false hp] at h3
        simp only [cond_false] at h3
        refine Lands.value (v := .tuple #[.bool false]) r h3 ⟨[.bool false], rfl, ⟨rfl, rfl⟩, trivial⟩ ?_
        simp only [Instr.next, hc, Sem.run_bind, getObj_iter hw, Result.andThen_ok, hp, if_false, Sem.run_pure]
    · exact h3.elim
  · exact h2.elim
theorem convert_lands (r : Rel G L E own ρ H d a w) (hT : Agree P X.T) {K : VK Prop} {src dst : Nat} {x : Operand} (hx : Vis L x) (h : convertO (propSig M) X ρ H d K src dst x) :
    Lands0 E w ρ H d K ((do pure (.value (← convert src dst (a.eval x))) : Sem Next).run P w) := by
  obtain ⟨i, h1, hi⟩ := tiK_inv hT h
  obtain ⟨j, h2, hj⟩ := tiK_inv hT h1
  obtain ⟨y, h3, hy⟩ := evalK_inv r hx h2
  clear h h1 h2
  obtain ⟨d1, hd1, _, hu1, hr1⟩ := hi.run_underlying (w := w)
  obtain ⟨d2, hd2, _, hu2, hr2⟩ := hj.run_underlying (w := w)
  unfold convV at h3
  split at h3
  · rename_i k hu
    obtain rfl := utOf_int (hu2.symm.trans hu)
    split at h3
    · rename_i k' n
      obtain ⟨_, e⟩ := hy
      have h3 := numK_inv h3
      refine Lands0.value r h3 ⟨rfl, rfl⟩ ?_
      rw [e, fwrap_eq]
      simp [convert, hr1, hr2, Conv.intToInt]
    · exact h3.elim
  · rename_i hu
    obtain rfl := utOf_string (hu2.symm.trans hu)
    split at h3
    · rename_i b
      obtain ⟨_, e⟩ := hy
      refine Lands0.value r h3 ⟨rfl, rfl⟩ ?_
      rw [e]
      cases d1 <;> simp [convert, hr1, hr2]
    · rename_i hno
      unfold bytesV at h3
      split at h3
      · rename_i e hus
        obtain rfl := utOf_slice (hu1.symm.trans hus)
        obtain ⟨k, h4, hk⟩ := tiK_inv hT h3
        clear h3
        obtain ⟨d3, hd3, _, hu3, hr3⟩ := hk.run_underlying (w := w)
        split at h4
        · rename_i huk
          obtain rfl := utOf_int (hu3.symm.trans huk)
          have hns : ∀ s, a.eval x ≠ .string s := by
            intro s e
            rw [e] at hy
            cases y with
            | v b => obtain ⟨_, rfl⟩ := hy; exact hno _ rfl
            | undef => exact h4.elim
            | _ => simp [RepV] at hy
          obtain ⟨es, cs, h5, hsh⟩ := elemsK_inv r hy h4
          clear h4
          split at h5
          · rename_i bs hbs
            obtain ⟨ns, hcs, hbn⟩ := bytes_row hbs hsh.rep hsh.long
            refine Lands0.value (v := .string ⟨bs.toArray⟩) r h5 ⟨rfl, rfl⟩ ?_
            have hlen := hsh.len
            have hcells := hsh.cells es.length w (Nat.le_refl _) rfl
            rw [List.take_of_length_le (by rw [hsh.long]; exact Nat.le_refl _)] at hcells
            cases hv : a.eval x with
            | slice p n cap =>
              rw [hv] at hlen hcells
              have hn : n = es.length := by simp only [Builtin.lenOf, Sem.run_pure] at hlen; injection hlen
              have hconv := run_convert_bytes_string w src dst e p n cap hd1 hd3 hd2
              rw [Sem.run_bind, hconv]
              cases p with
              | none =>
                have hcs0 : cs = [] := by
                  simp only [Builtin.firstCells, Sem.run_pure] at hcells
                  injection hcells with hc
                  have := congrArg Array.toList hc
                  simpa using this.symm
                rw [hcs0] at hcs
                have : ns = [] := by simpa using hcs.symm
                subst this
                subst hbn
                rfl
              | some ad =>
                simp only [Builtin.firstCells, Nat.mul_one] at hcells
                rw [run_bytesToString w ad n cap ns (by rw [hn, hcells, hcs]), push_all, hbn]
                simp
            | string s => exact absurd hv (hns s)
            | _ => rw [hv] at hlen; simp [Builtin.lenOf] at hlen
          · exact h5.elim
        · exact h4.elim
      · exact h3.elim
  · exact h3.elim
theorem typeAssert_lands (r : Rel G L E own ρ H d a w) (hT : Agree P X.T) {K : VK Prop} {x : Operand} {t u : Nat} {ok : Bool} (hx : Vis L x) (h : typeAssertO (propSig M) X ρ H d K x u ok) :
    Lands0 E w ρ H d K ((do pure (.value (← Instr.typeAssert (a.eval x) t u ok)) : Sem Next).run P w) := by
  obtain ⟨y, h1, hy⟩ := evalK_inv r hx h
  obtain ⟨j, h2, hj⟩ := tiK_inv hT h1
  clear h h1
  obtain ⟨dd, hd, _, hund, hrun⟩ := hj.run_underlying (w := w)
  split at h2
  · exact h2.elim
  · rename_i hni
    have hnd : ∀ ms, dd ≠ .interface ms := fun ms e => by subst e; exact hni (by rw [hund]; rfl)
    have none : noAssert (propSig M) ρ H d K j ok → (a.eval x = .nilIface ∨ ∃ t' v, a.eval x = .iface t' v ∧ t' ≠ u) → Lands0 E w ρ H d K ((do pure (.value (← Instr.typeAssert (a.eval x) t u ok)) : Sem Next).run P w) := by
      intro h hw
      unfold noAssert at h
      cases ok with
      | false => exact h.elim
      | true =>
        obtain ⟨z, hz, hzr⟩ := agg_zero (E := E) (w := w) hj
        have hr : (Instr.typeAssert (a.eval x) t u true).run P w = .ok (.tuple #[z, .bool false]) w := by
          rcases hw with hw | ⟨t', v, hw, hne⟩
          · rw [hw]
            cases dd <;> first | exact absurd rfl (hnd _) | simp [Instr.typeAssert, hrun, hz]
          · rw [hw]
            cases dd <;> first | exact absurd rfl (hnd _) | simp [Instr.typeAssert, hrun, hz, hne]
        exact Lands0.value (v := .tuple #[z, .bool false]) r h ⟨[z, .bool false], rfl, hzr, ⟨rfl, rfl⟩, trivial⟩ (by rw [Sem.run_bind, hr]; rfl)
    have some : ∀ {t' : Nat} {q : AV} {v : Value}, RepV E q v → a.eval x = .iface t' v → assertV (propSig M) ρ H d K j t' u ok q → Lands0 E w ρ H d K ((do pure (.value (← Instr.typeAssert (a.eval x) t u ok)) : Sem Next).run P w) := by
      intro t' q v hq hw h
      unfold assertV at h
      by_cases ht : t' = u
      · subst ht
        simp only [Nat.beq_refl, cond_true] at h
        have hr : (Instr.typeAssert (a.eval x) t t' ok).run P w = .ok (if ok then .tuple #[v, .bool true] else v) w := by
          rw [hw]
          cases dd <;> first | exact absurd rfl (hnd _) | simp [Instr.typeAssert, hrun]
        cases ok with
        | true => exact Lands0.value (v := .tuple #[v, .bool true]) r h ⟨[v, .bool true], rfl, hq, ⟨rfl, rfl⟩, trivial⟩ (by rw [Sem.run_bind, hr]; rfl)
        | false => exact Lands0.value (v := v) r h hq (by rw [Sem.run_bind, hr]; rfl)
      · have hb : Nat.beq t' u = false := by rw [← Bool.not_eq_true, Nat.beq_eq]; exact ht
        rw [hb] at h
        exact none h (.inr ⟨t', v, hw, ht⟩)
    split at h2
    · obtain ⟨v, hw, hq⟩ := hy
      exact some hq hw h2
    · rename_i t' y'
      obtain ⟨hp, hw⟩ := hy
      exact some (q := .v y') ⟨by simpa [plain] using hp, rfl⟩ hw h2
    · obtain ⟨_, hw⟩ := hy
      exact none h2 (.inl hw)
    · exact h2.elim
theorem minmax_lands (isMax : Bool) : ∀ {l : List AV} {m : List Value} {x : AV} {c : Value} {K : AV → Prop}, RepVs E l m → RepV E x c → minmaxK (propSig M) isMax l x K →
    ∃ y v, K y ∧ RepV E y v ∧ (m.foldlM (bif isMax then Builtin.max2 else Builtin.min2) c).run P w = .ok v w
  | [], [], x, c, K, _, hx, h => ⟨x, c, h, hx, rfl⟩
  | y :: l, q :: m, x, c, K, hr, hx, h => by
    simp only [RepVs] at hr
    have h : (match (generalizing := false) x, y with
      | .v (.int k a), .v (.int k' b) => if k = k' then numK (propSig M) k (pickInt isMax a b) fun c => minmaxK (propSig M) isMax l (.v c) K else False
      | _, _ => False) := h
    split at h
    · rename_i k a' k2 b' h0
      split at h
      · rename_i ek
        subst ek
        obtain ⟨_, rfl⟩ := hx
        obtain ⟨_, hq⟩ := hr.1
        subst hq
        have h := numK_inv h
        obtain ⟨y', v, h1, h2, h3⟩ := minmax_lands isMax hr.2 (x := .v (.int k (pickInt isMax a' b'))) (c := .int k (pickInt isMax a' b')) ⟨rfl, rfl⟩ h
        refine ⟨y', v, h1, h2, ?_⟩
        rw [List.foldlM_cons, Sem.run_bind]
        cases isMax
        · exact h3
        · exact h3
      · exact h.elim
    · exact h.elim
  | [], _ :: _, _, _, _, hr, _, _ => by simp [RepVs] at hr
  | _ :: _, [], _, _, _, hr, _, _ => by simp [RepVs] at hr
end
end Am
end Go.Proofs.YtbdnfkmcfencdaaGreatDoor
/- The abstract machine is sound: numbers of objects change, and what values stand for does not. No condition. -/
namespace Go.Proofs.YtbdnfkmcfencdaaGreatDoor
namespace Am
open Go

theorem look_some : ∀ {r : List (Nat × Nat)} {k j : Nat}, look r k = some j → (k, j) ∈ r
  | [], _, _, h => by simp [look] at h
  | (a, b) :: l, k, j, h => by
    simp only [look] at h
    cases e : Nat.beq a k with
    | true => rw [e] at h; simp at h; have := Nat.eq_of_beq_eq_true e; subst this; subst h; exact List.mem_cons_self
    | false => rw [e] at h; exact List.mem_cons_of_mem _ (look_some h)
theorem mem_numbered : ∀ {n : Nat} {ks : List Nat} {k j : Nat}, (k, j) ∈ numbered n ks → n ≤ j ∧ ks[j - n]? = some k
  | _, [], _, _, h => by simp [numbered] at h
  | n, a :: ks, k, j, h => by
    simp only [numbered, List.mem_cons, Prod.mk.injEq] at h
    rcases h with ⟨rfl, rfl⟩ | h
    · simp
    · obtain ⟨h1, h2⟩ := mem_numbered h
      refine ⟨by omega, ?_⟩
      rw [show j - n = (j - (n + 1)) + 1 from by omega]
      simpa using h2
theorem mem_backward : ∀ {n : Nat} {ks : List Nat} {k j : Nat}, (j, k) ∈ backward n ks → n ≤ j ∧ ks[j - n]? = some k
  | _, [], _, _, h => by simp [backward] at h
  | n, a :: ks, k, j, h => by
    simp only [backward, List.mem_cons, Prod.mk.injEq] at h
    rcases h with ⟨rfl, rfl⟩ | h
    · simp
    · obtain ⟨h1, h2⟩ := mem_backward h
      refine ⟨by omega, ?_⟩
      rw [show j - n = (j - (n + 1)) + 1 from by omega]
      simpa using h2
theorem upFrom_get : ∀ {n m i k : Nat}, (upFrom n m)[i]? = some k → i < m ∧ k = n + i
  | _, 0, _, _, h => by simp [upFrom] at h
  | n, m + 1, 0, k, h => by simp [upFrom] at h; exact ⟨by omega, by omega⟩
  | n, m + 1, i + 1, k, h => by
    simp only [upFrom, List.getElem?_cons_succ] at h
    obtain ⟨h1, h2⟩ := upFrom_get h
    exact ⟨by omega, by omega⟩
theorem memb_iff : ∀ {k : Nat} {l : List Nat}, memb k l = true ↔ k ∈ l
  | k, [] => by simp [memb]
  | k, j :: l => by
    simp only [memb, List.mem_cons]
    cases e : Nat.beq j k with
    | true => have := Nat.eq_of_beq_eq_true e; simp [this]
    | false =>
      have : j ≠ k := fun h => by subst h; simp at e
      simp only [cond_false, memb_iff]
      exact ⟨.inr, fun h => h.resolve_left fun h => this h.symm⟩
theorem reach_nodup (H : Heap) : ∀ (n : Nat) (todo seen : List Nat), seen.Nodup → (reach H n todo seen).Nodup
  | 0, _, seen, h => by simpa [reach] using h
  | n + 1, [], seen, h => by simpa [reach] using h
  | n + 1, k :: todo, seen, h => by
    simp only [reach]
    cases e : memb k seen with
    | true => exact reach_nodup H n todo seen h
    | false =>
      refine reach_nodup H n _ _ ?_
      have : k ∉ seen := fun hk => by rw [memb_iff.2 hk] at e; cases e
      rw [List.nodup_append]
      exact ⟨h, by simp, fun a ha b hb e' => by simp at hb; subst hb; subst e'; exact this ha⟩

/-- Numbers change by r. -/
structure Ren (E E' : Env) (r : List (Nat × Nat)) : Prop where
  pure : E.PLe E'
  loc : ∀ k j, look r k = some j → E.loc k ≠ .absent → E'.loc j = E.loc k ∧ E'.n j = E.n k ∧ E'.tot j = E.tot k ∧ E'.z j = E.z k
mutual
theorem RepV.ren {E E' : Env} {r : List (Nat × Nat)} (h : Ren E E' r) : ∀ {x : AV} {c : Value}, RepV E x c → RepV E' (renAV r x) c
  | .ref k off, c, q => by
    simp only [renAV]
    split
    · rename_i j hj
      obtain ⟨b, hb, e⟩ := q
      exact ⟨b, by rw [(h.loc k j hj (by rw [hb]; simp)).1]; exact hb, e⟩
    · trivial
  | .ar k, c, q => by
    simp only [renAV]
    split
    · rename_i j hj
      rcases q with ⟨b, hb, e⟩ | ⟨hb, e⟩
      · have := h.loc k j hj (by rw [hb]; simp)
        exact .inl ⟨b, by rw [this.1]; exact hb, by rw [this.2.1, this.2.2.1]; exact e⟩
      · have := h.loc k j hj (by rw [hb]; simp)
        exact .inr ⟨by rw [this.1]; exact hb, e⟩
    · trivial
  | .sl k lo len, c, q => by
    simp only [renAV]
    split
    · rename_i j hj
      rcases q with ⟨b, o, hb, hl, e, ho⟩ | ⟨hb, e⟩
      · have := h.loc k j hj (by rw [hb]; simp)
        exact .inl ⟨b, o, by rw [this.1]; exact hb, by rw [this.2.1]; exact hl, by rw [this.2.2.1]; exact e, by rw [this.2.2.1, this.2.2.2]; exact ho⟩
      · have := h.loc k j hj (by rw [hb]; simp)
        exact .inr ⟨by rw [this.1]; exact hb, e⟩
    · trivial
  | .mp k, c, q => by
    simp only [renAV]
    split
    · rename_i j hj
      obtain ⟨b, hb, e⟩ := q
      exact ⟨b, by rw [(h.loc k j hj (by rw [hb]; simp)).1]; exact hb, e⟩
    · trivial
  | .it k, c, q => by
    simp only [renAV]
    split
    · rename_i j hj
      obtain ⟨b, hb, e⟩ := q
      exact ⟨b, by rw [(h.loc k j hj (by rw [hb]; simp)).1]; exact hb, e⟩
    · trivial
  | .aptr k i off, c, q => by
    simp only [renAV]
    split
    · rename_i j hj
      obtain ⟨b, hb, e⟩ := q
      have := h.loc k j hj (by rw [hb]; simp)
      exact ⟨b, by rw [this.1]; exact hb, by rw [this.2.2.2]; exact e⟩
    · trivial
  | .agg cs, _, q => by obtain ⟨xs, e, q⟩ := q; exact ⟨xs, e, RepVs.ren h q⟩
  | .tup cs, _, q => by obtain ⟨xs, e, q⟩ := q; exact ⟨xs, e, RepVs.ren h q⟩
  | .fn f cs, _, q => by obtain ⟨xs, e, q⟩ := q; exact ⟨xs, e, RepVs.ren h q⟩
  | .iface t x, _, q => by obtain ⟨y, e, q⟩ := q; exact ⟨y, e, RepV.ren h q⟩
  | .v x, c, q => q
  | .imm z es, c, q => RepV.pmono (x := .imm z es) h.pure rfl q
  | .mt, c, q => q
  | .eptr cs off, c, q => by
    obtain ⟨b, o, arr, T, fr, e, hi, hg, hp, k⟩ := q
    exact ⟨b, o, arr, T, fr, e, h.pure.im b hi, h.pure.Γ b _ hi hg, hp, RepVs.pmono h.pure hp k⟩
  | .glob g off, c, q => q
  | .undef, c, _ => trivial
  | .own _ _, c, q => q.elim
  | .omap _, c, q => q.elim
theorem RepVs.ren {E E' : Env} {r : List (Nat × Nat)} (h : Ren E E' r) : ∀ {l : List AV} {m : List Value}, RepVs E l m → RepVs E' (renAVs r l) m
  | [], [], _ => trivial
  | _ :: _, _ :: _, q => by simp only [RepVs, renAVs] at q ⊢; exact ⟨RepV.ren h q.1, RepVs.ren h q.2⟩
  | [], _ :: _, q => by simp [RepVs] at q
  | _ :: _, [], q => by simp [RepVs] at q
end
theorem RepC.ren {E E' : Env} {w : World} {r : List (Nat × Nat)} (h : Ren E E' r) {x : AV} {c : Value} {B : List Nat} (q : RepC E w x c B) : RepC E' w (renAV r x) c B := by
  cases x with
  | own z es =>
    rcases q with ⟨b, arr, T, tot, hB, h1, h2, h3, h4, h5⟩ | q
    · exact .inl ⟨b, arr, T, tot, hB, h1, h2, h3, h4, h5.pmono h.pure⟩
    · exact .inr q
  | omap kv =>
    obtain ⟨b, ents, clock, hB, h1, h2, h3⟩ := q
    exact ⟨b, ents, clock, hB, h1, h2, h3.pmono h.pure⟩
  | _ =>
    obtain ⟨q1, q2⟩ := q
    have q3 := q2.ren h
    revert q3
    generalize hx : renAV r _ = y
    intro q3
    cases y <;> first
      | exact ⟨q1, q3⟩
      | (simp only [renAV] at hx; first | cases hx | (split at hx <;> cases hx))
theorem RepCs.ren {E E' : Env} {w : World} {r : List (Nat × Nat)} (h : Ren E E' r) : ∀ {l : List AV} {m : List Value} {B : List Nat}, RepCs E w l m B → RepCs E' w (renAVs r l) m B
  | [], [], _, q => q
  | _ :: _, _ :: _, B, q => by
    obtain ⟨B1, B2, rfl, q1, q2⟩ := q
    exact ⟨B1, B2, rfl, q1.ren h, RepCs.ren h q2⟩
  | [], _ :: _, _, q => q.elim
  | _ :: _, [], _, q => q.elim
/-- An object at another number. -/
theorem RepO.ren {E E' : Env} {w : World} {r : List (Nat × Nat)} (h : Ren E E' r) {k j : Nat} (hl : E'.loc j = E.loc k ∧ E'.n j = E.n k ∧ E'.tot j = E.tot k ∧ E'.z j = E.z k) {o : AObj} {B : List Nat}
    (ho : ∀ cs, o = .box cs → okCellsO (renAVs r cs) = true) (q : RepO E w k o B) : RepO E' w j (renObj r o) B := by
  cases o with
  | dead => exact q
  | box cs =>
    simp only [RepO, renObj, hl.1] at q ⊢
    refine ⟨ho cs rfl, ?_⟩
    have q := q.2
    cases he : E.loc k with
    | absent => rw [he] at q; exact q
    | void => rw [he] at q; exact q
    | blk b =>
      rw [he] at q
      obtain ⟨arr, T, B', h1, h2, h3⟩ := q
      exact ⟨arr, T, B', h1, h2, h3.ren h⟩
  | arr z es =>
    simp only [RepO, renObj, hl.1, hl.2.1, hl.2.2.1, hl.2.2.2] at q ⊢
    cases he : E.loc k with
    | absent => rw [he] at q; exact q
    | void => rw [he] at q; exact q
    | blk b =>
      rw [he] at q
      obtain ⟨arr, T, h1, h2, h3, h4, h5, h6, h7⟩ := q
      exact ⟨arr, T, h1, h2, h3, h4, h5, h6, h7.pmono h.pure⟩
  | map kv =>
    simp only [RepO, renObj, hl.1] at q ⊢
    cases he : E.loc k with
    | absent => rw [he] at q; exact q
    | void => rw [he] at q; exact q
    | blk b =>
      rw [he] at q
      obtain ⟨ents, clock, h1, h2, h3⟩ := q
      exact ⟨ents, clock, h1, h2, h3.pmono h.pure⟩
  | siter s p =>
    simp only [RepO, renObj, hl.1] at q ⊢
    cases he : E.loc k with
    | absent => rw [he] at q; exact q
    | void => rw [he] at q; exact q
    | blk b => rw [he] at q; exact q
end Am
end Go.Proofs.YtbdnfkmcfencdaaGreatDoor
/- The abstract machine is sound: boxes' arrays are drawn in, and laid out. No condition. -/
namespace Go.Proofs.YtbdnfkmcfencdaaGreatDoor
namespace Am
open Go

section
variable {P : Program} {G : Nat → Option (List Value)} {M : Md P G} {E : Env} {own : Nat → List Nat} {H : Heap} {w : World}
/-- What stays of a state where boxes may hold arrays. -/
structure RelH (G : Nat → Option (List Value)) (E : Env) (own : Nat → List Nat) (H : Heap) (w : World) : Prop where
  heap : RepH E w H own
  ok : E.Ok w
  glob : Globals E G
theorem Globals.mono {E E' : Env} (h : E.Le E') (g : Globals E G) : Globals E' G := fun k vs e => by
  obtain ⟨hp, arr, T, fr, e1, e2⟩ := g k vs e
  exact ⟨hp, arr, T, fr, h.Γ _ _ e1, e2⟩
/-- Which boxes may hold arrays. -/
def LaidBut (H : Heap) (ks : List Nat) : Prop := ∀ (k : Nat) (cs : List AV), H[k]? = some (AObj.box cs) → k ∉ ks → okCells cs = true
theorem okCell_O {x : AV} (h : okCell x = true) : okCellO x = true := by cases x <;> simp_all [okCell, okCellO]

/-- An array's block, its object dead: what it stands for as a cell of its own. -/
theorem arr_cell (r : RepH E w H own) {k z : Nat} {es : List (List AV)} (e : H[k]? = some (.arr z es)) {c : Value} (hc : RepV E (.ar k) c) : RepC E w (.own z es) c (own k) := by
  have h := r.obj k _ e
  rcases hc with ⟨b, hb, rfl⟩ | ⟨hb, p, rfl⟩
  · simp only [RepO, hb] at h
    obtain ⟨arr, T, h1, h2, h3, h4, h5, h6, h7⟩ := h
    exact .inl ⟨b, arr, T, E.tot k, h1, h2, h3, by omega, by rw [h4], h7⟩
  · simp only [RepO, hb] at h
    obtain ⟨h1, rfl, _⟩ := h
    exact .inr ⟨h1, rfl, p, rfl⟩
/-- The object dies; its blocks are somebody else's to take. -/
theorem RepH.die (r : RepH E w H own) (k : Nat) : RepH E w (H.set k .dead) (fun j => if j = k then [] else own j) :=
  r.set (.refl w) k .dead [] (fun _ _ _ _ => rfl) (by simp [RepO]) (by simp) (by simp)
/-- An object takes blocks that nobody else has. -/
theorem RepH.put (r : RepH E w H own) {k : Nat} (hk : k < H.length) {o : AObj} {B : List Nat} (ho : RepO E w k o B) (hn : B.Nodup) (hB : ∀ b ∈ B, E.Γ b = none ∧ b < w.heap.size ∧ ∀ j, j ≠ k → b ∉ own j) :
    RepH E w (H.set k o) (fun j => if j = k then B else own j) := by
  refine ⟨fun j q e => ?_, fun j hj => ?_, fun j => ?_, fun i j b hij hb => ?_, fun j b hb => ?_⟩
  · by_cases hj : j = k
    · subst hj
      rw [List.getElem?_set_self hk] at e
      cases e
      simpa using ho
    · rw [List.getElem?_set_ne (fun e => hj e.symm)] at e
      simp only [hj, if_false]
      exact r.obj j q e
  · have hjk : j ≠ k := by simp at hj; omega
    simp only [hjk, if_false]
    exact r.beyond j (by simpa using hj)
  · by_cases hj : j = k
    · simpa [hj] using hn
    · simpa [hj] using r.nodup j
  · by_cases hi : i = k
    · simp only [hi, if_true] at hb
      have hj : j ≠ k := fun e => hij (hi.trans e.symm)
      simp only [hj, if_false]
      exact (hB b hb).2.2 j hj
    · simp only [hi, if_false] at hb
      by_cases hj : j = k
      · simp only [hj, if_true]
        exact fun h => (hB b h).2.2 i hi hb
      · simp only [hj, if_false]
        exact r.apart i j b hij hb
  · by_cases hj : j = k
    · simp only [hj, if_true] at hb
      exact ⟨(hB b hb).1, (hB b hb).2.1⟩
    · simp only [hj, if_false] at hb
      exact r.free j b hb
/-- Blocks were taken from objects that are no boxes. -/
structure Took (E : Env) (w : World) (own : Nat → List Nat) (H : Heap) (own' : Nat → List Nat) (H' : Heap) (B : List Nat) : Prop where
  len : H'.length = H.length
  box : ∀ (j : Nat) cs, H'[j]? = some (AObj.box cs) ↔ H[j]? = some (AObj.box cs)
  sub : ∀ j b, b ∈ own' j → b ∈ own j
  keep : ∀ (j : Nat) cs, H[j]? = some (AObj.box cs) → own' j = own j
  src : ∀ b ∈ B, ∃ j, b ∈ own j
  free : ∀ b ∈ B, E.Γ b = none ∧ b < w.heap.size ∧ ∀ j, b ∉ own' j
  nodup : B.Nodup
theorem Took.refl (E : Env) (w : World) (own : Nat → List Nat) (H : Heap) : Took E w own H own H [] :=
  ⟨rfl, fun _ _ => .rfl, fun _ _ h => h, fun _ _ _ => rfl, by simp, by simp, by simp⟩
theorem Took.trans {own1 own2 : Nat → List Nat} {H1 H2 : Heap} {B1 B2 : List Nat} (h : Took E w own H own1 H1 B1) (k : Took E w own1 H1 own2 H2 B2) : Took E w own H own2 H2 (B1 ++ B2) := by
  refine ⟨k.len.trans h.len, fun j cs => (k.box j cs).trans (h.box j cs), fun j b hb => h.sub j b (k.sub j b hb), fun j cs e => (k.keep j cs ((h.box j cs).2 e)).trans (h.keep j cs e), fun b hb => ?_, fun b hb => ?_, ?_⟩
  · rcases List.mem_append.1 hb with hb | hb
    · exact h.src b hb
    · obtain ⟨j, hj⟩ := k.src b hb; exact ⟨j, h.sub j b hj⟩
  · rcases List.mem_append.1 hb with hb | hb
    · have := h.free b hb; exact ⟨this.1, this.2.1, fun j hj => this.2.2 j (k.sub j b hj)⟩
    · exact k.free b hb
  · rw [List.nodup_append]
    refine ⟨h.nodup, k.nodup, fun a ha b hb e => ?_⟩
    subst e
    obtain ⟨j, hj⟩ := k.src a hb
    exact (h.free a ha).2.2 j hj
theorem RepH.took (r : RepH E w H own) {k : Nat} (hk : ∀ cs, H[k]? ≠ some (AObj.box cs)) {B : List Nat} (hB : B = own k ∨ B = []) : Took E w own H (fun j => if j = k then [] else own j) (H.set k .dead) B := by
  refine ⟨by simp, fun j cs => ?_, fun j b hb => ?_, fun j cs e => ?_, fun b hb => ?_, fun b hb => ?_, ?_⟩
  · by_cases hj : j = k
    · subst hj
      constructor
      · intro e
        by_cases hl : j < H.length
        · rw [List.getElem?_set_self hl] at e; cases e
        · rw [List.getElem?_eq_none (by simp; omega)] at e; cases e
      · intro e; exact absurd e (hk cs)
    · rw [List.getElem?_set_ne (fun e => hj e.symm)]
  · by_cases hj : j = k
    · simp [hj] at hb
    · simpa [hj] using hb
  · have : j ≠ k := fun e' => by subst e'; exact hk cs e
    simp [this]
  · rcases hB with rfl | rfl
    · exact ⟨k, hb⟩
    · cases hb
  · rcases hB with rfl | rfl
    · refine ⟨(r.free k b hb).1, (r.free k b hb).2, fun j hj => ?_⟩
      by_cases e : j = k
      · simp [e] at hj
      · simp only [e, if_false] at hj
        exact r.apart k j b (Ne.symm e) hb hj
    · cases hb
  · rcases hB with rfl | rfl
    · exact r.nodup k
    · exact List.nodup_nil
/-- One cell is drawn in. -/
theorem inCell_inv (r : RelH G E own H w) {x : AV} {c : Value} (ho : okCell x = true) (hx : RepV E x c) {K : AV → Heap → Prop} (h : inCellK (propSig M) x H K) :
    ∃ own' H' y B, K y H' ∧ RelH G E own' H' w ∧ Took E w own H own' H' B ∧ RepC E w y c B ∧ okCellO y = true := by
  have plain : K x H → (∀ z es, x ≠ .own z es) → (∀ kv, x ≠ .omap kv) → ∃ own' H' y B, K y H' ∧ RelH G E own' H' w ∧ Took E w own H own' H' B ∧ RepC E w y c B ∧ okCellO y = true := by
    intro h h1 h2
    refine ⟨own, H, x, [], h, r, .refl E w own H, ?_, okCell_O ho⟩
    cases x <;> first | exact ⟨rfl, hx⟩ | exact absurd rfl (h1 _ _) | exact absurd rfl (h2 _)
  have notBox : ∀ {k : Nat} {o : AObj}, H[k]? = some o → (∀ cs, o ≠ .box cs) → ∀ cs, H[k]? ≠ some (AObj.box cs) := by
    intro k o e hb cs e'
    rw [e] at e'; cases e'; exact hb cs rfl
  cases x with
  | ar k =>
    obtain ⟨z, es, e, h1⟩ := arrK_inv h
    rw [setK_eq] at h1
    exact ⟨_, _, _, own k, h1, ⟨r.heap.die k, r.ok, r.glob⟩, r.heap.took (notBox e nofun) (.inl rfl), arr_cell r.heap e hx, rfl⟩
  | sl k lo len =>
    cases lo with
    | succ lo => exact h.elim
    | zero =>
      have h : arrK (propSig M) H k (fun z es => setK H k .dead fun H => K (.own z (es.take len)) H) := h
      obtain ⟨z, es, e, h1⟩ := arrK_inv h
      rw [setK_eq] at h1
      have hr := r.heap.obj k _ e
      rcases hx with ⟨b, o, hb, hl, rfl, hoff⟩ | ⟨hb, _, rfl, p, rfl⟩
      · simp only [RepO, hb] at hr
        obtain ⟨arr, T, g1, g2, g3, g4, g5, g6, g7⟩ := hr
        by_cases ht : E.tot k = 0
        · have hl0 : len = 0 := by omega
          subst hl0
          exact ⟨_, _, _, [], h1, ⟨r.heap.die k, r.ok, r.glob⟩, r.heap.took (notBox e nofun) (.inr rfl), .inr ⟨rfl, by simp, some ⟨b, o, none⟩, by rw [ht]⟩, rfl⟩
        · have ho0 : o = 0 := hoff.elim (fun ho => by simpa using ho) (fun ho => absurd ho.symm ht)
          subst ho0
          have hlen : (es.take len).length = len := by simp; omega
          exact ⟨_, _, _, own k, h1, ⟨r.heap.die k, r.ok, r.glob⟩, r.heap.took (notBox e nofun) (.inl rfl), .inl ⟨b, arr, T, E.tot k, g1, g2, g3, by rw [hlen]; omega, by rw [hlen]; simp, pureEs_take _ g7.1, g7.2.take len⟩, rfl⟩
      · simp only [RepO, hb] at hr
        obtain ⟨g1, rfl, _⟩ := hr
        exact ⟨_, _, _, own k, h1, ⟨r.heap.die k, r.ok, r.glob⟩, r.heap.took (notBox e nofun) (.inl rfl), .inr ⟨g1, by simp, p, rfl⟩, rfl⟩
  | mp k =>
    obtain ⟨kv, e, h1⟩ := mapObjK_inv h
    rw [setK_eq] at h1
    have hr := r.heap.obj k _ e
    obtain ⟨b, hb, rfl⟩ := hx
    simp only [RepO, hb] at hr
    obtain ⟨ents, clock, g1, g2, g3⟩ := hr
    exact ⟨_, _, _, own k, h1, ⟨r.heap.die k, r.ok, r.glob⟩, r.heap.took (notBox e nofun) (.inl rfl), ⟨b, ents, clock, g1, g2, rfl, g3⟩, rfl⟩
  | own z es => exact hx.elim
  | omap kv => exact hx.elim
  | _ => exact plain h nofun nofun
theorem inCells_inv : ∀ {cs : List AV} {xs : List Value} {own : Nat → List Nat} {H : Heap} {K : List AV → Heap → Prop}, RelH G E own H w → okCells cs = true → RepVs E cs xs → inCellsK (propSig M) cs H K →
    ∃ own' H' ys B, K ys H' ∧ RelH G E own' H' w ∧ Took E w own H own' H' B ∧ RepCs E w ys xs B ∧ okCellsO ys = true
  | [], [], own, H, K, r, _, _, h => ⟨own, H, [], [], h, r, .refl E w own H, rfl, rfl⟩
  | x :: cs, c :: xs, own, H, K, r, ho, hx, h => by
    simp only [okCells, Bool.and_eq_true] at ho
    simp only [RepVs] at hx
    have h : inCellK (propSig M) x H fun y H => inCellsK (propSig M) cs H fun l H => K (y :: l) H := h
    obtain ⟨own1, H1, y, B1, h1, r1, t1, hy, hyo⟩ := inCell_inv r ho.1 hx.1 h
    obtain ⟨own2, H2, ys, B2, h2, r2, t2, hys, hyso⟩ := inCells_inv r1 ho.2 hx.2 h1
    exact ⟨own2, H2, _, B1 ++ B2, h2, r2, t1.trans t2, ⟨B1, B2, rfl, hy, hys⟩, by simp [okCellsO, hyo, hyso]⟩
  | [], _ :: _, _, _, _, _, _, hx, _ => by simp [RepVs] at hx
  | _ :: _, [], _, _, _, _, _, hx, _ => by simp [RepVs] at hx
/-- Boxes are drawn in. -/
theorem inBoxes_inv : ∀ (ks done : List Nat) {own : Nat → List Nat} {H : Heap} {K : Heap → Prop}, RelH G E own H w → LaidBut H done → (∀ k ∈ ks, k ∉ done ∧ E.loc k ≠ .absent) → ks.Nodup → inBoxesK (propSig M) ks H K →
    ∃ own' H', K H' ∧ RelH G E own' H' w ∧ LaidBut H' (done ++ ks) ∧ H'.length = H.length ∧ ∀ j b, b ∈ own' j → ∃ i, b ∈ own i
  | [], done, own, H, K, r, hl, _, _, h => ⟨own, H, h, r, by simpa using hl, rfl, fun j b hb => ⟨j, hb⟩⟩
  | k :: ks, done, own, H, K, r, hl, hk, hn, h => by
    obtain ⟨o, e, h1⟩ := objK_inv (P := P) (G := G) h
    have hk0 := hk k (by simp)
    rw [List.nodup_cons] at hn
    cases o with
    | box cs =>
      have h1 : inCellsK (propSig M) cs H fun cs H => setK H k (.box cs) fun H => inBoxesK (propSig M) ks H K := h1
      have hr := r.heap.obj k _ e
      have hoc := hl k cs e hk0.1
      cases hb : E.loc k with
      | absent => exact absurd hb hk0.2
      | void => simp only [RepO, hb] at hr; exact hr.2.elim
      | blk b =>
        simp only [RepO, hb] at hr
        obtain ⟨_, arr, T, B', g1, g2, g3⟩ := hr
        obtain ⟨rfl, g4⟩ := RepCs.ok hoc g3
        obtain ⟨own1, H1, ys, B, h2, r1, t1, hys, hyo⟩ := inCells_inv r hoc g4 h1
        rw [setK_eq] at h2
        have e1 : H1[k]? = some (AObj.box cs) := (t1.box k cs).2 e
        have hlt : k < H1.length := (List.getElem?_eq_some_iff.1 e1).1
        have ho1 := t1.keep k cs e
        have r2 := r1.heap.put hlt (o := .box ys) (B := b :: B) (by
          simp only [RepO, hb]
          exact ⟨hyo, arr, T, B, rfl, g2, hys⟩) (by
          rw [List.nodup_cons]
          refine ⟨fun hbB => (t1.free b hbB).2.2 k (by rw [ho1, g1]; simp), t1.nodup⟩) (fun c hc => by
          rcases List.mem_cons.1 hc with rfl | hc
          · have hf := r.heap.free k c (by rw [g1]; simp)
            refine ⟨hf.1, hf.2, fun j hj hcj => ?_⟩
            exact r.heap.apart j k c hj (t1.sub j c hcj) (by rw [g1]; simp)
          · have := t1.free c hc
            exact ⟨this.1, this.2.1, fun j _ => this.2.2 j⟩)
        obtain ⟨own', H', h3, r3, l3, hlen, hsub⟩ := inBoxes_inv ks (done ++ [k]) (K := K) ⟨r2, r.ok, r.glob⟩ (fun j ds ej hj => by
          simp only [List.mem_append, List.mem_singleton, not_or] at hj
          rw [List.getElem?_set_ne (fun e => hj.2 e.symm)] at ej
          exact hl j ds ((t1.box j ds).1 ej) hj.1) (fun j hj => by
          have := hk j (by simp [hj])
          refine ⟨?_, this.2⟩
          simp only [List.mem_append, List.mem_singleton, not_or]
          exact ⟨this.1, fun e => by subst e; exact hn.1 hj⟩) hn.2 h2
        refine ⟨own', H', h3, r3, ?_, by rw [hlen]; simp [t1.len], fun j c hc => ?_⟩
        · simpa using l3
        · obtain ⟨i, hi⟩ := hsub j c hc
          by_cases hik : i = k
          · simp only [hik, if_true, List.mem_cons] at hi
            rcases hi with rfl | hi
            · exact ⟨k, by rw [g1]; simp⟩
            · exact t1.src c hi
          · simp only [hik, if_false] at hi
            exact ⟨i, t1.sub i c hi⟩
    | _ =>
      have h1 : inBoxesK (propSig M) ks H K := h1
      obtain ⟨own', H', h3, r3, l3, hlen, hsub⟩ := inBoxes_inv ks (done ++ [k]) (K := K) r (fun j ds ej hj => hl j ds ej fun h => hj (by simp [h])) (fun j hj => by
        have := hk j (by simp [hj])
        refine ⟨?_, this.2⟩
        simp only [List.mem_append, List.mem_singleton, not_or]
        exact ⟨this.1, fun e => by subst e; exact hn.1 hj⟩) hn.2 h1
      exact ⟨own', H', h3, r3, by simpa using l3, hlen, hsub⟩
end
end Am
end Go.Proofs.YtbdnfkmcfencdaaGreatDoor
/- The abstract machine is sound: boxes' arrays are laid out. No condition. -/
namespace Go.Proofs.YtbdnfkmcfencdaaGreatDoor
namespace Am
open Go

def outCell : AV → Nat → AV × List AObj
  | .own z es, n => (.ar n, [.arr z es])
  | .omap kv, n => (.mp n, [.map kv])
  | x, _ => (x, [])
def outCells : List AV → Nat → List AV × List AObj
  | [], _ => ([], [])
  | x :: cs, n => ((outCell x n).1 :: (outCells cs (n + (outCell x n).2.length)).1, (outCell x n).2 ++ (outCells cs (n + (outCell x n).2.length)).2)
def outObj : AObj → Nat → AObj × List AObj
  | .box cs, n => (.box (outCells cs n).1, (outCells cs n).2)
  | o, _ => (o, [])
def outBoxes : Heap → Nat → Heap × List AObj
  | [], _ => ([], [])
  | o :: H, n => ((outObj o n).1 :: (outBoxes H (n + (outObj o n).2.length)).1, (outObj o n).2 ++ (outBoxes H (n + (outObj o n).2.length)).2)
section
variable {β : Type}
theorem outCellK_eq (x : AV) (n : Nat) (os : List AObj) (K : AV → Nat → List AObj → β) : outCellK x n os K = K (outCell x n).1 (n + (outCell x n).2.length) (os ++ (outCell x n).2) := by
  cases x <;> simp [outCellK, outCell]
theorem outCellsK_eq : ∀ (cs : List AV) (n : Nat) (os : List AObj) (K : List AV → Nat → List AObj → β), outCellsK cs n os K = K (outCells cs n).1 (n + (outCells cs n).2.length) (os ++ (outCells cs n).2)
  | [], n, os, K => by simp only [outCells, List.length_nil, Nat.add_zero, List.append_nil]; rfl
  | x :: cs, n, os, K => by
    show outCellK x n os (fun y n os => outCellsK cs n os fun l n os => K (y :: l) n os) = _
    rw [outCellK_eq, outCellsK_eq cs]
    simp [outCells, Nat.add_assoc]
theorem outObjK_eq (o : AObj) (n : Nat) (os : List AObj) (K : AObj → Nat → List AObj → β) : outObjK o n os K = K (outObj o n).1 (n + (outObj o n).2.length) (os ++ (outObj o n).2) := by
  cases o <;> simp [outObjK, outObj, outCellsK_eq]
theorem outBoxesK_eq : ∀ (H : Heap) (n : Nat) (os : List AObj) (K : Heap → Nat → List AObj → β), outBoxesK H n os K = K (outBoxes H n).1 (n + (outBoxes H n).2.length) (os ++ (outBoxes H n).2)
  | [], n, os, K => by simp only [outBoxes, List.length_nil, Nat.add_zero, List.append_nil]; rfl
  | o :: H, n, os, K => by
    show outObjK o n os (fun p n os => outBoxesK H n os fun l n os => K (p :: l) n os) = _
    rw [outObjK_eq, outBoxesK_eq H]
    simp [outBoxes, Nat.add_assoc]
/-- A heap laid out. -/
def layOut (H : Heap) : Heap := (outBoxes H H.length).1 ++ (outBoxes H H.length).2
theorem layOutK_eq (H : Heap) (K : Heap → β) : layOutK H K = K (layOut H) := by
  unfold layOutK
  rw [outBoxesK_eq, appK_eq]
  simp [layOut]
end
theorem outBoxes_length : ∀ (H : Heap) (n : Nat), (outBoxes H n).1.length = H.length
  | [], _ => rfl
  | o :: H, n => by simp [outBoxes, outBoxes_length H]

section
variable {G : Nat → Option (List Value)} {w : World}
theorem RepCs.split {E : Env} : ∀ {l m : List AV} {xs : List Value} {B : List Nat}, RepCs E w (l ++ m) xs B → ∃ xs1 xs2 B1 B2, xs = xs1 ++ xs2 ∧ B = B1 ++ B2 ∧ RepCs E w l xs1 B1 ∧ RepCs E w m xs2 B2
  | [], m, xs, B, h => ⟨[], xs, [], B, rfl, rfl, rfl, h⟩
  | x :: l, m, y :: xs, B, h => by
    obtain ⟨B1, B2, rfl, h1, h2⟩ := h
    obtain ⟨xs1, xs2, B3, B4, rfl, rfl, h3, h4⟩ := RepCs.split h2
    exact ⟨y :: xs1, xs2, B1 ++ B3, B4, rfl, by simp, ⟨B1, B3, rfl, h1, h3⟩, h4⟩
  | _ :: _, _, [], _, h => h.elim
theorem RepCs.join {E : Env} : ∀ {l m : List AV} {xs1 xs2 : List Value} {B1 B2 : List Nat}, RepCs E w l xs1 B1 → RepCs E w m xs2 B2 → RepCs E w (l ++ m) (xs1 ++ xs2) (B1 ++ B2)
  | [], m, [], xs2, B1, B2, h, k => by
    have h : B1 = [] := h
    subst h
    exact k
  | x :: l, m, y :: xs1, xs2, B1, B2, h, k => by
    obtain ⟨B3, B4, rfl, h1, h2⟩ := h
    exact ⟨B3, B4 ++ B2, by simp, h1, RepCs.join h2 k⟩
  | [], _, _ :: _, _, _, _, h, _ => h.elim
  | _ :: _, _, [], _, _, _, h, _ => h.elim
theorem okCellsO_append : ∀ {l m : List AV}, okCellsO (l ++ m) = (okCellsO l && okCellsO m)
  | [], _ => by simp [okCellsO]
  | x :: l, m => by simp [okCellsO, okCellsO_append, Bool.and_assoc]
/-- What is nowhere, stays so. -/
def Abs (n : Nat) (E E' : Env) : Prop := ∀ k, k < n → E.loc k = .absent → E'.loc k = .absent
theorem Abs.refl (n : Nat) (E : Env) : Abs n E E := fun _ _ h => h
theorem Abs.trans {n m : Nat} {A B C : Env} (h : Abs n A B) (k : Abs m B C) (hm : n ≤ m) : Abs n A C := fun i hi e => k i (by omega) (h i hi e)
/-- One cell is laid out. -/
theorem outCell_rel {E : Env} {own : Nat → List Nat} {H : Heap} (r : RelH G E own H w) {k : Nat} {l m : List AV} {x : AV} (e : H[k]? = some (.box (l ++ x :: m))) :
    ∃ E' own', RelH G E' own' (H.set k (.box (l ++ (outCell x H.length).1 :: m)) ++ (outCell x H.length).2) w ∧ Goes E w E' w ∧ okCell (outCell x H.length).1 = true ∧ Abs H.length E E' := by
  have hlt : k < H.length := (List.getElem?_eq_some_iff.1 e).1
  have hr := r.heap.obj k _ e
  have hok : okCellO x = true := by
    have := hr.1
    rw [okCellsO_append] at this
    simp only [okCellsO, Bool.and_eq_true] at this
    exact this.2.1
  have hlm : ∀ y, okCellO y = true → okCellsO (l ++ y :: m) = true := by
    intro y hy
    have := hr.1
    rw [okCellsO_append] at this ⊢
    simp only [okCellsO, Bool.and_eq_true] at this ⊢
    exact ⟨this.1, hy, this.2.2⟩
  have plain : (outCell x H.length) = (x, []) → okCell x = true → ∃ E' own', RelH G E' own' (H.set k (.box (l ++ (outCell x H.length).1 :: m)) ++ (outCell x H.length).2) w ∧ Goes E w E' w ∧ okCell (outCell x H.length).1 = true ∧ Abs H.length E E' := by
    intro h1 h2
    rw [h1]
    have : H.set k (.box (l ++ x :: m)) = H := by
      apply List.ext_getElem?
      intro i
      rw [List.getElem?_set]
      split
      · rename_i hi; subst hi; exact e.symm
      · rfl
    simp only [this, List.append_nil]
    exact ⟨E, own, r, .refl E w, h2, .refl _ E⟩
  -- an object of its own
  have main : ∀ (y : AV) (o : AObj), outCell x H.length = (y, [o]) → okCell y = true → (∀ cs, o ≠ .box cs) →
      (∀ (E1 : Env) B, E1.loc H.length = .absent → B = [] → RepO E1 w H.length o B) →
      (∀ c B, RepC E w x c B → ∃ p n tot z, (∀ E1 : Env, E.PLe E1 → E1.loc H.length = p → E1.n H.length = n → E1.tot H.length = tot → E1.z H.length = z → RepO E1 w H.length o B ∧ RepV E1 y c)) →
      ∃ E' own', RelH G E' own' (H.set k (.box (l ++ (outCell x H.length).1 :: m)) ++ (outCell x H.length).2) w ∧ Goes E w E' w ∧ okCell (outCell x H.length).1 = true ∧ Abs H.length E E' := by
    intro y o h1 h2 hnb habs hrep
    rw [h1]
    have h0 := (r.heap.beyond H.length (Nat.le_refl _)).1
    have hyO := okCell_O h2
    have fin : ∀ (p : Place) (n tot z : Nat) (B0 B : List Nat), RepO (E.add H.length p n tot z) w k (.box (l ++ y :: m)) B0 → RepO (E.add H.length p n tot z) w H.length o B →
        (∀ b ∈ B0, b ∈ own k) → (∀ b ∈ B, b ∈ own k) → B0.Nodup → B.Nodup → (∀ b ∈ B, b ∉ B0) →
        ∃ E' own', RelH G E' own' (H.set k (.box (l ++ y :: m)) ++ [o]) w ∧ Goes E w E' w ∧ okCell y = true ∧ Abs H.length E E' := by
      intro p n tot z B0 B hb0 hb hs0 hs hn0 hn hd
      have hle : E.Le (E.add H.length p n tot z) := Env.add_le h0
      -- first the new object, with no blocks, then both
      have hkn : k ≠ H.length := by omega
      refine ⟨E.add H.length p n tot z, fun j => if j = H.length then B else if j = k then B0 else own j, ⟨⟨fun j q ej => ?_, fun j hj => ?_, fun j => ?_, fun i j b hij hbi => ?_, fun j b hbj => ?_⟩, ⟨r.ok.mem, r.ok.im, r.ok.norec⟩, r.glob.mono hle⟩, ⟨hle, fun b hb => .inl hb, .refl w⟩, h2, fun j hj h => by simp only [Env.add]; rw [if_neg (by omega)]; exact h⟩
      · by_cases hjn : j = H.length
        · subst hjn
          rw [List.getElem?_append_right (by simp)] at ej
          simp at ej
          subst ej
          simpa using hb
        · have hjl : j < H.length := by
            rcases Nat.lt_or_ge j H.length with h | h
            · exact h
            · rw [List.getElem?_eq_none (by simp; omega)] at ej; cases ej
          rw [List.getElem?_append_left (by simpa using hjl)] at ej
          simp only [hjn, if_false]
          by_cases hjk : j = k
          · subst hjk
            rw [List.getElem?_set_self hjl] at ej
            cases ej
            simpa using hb0
          · rw [List.getElem?_set_ne (fun e => hjk e.symm)] at ej
            simp only [hjk, if_false]
            exact (r.heap.obj j q ej).frame' hle (fun hl => by simp [Env.add, hjn, hl]) fun _ _ => rfl
      · have hj' : H.length < j := by simp at hj; omega
        have hjn : j ≠ H.length := by omega
        have hjk : j ≠ k := by omega
        have := r.heap.beyond j (by omega)
        simp [Env.add, hjn, hjk, this]
      · by_cases hjn : j = H.length
        · simpa [hjn] using hn
        · by_cases hjk : j = k
          · simpa [hjn, hjk, hkn] using hn0
          · simpa [hjn, hjk] using r.heap.nodup j
      · -- apart
        have own_k : ∀ j b, b ∈ (if j = H.length then B else if j = k then B0 else own j) → (j = H.length ∧ b ∈ B) ∨ (j ≠ H.length ∧ j = k ∧ b ∈ B0) ∨ (j ≠ H.length ∧ j ≠ k ∧ b ∈ own j) := by
          intro j b hb
          by_cases hjn : j = H.length
          · simp only [hjn, if_true] at hb; exact .inl ⟨hjn, hb⟩
          · simp only [hjn, if_false] at hb
            by_cases hjk : j = k
            · simp only [hjk, if_true] at hb; exact .inr (.inl ⟨hjn, hjk, hb⟩)
            · simp only [hjk, if_false] at hb; exact .inr (.inr ⟨hjn, hjk, hb⟩)
        intro hbj
        rcases own_k i b hbi with ⟨hi, h3⟩ | ⟨hi1, hi, h3⟩ | ⟨hi1, hi2, h3⟩ <;> rcases own_k j b hbj with ⟨hj, h4⟩ | ⟨hj1, hj, h4⟩ | ⟨hj1, hj2, h4⟩
        · exact hij (hi.trans hj.symm)
        · exact hd b h3 h4
        · exact r.heap.apart k j b (Ne.symm hj2) (hs b h3) h4
        · exact hd b h4 h3
        · exact hij (hi.trans hj.symm)
        · exact r.heap.apart k j b (Ne.symm hj2) (hs0 b h3) h4
        · exact r.heap.apart i k b hi2 h3 (hs b h4)
        · exact r.heap.apart i k b hi2 h3 (hs0 b h4)
        · exact r.heap.apart i j b hij h3 h4
      · have : b ∈ own j ∨ b ∈ own k := by
          by_cases hjn : j = H.length
          · simp only [hjn, if_true] at hbj; exact .inr (hs b hbj)
          · simp only [hjn, if_false] at hbj
            by_cases hjk : j = k
            · simp only [hjk, if_true] at hbj; exact .inr (hs0 b hbj)
            · simp only [hjk, if_false] at hbj; exact .inl hbj
        rcases this with h | h
        · exact r.heap.free j b h
        · exact r.heap.free k b h
    have hkn : k ≠ H.length := by omega
    cases hl : E.loc k with
    | absent =>
      simp only [RepO, hl] at hr
      refine fin .absent 0 0 0 [] [] ?_ ?_ (by simp) (by simp) (by simp) (by simp) (by simp)
      · have : (E.add H.length .absent 0 0 0).loc k = .absent := by simp [Env.add, hkn, hl]
        simp only [RepO, this]
        exact ⟨hlm y hyO, trivial⟩
      · exact habs _ [] (by simp [Env.add]) rfl
    | void => simp only [RepO, hl] at hr; exact hr.2.elim
    | blk b =>
      simp only [RepO, hl] at hr
      obtain ⟨_, arr, T, B', g1, g2, g3⟩ := hr
      obtain ⟨xs1, xs2, B1, B2, hxs, rfl, g4, g5⟩ := g3.split
      cases xs2 with
      | nil => exact g5.elim
      | cons c xs2 =>
        obtain ⟨B3, B4, rfl, g6, g7⟩ := g5
        obtain ⟨p, n, tot, z, hpp⟩ := hrep c B3 g6
        have hle : E.Le (E.add H.length p n tot z) := Env.add_le h0
        obtain ⟨q1, q2⟩ := hpp (E.add H.length p n tot z) hle.pure (by simp [Env.add]) (by simp [Env.add]) (by simp [Env.add]) (by simp [Env.add])
        have hnd := r.heap.nodup k
        rw [g1, List.nodup_cons, List.nodup_append, List.nodup_append] at hnd
        obtain ⟨hb1, hB1, ⟨hB3, hB4, h34⟩, h134⟩ := hnd
        refine fin p n tot z (b :: (B1 ++ B4)) B3 ?_ q1 ?_ ?_ ?_ hB3 ?_
        · have : (E.add H.length p n tot z).loc k = .blk b := by simp [Env.add, hkn, hl]
          simp only [RepO, this]
          refine ⟨hlm y hyO, arr, T, B1 ++ B4, rfl, g2, ?_⟩
          rw [hxs]
          refine RepCs.join (g4.frame hle fun _ _ => rfl) ⟨[], B4, by simp, ?_, g7.frame hle fun _ _ => rfl⟩
          revert q2 h2
          cases y <;> intro h2 q2 <;> first | exact ⟨rfl, q2⟩ | (simp [okCell] at h2)
        · intro b' hb'
          rw [g1]
          simp only [List.mem_cons, List.mem_append] at hb' ⊢
          rcases hb' with rfl | hb' | hb'
          · exact .inl rfl
          · exact .inr (.inl hb')
          · exact .inr (.inr (.inr hb'))
        · intro b' hb'
          rw [g1]
          simp only [List.mem_cons, List.mem_append]
          exact .inr (.inr (.inl hb'))
        · rw [List.nodup_cons, List.nodup_append]
          refine ⟨fun h => hb1 ?_, hB1, hB4, fun u hu v hv e => h134 u hu v (List.mem_append.2 (.inr hv)) e⟩
          rcases List.mem_append.1 h with h | h
          · exact List.mem_append.2 (.inl h)
          · exact List.mem_append.2 (.inr (List.mem_append.2 (.inr h)))
        · intro b' hb' hbb
          rcases List.mem_cons.1 hbb with rfl | hbb
          · exact hb1 (List.mem_append.2 (.inr (List.mem_append.2 (.inl hb'))))
          · rcases List.mem_append.1 hbb with h | h
            · exact h134 b' h b' (List.mem_append.2 (.inl hb')) rfl
            · exact h34 b' hb' b' h rfl
  cases x with
  | own z es =>
    refine main (.ar H.length) (.arr z es) rfl rfl nofun (fun E1 B h1 h2 => by simp only [RepO, h1]; exact h2) fun c B hc => ?_
    rcases hc with ⟨b, arr, T, tot, rfl, g2, g3, g4, rfl, g6⟩ | ⟨rfl, rfl, p, rfl⟩
    · refine ⟨.blk b, es.length, tot, z, fun E1 hp h1 h2 h3 h4 => ⟨?_, .inl ⟨b, h1, by rw [h2, h3]⟩⟩⟩
      simp only [RepO, h1, h2, h3, h4]
      exact ⟨arr, T, trivial, g2, g3, trivial, g4, trivial, g6.pmono hp⟩
    · refine ⟨.void, 0, 0, z, fun E1 hp h1 h2 h3 h4 => ⟨?_, .inr ⟨h1, p, rfl⟩⟩⟩
      simp only [RepO, h1, h2]
      exact ⟨trivial, trivial, trivial⟩
  | omap kv =>
    refine main (.mp H.length) (.map kv) rfl rfl nofun (fun E1 B h1 h2 => by simp only [RepO, h1]; exact h2) fun c B hc => ?_
    obtain ⟨b, ents, clock, rfl, g2, rfl, g4⟩ := hc
    refine ⟨.blk b, 0, 0, 0, fun E1 hp h1 h2 h3 h4 => ⟨?_, ⟨b, h1, rfl⟩⟩⟩
    simp only [RepO, h1]
    exact ⟨ents, clock, trivial, g2, g4.pmono hp⟩
  | agg cs => simp [okCellO] at hok
  | tup cs => simp [okCellO] at hok
  | undef => simp [okCellO] at hok
  | _ => exact plain rfl rfl
end
end Am
end Go.Proofs.YtbdnfkmcfencdaaGreatDoor
/- The abstract machine is sound: boxes' arrays are laid out (all boxes). No condition. -/
namespace Go.Proofs.YtbdnfkmcfencdaaGreatDoor
namespace Am
open Go

theorem outCell_nobox (x : AV) (n : Nat) : ∀ o ∈ (outCell x n).2, ∀ cs, o ≠ AObj.box cs := by
  cases x <;> simp [outCell]
theorem outCells_nobox : ∀ (cs : List AV) (n : Nat), ∀ o ∈ (outCells cs n).2, ∀ ds, o ≠ AObj.box ds
  | [], _, _, h, _ => by simp [outCells] at h
  | x :: cs, n, o, h, ds => by
    simp only [outCells, List.mem_append] at h
    rcases h with h | h
    · exact outCell_nobox x n o h ds
    · exact outCells_nobox cs _ o h ds
def LaidL (l : List AObj) : Prop := ∀ o ∈ l, ∀ cs, o = AObj.box cs → okCells cs = true
theorem LaidL.laid {H : Heap} (h : LaidL H) : Laid H := fun _ cs e => h _ (List.mem_of_getElem? e) cs rfl
theorem LaidL.append {a b : List AObj} (h : LaidL a) (k : LaidL b) : LaidL (a ++ b) := fun o ho cs e => (List.mem_append.1 ho).elim (fun h' => h o h' cs e) (fun h' => k o h' cs e)
section
variable {G : Nat → Option (List Value)} {w : World}
theorem outCells_rel : ∀ (cs l : List AV) {E : Env} {own : Nat → List Nat} {H : Heap} {k : Nat}, RelH G E own H w → H[k]? = some (.box (l ++ cs)) →
    ∃ E' own', RelH G E' own' (H.set k (.box (l ++ (outCells cs H.length).1)) ++ (outCells cs H.length).2) w ∧ Goes E w E' w ∧ okCells (outCells cs H.length).1 = true ∧ Abs H.length E E'
  | [], l, E, own, H, k, r, e => by
    have hlt : k < H.length := (List.getElem?_eq_some_iff.1 e).1
    have : H.set k (.box (l ++ [])) = H := by
      apply List.ext_getElem?
      intro i
      rw [List.getElem?_set]
      split
      · rename_i hi; subst hi; exact e.symm
      · rfl
    simp only [outCells, List.append_nil]
    simp only [List.append_nil] at this
    rw [this]
    exact ⟨E, own, r, .refl E w, rfl, .refl _ E⟩
  | x :: cs, l, E, own, H, k, r, e => by
    have hlt : k < H.length := (List.getElem?_eq_some_iff.1 e).1
    obtain ⟨E1, own1, r1, g1, o1, a1⟩ := outCell_rel r e
    have hlen : (H.set k (.box (l ++ (outCell x H.length).1 :: cs)) ++ (outCell x H.length).2).length = H.length + (outCell x H.length).2.length := by simp
    have e1 : (H.set k (.box (l ++ (outCell x H.length).1 :: cs)) ++ (outCell x H.length).2)[k]? = some (.box ((l ++ [(outCell x H.length).1]) ++ cs)) := by
      rw [List.getElem?_append_left (by simpa using hlt), List.getElem?_set_self hlt]
      simp
    obtain ⟨E2, own2, r2, g2, o2, a2⟩ := outCells_rel cs (l ++ [(outCell x H.length).1]) r1 e1
    rw [hlen] at r2 o2 a2
    refine ⟨E2, own2, ?_, g1.trans g2, by simp [outCells, okCells, o1, o2], a1.trans a2 (by omega)⟩
    rw [List.set_append_left _ _ (by simpa using hlt), List.set_set] at r2
    simp only [outCells]
    simpa using r2
theorem outBoxes_rel : ∀ (todo pre os : List AObj) {E : Env} {own : Nat → List Nat}, RelH G E own (pre ++ todo ++ os) w → LaidL pre → LaidL os →
    ∃ E' own', RelH G E' own' (pre ++ (outBoxes todo (pre ++ todo ++ os).length).1 ++ (os ++ (outBoxes todo (pre ++ todo ++ os).length).2)) w ∧ Goes E w E' w ∧
      LaidL (pre ++ (outBoxes todo (pre ++ todo ++ os).length).1 ++ (os ++ (outBoxes todo (pre ++ todo ++ os).length).2)) ∧ Abs (pre ++ todo ++ os).length E E'
  | [], pre, os, E, own, r, h1, h2 => by
    simp only [outBoxes, List.append_nil]
    simp only [List.append_nil] at r
    exact ⟨E, own, r, .refl E w, h1.append h2, .refl _ E⟩
  | o :: t, pre, os, E, own, r, h1, h2 => by
    have step : ∃ E1 own1, RelH G E1 own1 (pre ++ [(outObj o (pre ++ o :: t ++ os).length).1] ++ t ++ (os ++ (outObj o (pre ++ o :: t ++ os).length).2)) w ∧ Goes E w E1 w ∧
        LaidL [(outObj o (pre ++ o :: t ++ os).length).1] ∧ LaidL (outObj o (pre ++ o :: t ++ os).length).2 ∧ Abs (pre ++ o :: t ++ os).length E E1 := by
      cases o with
      | box cs =>
        have e : (pre ++ AObj.box cs :: t ++ os)[pre.length]? = some (.box ([] ++ cs)) := by simp
        obtain ⟨E1, own1, r1, g1, o1, a1⟩ := outCells_rel cs [] r e
        refine ⟨E1, own1, ?_, g1, fun o ho ds hds => ?_, fun o ho ds hds => absurd hds (outCells_nobox cs _ o ho ds), a1⟩
        · simp only [List.nil_append] at r1
          have : (pre ++ AObj.box cs :: t ++ os).set pre.length (.box (outCells cs (pre ++ AObj.box cs :: t ++ os).length).1) = pre ++ [.box (outCells cs (pre ++ AObj.box cs :: t ++ os).length).1] ++ t ++ os := by
            simp
          rw [this] at r1
          simpa [outObj] using r1
        · simp only [outObj, List.mem_singleton] at ho
          subst ho
          cases hds
          exact o1
      | _ =>
        refine ⟨E, own, by simpa [outObj] using r, .refl E w, ?_, ?_, .refl _ E⟩
        · intro o ho ds hds; simp only [outObj, List.mem_singleton] at ho; subst ho; cases hds
        · intro o ho; simp [outObj] at ho
    obtain ⟨E1, own1, r1, g1, l1, l2, a1⟩ := step
    obtain ⟨E2, own2, r2, g2, l3, a2⟩ := outBoxes_rel t (pre ++ [(outObj o (pre ++ o :: t ++ os).length).1]) (os ++ (outObj o (pre ++ o :: t ++ os).length).2) r1 (h1.append l1) (h2.append l2)
    have hn : (pre ++ [(outObj o (pre ++ o :: t ++ os).length).1] ++ t ++ (os ++ (outObj o (pre ++ o :: t ++ os).length).2)).length = (pre ++ o :: t ++ os).length + (outObj o (pre ++ o :: t ++ os).length).2.length := by
      simp; omega
    rw [hn] at r2 l3 a2
    refine ⟨E2, own2, ?_, g1.trans g2, ?_, a1.trans a2 (by omega)⟩
    · simpa [outBoxes] using r2
    · simpa [outBoxes] using l3
theorem layOut_rel {E : Env} {own : Nat → List Nat} {H : Heap} (r : RelH G E own H w) : ∃ E' own', RelH G E' own' (layOut H) w ∧ Goes E w E' w ∧ Laid (layOut H) ∧ Abs H.length E E' := by
  obtain ⟨E', own', r', g, l, ab⟩ := outBoxes_rel H [] [] (E := E) (own := own) (by simpa using r) (by simp [LaidL]) (by simp [LaidL])
  refine ⟨E', own', ?_, g, ?_, by simpa using ab⟩
  · simpa [layOut] using r'
  · have : LaidL (layOut H) := by simpa [layOut] using l
    exact this.laid
end
end Am
end Go.Proofs.YtbdnfkmcfencdaaGreatDoor
/- The abstract machine is sound: what is reached is there. No condition. -/
namespace Go.Proofs.YtbdnfkmcfencdaaGreatDoor
namespace Am
open Go

mutual
theorem RepV.ids {E : Env} : ∀ {x : AV} {c : Value}, RepV E x c → ∀ k ∈ idsAV x, E.loc k ≠ .absent
  | .ar j, c, r, k, hk => by
    simp [idsAV] at hk; subst hk
    rcases r with ⟨b, hb, _⟩ | ⟨hb, _⟩ <;> simp [hb]
  | .sl j lo len, c, r, k, hk => by
    simp [idsAV] at hk; subst hk
    rcases r with ⟨b, _, hb, _⟩ | ⟨hb, _⟩ <;> simp [hb]
  | .ref j off, c, r, k, hk => by
    simp [idsAV] at hk; subst hk
    obtain ⟨b, hb, _⟩ := r; simp [hb]
  | .aptr j e off, c, r, k, hk => by
    simp [idsAV] at hk; subst hk
    obtain ⟨b, hb, _⟩ := r; simp [hb]
  | .mp j, c, r, k, hk => by
    simp [idsAV] at hk; subst hk
    obtain ⟨b, hb, _⟩ := r; simp [hb]
  | .it j, c, r, k, hk => by
    simp [idsAV] at hk; subst hk
    obtain ⟨b, hb, _⟩ := r; simp [hb]
  | .agg cs, _, r, k, hk => by obtain ⟨xs, e, q⟩ := r; exact RepVs.ids q k hk
  | .tup cs, _, r, k, hk => by obtain ⟨xs, e, q⟩ := r; exact RepVs.ids q k hk
  | .iface t x, _, r, k, hk => by obtain ⟨y, e, q⟩ := r; exact RepV.ids q k hk
  | .fn f cs, _, r, k, hk => by obtain ⟨xs, e, q⟩ := r; exact RepVs.ids q k hk
  | .v x, c, r, k, hk => by simp [idsAV] at hk
  | .imm z es, c, r, k, hk => by simp [idsAV] at hk
  | .mt, c, r, k, hk => by simp [idsAV] at hk
  | .eptr cs off, c, r, k, hk => by simp [idsAV] at hk
  | .glob g off, c, r, k, hk => by simp [idsAV] at hk
  | .undef, c, _, k, hk => by simp [idsAV] at hk
  | .own _ _, c, r, k, hk => r.elim
  | .omap _, c, r, k, hk => r.elim
theorem RepVs.ids {E : Env} : ∀ {l : List AV} {m : List Value}, RepVs E l m → ∀ k ∈ idsAVs l, E.loc k ≠ .absent
  | [], [], _, k, hk => by simp [idsAVs] at hk
  | x :: l, y :: m, r, k, hk => by
    simp only [RepVs] at r
    simp only [idsAVs, List.mem_append] at hk
    exact hk.elim (RepV.ids r.1 k) (RepVs.ids r.2 k)
  | [], _ :: _, r, _, _ => by simp [RepVs] at r
  | _ :: _, [], r, _, _ => by simp [RepVs] at r
end
theorem RepC.ids {E : Env} {w : World} {x : AV} {c : Value} {B : List Nat} (h : RepC E w x c B) : ∀ k ∈ idsAV x, E.loc k ≠ .absent := by
  cases x with
  | own z es => intro k hk; simp [idsAV] at hk
  | omap kv => intro k hk; simp [idsAV] at hk
  | _ => exact h.2.ids
theorem RepCs.ids {E : Env} {w : World} : ∀ {l : List AV} {m : List Value} {B : List Nat}, RepCs E w l m B → ∀ k ∈ idsAVs l, E.loc k ≠ .absent
  | [], [], _, _, k, hk => by simp [idsAVs] at hk
  | x :: l, y :: m, B, r, k, hk => by
    obtain ⟨B1, B2, rfl, h1, h2⟩ := r
    simp only [idsAVs, List.mem_append] at hk
    exact hk.elim (h1.ids k) (RepCs.ids h2 k)
  | [], _ :: _, _, r, _, _ => r.elim
  | _ :: _, [], _, r, _, _ => r.elim
theorem idsAt_there {E : Env} {w : World} {H : Heap} {own : Nat → List Nat} (r : RepH E w H own) {k : Nat} (hk : E.loc k ≠ .absent) : ∀ j ∈ idsAt H k, E.loc j ≠ .absent := by
  intro j hj
  unfold idsAt at hj
  split at hj
  · rename_i o e
    cases o with
    | box cs =>
      have h := r.obj k _ e
      cases hb : E.loc k with
      | absent => exact absurd hb hk
      | void => simp only [RepO, hb] at h; exact h.2.elim
      | blk b =>
        simp only [RepO, hb] at h
        obtain ⟨_, arr, T, B', _, _, h3⟩ := h
        exact h3.ids j hj
    | _ => simp [idsObj] at hj
  · cases hj
theorem reach_there {E : Env} {w : World} {H : Heap} {own : Nat → List Nat} (r : RepH E w H own) : ∀ (n : Nat) (todo seen : List Nat), (∀ k ∈ todo, E.loc k ≠ .absent) → (∀ k ∈ seen, E.loc k ≠ .absent) → ∀ k ∈ reach H n todo seen, E.loc k ≠ .absent
  | 0, _, seen, _, h2, k, hk => h2 k (by simpa [reach] using hk)
  | n + 1, [], seen, _, h2, k, hk => h2 k (by simpa [reach] using hk)
  | n + 1, a :: todo, seen, h1, h2, k, hk => by
    simp only [reach] at hk
    cases e : memb a seen with
    | true => rw [e] at hk; exact reach_there r n todo seen (fun j hj => h1 j (by simp [hj])) h2 k hk
    | false =>
      rw [e] at hk
      refine reach_there r n _ _ (fun j hj => ?_) (fun j hj => ?_) k hk
      · rcases List.mem_append.1 hj with hj | hj
        · exact idsAt_there r (h1 a (by simp)) j hj
        · exact h1 j (by simp [hj])
      · rcases List.mem_append.1 hj with hj | hj
        · exact h2 j hj
        · simp at hj; subst hj; exact h1 j (by simp)
theorem idsAll_there {E : Env} {w : World} {H : Heap} {own : Nat → List Nat} (r : RepH E w H own) : ∀ {l : List Nat}, (∀ k ∈ l, E.loc k ≠ .absent) → ∀ k ∈ idsAll H l, E.loc k ≠ .absent
  | [], _, k, hk => by simp [idsAll] at hk
  | j :: l, h, k, hk => by
    rw [idsAll, List.mem_append] at hk
    rcases hk with hk | hk
    · exact idsAt_there r (h j (by simp)) k hk
    · exact idsAll_there r (fun i hi => h i (by simp [hi])) k hk
theorem reachB_there {E : Env} {w : World} {H : Heap} {own : Nat → List Nat} (r : RepH E w H own) (n : Nat) {base : List Nat} {xs : List AV} {cs : List Value} (hb : ∀ k ∈ base, E.loc k ≠ .absent) (hx : RepVs E xs cs) :
    ∀ k ∈ reachB H n base xs, E.loc k ≠ .absent :=
  reach_there r n _ _ (fun k hk => (List.mem_append.1 hk).elim (idsAll_there r hb k) (hx.ids k)) hb
theorem reach_prefix (H : Heap) : ∀ (n : Nat) (todo seen : List Nat), ∃ l, reach H n todo seen = seen ++ l
  | 0, _, seen => ⟨[], by simp [reach]⟩
  | n + 1, [], seen => ⟨[], by simp [reach]⟩
  | n + 1, k :: todo, seen => by
    simp only [reach]
    cases memb k seen with
    | true => exact reach_prefix H n todo seen
    | false =>
      obtain ⟨l, hl⟩ := reach_prefix H n (idsAt H k ++ todo) (seen ++ [k])
      exact ⟨k :: l, by simpa using hl⟩
theorem reachB_prefix (H : Heap) (n : Nat) (base : List Nat) (xs : List AV) : ∃ l, reachB H n base xs = base ++ l := reach_prefix H n _ _
end Am
end Go.Proofs.YtbdnfkmcfencdaaGreatDoor
/- The abstract machine is sound: a piece of a heap. No condition. -/
namespace Go.Proofs.YtbdnfkmcfencdaaGreatDoor
namespace Am
open Go

section
variable {P : Program} {G : Nat → Option (List Value)} {M : Md P G} {E : Env} {own : Nat → List Nat} {H : Heap} {w : World}
theorem renObjK_inv {r : List (Nat × Nat)} {o : AObj} {K : AObj → Prop} (h : renObjK (propSig M) r o K) : K (renObj r o) ∧ ∀ cs, o = .box cs → okCellsO (renAVs r cs) = true := by
  cases o with
  | box cs =>
    have h : forces (renAVs r cs) (fun cs => cond (okCellsO cs) (K (.box cs)) False) := h
    rw [forces_eq] at h
    obtain ⟨h1, h2⟩ := condF h
    exact ⟨h2, fun ds e => by cases e; exact h1⟩
  | _ => exact ⟨h, nofun⟩
theorem gatherK_inv {r : List (Nat × Nat)} : ∀ {ks : List Nat} {K : Heap → Prop}, gatherK (propSig M) H r ks K →
    ∃ Pc : Heap, K Pc ∧ Pc.length = ks.length ∧ ∀ (j k : Nat), ks[j]? = some k → ∃ o, H[k]? = some o ∧ Pc[j]? = some (renObj r o) ∧ ∀ cs, o = .box cs → okCellsO (renAVs r cs) = true
  | [], K, h => ⟨[], h, rfl, fun j k e => by simp at e⟩
  | a :: ks, K, h => by
    have h : objK (propSig M) H a fun o => renObjK (propSig M) r o fun o => gatherK (propSig M) H r ks fun Pc => K (o :: Pc) := h
    obtain ⟨o, e, h1⟩ := objK_inv h
    obtain ⟨h2, h3⟩ := renObjK_inv h1
    obtain ⟨Pc, h4, h5, h6⟩ := gatherK_inv h2
    refine ⟨_, h4, by simp [h5], fun j k hj => ?_⟩
    cases j with
    | zero => simp at hj; subst hj; exact ⟨o, e, rfl, h3⟩
    | succ j => simpa using h6 j k (by simpa using hj)
open Classical in
/-- The memory of a piece: what is left out is not written. -/
noncomputable def pieceEnv (E : Env) (own : Nat → List Nat) (w : World) (ks : List Nat) : Env where
  Γ b := if ∃ k, k ∉ ks ∧ b ∈ own k then w.heap[b]? else E.Γ b
  im := E.im
  loc j := match ks[j]? with | some k => E.loc k | none => .absent
  n j := match ks[j]? with | some k => E.n k | none => 0
  tot j := match ks[j]? with | some k => E.tot k | none => 0
  z j := match ks[j]? with | some k => E.z k | none => 0
def pieceOwn (own : Nat → List Nat) (ks : List Nat) (j : Nat) : List Nat := match ks[j]? with | some k => own k | none => []
theorem pieceΓ (r : RelH G E own H w) (ks : List Nat) {b : Nat} {o : Obj} (h : E.Γ b = some o) : (pieceEnv E own w ks).Γ b = some o := by
  unfold pieceEnv
  simp only
  split
  · rename_i hk
    obtain ⟨k, _, hb⟩ := hk
    rw [(r.heap.free k b hb).1] at h; cases h
  · exact h
theorem piece_ren (r : RelH G E own H w) (ks : List Nat) : Ren E (pieceEnv E own w ks) (numbered 0 ks) := by
  refine ⟨⟨fun b o _ h => pieceΓ r ks h, fun b h => h⟩, fun k j hj _ => ?_⟩
  obtain ⟨_, h⟩ := mem_numbered (look_some hj)
  simp only [Nat.sub_zero] at h
  simp [pieceEnv, h]
theorem piece_rel (r : RelH G E own H w) {ks : List Nat} (hn : ks.Nodup) {Pc : Heap} (hl : Pc.length = ks.length)
    (hp : ∀ (j k : Nat), ks[j]? = some k → ∃ o, H[k]? = some o ∧ Pc[j]? = some (renObj (numbered 0 ks) o) ∧ ∀ cs, o = .box cs → okCellsO (renAVs (numbered 0 ks) cs) = true) :
    RelH G (pieceEnv E own w ks) (pieceOwn own ks) Pc w := by
  refine ⟨⟨fun j q e => ?_, fun j hj => ?_, fun j => ?_, fun i j b hij hb => ?_, fun j b hb => ?_⟩, ⟨fun b o h => ?_, fun b h => ?_, fun b o h => ?_⟩, fun g vs e => ?_⟩
  · have hj : j < ks.length := by rw [← hl]; exact (List.getElem?_eq_some_iff.1 e).1
    have hk : ks[j]? = some ks[j] := List.getElem?_eq_getElem hj
    obtain ⟨o, h1, h2, h3⟩ := hp j _ hk
    rw [e] at h2; cases h2
    simp only [pieceOwn, hk]
    exact (r.heap.obj _ o h1).ren (piece_ren r ks) (by simp [pieceEnv, hk]) h3
  · have : ks[j]? = none := List.getElem?_eq_none (by omega)
    simp [pieceEnv, pieceOwn, this]
  · simp only [pieceOwn]
    split
    · exact r.heap.nodup _
    · exact List.nodup_nil
  · simp only [pieceOwn] at hb ⊢
    split at hb
    · rename_i k hk
      split
      · rename_i k' hk'
        refine r.heap.apart k k' b (fun e => hij ?_) hb
        subst e
        exact (List.getElem?_inj (List.getElem?_eq_some_iff.1 hk).1 hn).1 (hk.trans hk'.symm)
      · simp
    · cases hb
  · simp only [pieceOwn] at hb
    split at hb
    · rename_i k hk
      have hf := r.heap.free k b hb
      refine ⟨?_, hf.2⟩
      simp only [pieceEnv]
      rw [if_neg, hf.1]
      rintro ⟨k', hk', hb'⟩
      refine r.heap.apart k k' b (fun e => hk' ?_) hb hb'
      subst e
      exact List.mem_of_getElem? hk
    · cases hb
  · simp only [pieceEnv] at h
    split at h
    · exact h
    · exact r.ok.mem b o h
  · cases hΓ : E.Γ b with
    | none => exact absurd hΓ (r.ok.im b h)
    | some o => rw [pieceΓ r ks hΓ]; simp
  · simp only [pieceEnv] at h
    split at h
    · rename_i hk
      obtain ⟨k, _, hb⟩ := hk
      exact r.heap.notRec hb o h
    · exact r.ok.norec b o h
  · obtain ⟨hpl, arr, T, fr, e1, e2⟩ := r.glob g vs e
    exact ⟨hpl, arr, T, fr, pieceΓ r ks e1, e2⟩
end
end Am
end Go.Proofs.YtbdnfkmcfencdaaGreatDoor
/- The abstract machine is sound: a piece is put back. No condition. -/
namespace Go.Proofs.YtbdnfkmcfencdaaGreatDoor
namespace Am
open Go

/-- H' is H with the piece Pc put back at ks. -/
structure PutBack (ks : List Nat) (H Pc H' : Heap) : Prop where
  le : ks.length ≤ Pc.length
  len : H'.length = H.length + (Pc.length - ks.length)
  at_ : ∀ (j k : Nat), ks[j]? = some k → k < H.length → H'[k]? = Pc[j]?
  old : ∀ k, k ∉ ks → k < H.length → H'[k]? = H[k]?
  new : ∀ i, H'[H.length + i]? = Pc[ks.length + i]?
theorem putBackK_inv {P : Program} {G : Nat → Option (List Value)} {M : Md P G} : ∀ {ks : List Nat} {H Pc : Heap} {K : Heap → Prop}, ks.Nodup → putBackK (propSig M) ks H Pc K → ∃ H', K H' ∧ PutBack ks H Pc H'
  | [], H, Pc, K, _, h => by
    have h : appK H Pc K := h
    rw [appK_eq] at h
    exact ⟨_, h, ⟨by simp, by simp, by simp, fun k _ hk => List.getElem?_append_left hk, fun i => by rw [List.getElem?_append_right (by omega)]; congr 1; simp⟩⟩
  | k :: ks, H, Pc, K, hn, h => by
    rw [List.nodup_cons] at hn
    cases Pc with
    | nil => exact h.elim
    | cons o Pc =>
      have h : setK H k o fun H => putBackK (propSig M) ks H Pc K := h
      rw [setK_eq] at h
      obtain ⟨H', hk, hp⟩ := putBackK_inv hn.2 h
      have h1 := hp.len
      have h2 := hp.le
      refine ⟨H', hk, ⟨by simpa using h2, by simpa using h1, fun j k' hj hk' => ?_, fun k' hk' hl => ?_, fun i => ?_⟩⟩
      · cases j with
        | zero =>
          simp at hj; subst hj
          rw [hp.old k hn.1 (by simpa using hk'), List.getElem?_set_self hk']
          rfl
        | succ j =>
          rw [hp.at_ j k' (by simpa using hj) (by simpa using hk')]
          simp
      · simp only [List.mem_cons, not_or] at hk'
        rw [hp.old k' hk'.2 (by simpa using hl), List.getElem?_set_ne (Ne.symm hk'.1)]
      · have := hp.new i
        rw [List.length_set] at this
        rw [this, List.length_cons, show ks.length + 1 + i = (ks.length + i) + 1 from by omega, List.getElem?_cons_succ]
end Am
end Go.Proofs.YtbdnfkmcfencdaaGreatDoor
/- The abstract machine is sound: behind a call. No condition. -/
namespace Go.Proofs.YtbdnfkmcfencdaaGreatDoor
namespace Am
open Go

/-- Where an object of the caller lies in the piece. -/
def inPiece (ks : List Nat) (N k : Nat) : Option Nat := if k ∈ ks then some (ks.idxOf k) else if N ≤ k then some (ks.length + (k - N)) else none
open Classical in
/-- The memory behind a call. -/
noncomputable def mergeEnv (E : Env) (own : Nat → List Nat) (ks : List Nat) (N : Nat) (E' : Env) : Env where
  Γ b := if ∃ k, k ∉ ks ∧ b ∈ own k then none else E'.Γ b
  im := E'.im
  loc k := match inPiece ks N k with | some j => E'.loc j | none => E.loc k
  n k := match inPiece ks N k with | some j => E'.n j | none => E.n k
  tot k := match inPiece ks N k with | some j => E'.tot j | none => E.tot k
  z k := match inPiece ks N k with | some j => E'.z j | none => E.z k
def mergeOwn (own : Nat → List Nat) (ks : List Nat) (N : Nat) (own' : Nat → List Nat) (k : Nat) : List Nat := match inPiece ks N k with | some j => own' j | none => own k
theorem inPiece_at {ks : List Nat} {N j k : Nat} (hn : ks.Nodup) (h : ks[j]? = some k) : inPiece ks N k = some j := by
  have hm := List.mem_of_getElem? h
  have hj := (List.getElem?_eq_some_iff.1 h)
  obtain ⟨h1, h2⟩ := hj
  unfold inPiece
  rw [if_pos hm]
  congr 1
  subst h2
  exact hn.idxOf_getElem j h1
theorem inPiece_new {ks : List Nat} {N i : Nat} (h : ∀ k ∈ ks, k < N) : inPiece ks N (N + i) = some (ks.length + i) := by
  unfold inPiece
  rw [if_neg (fun hm => by have := h _ hm; omega), if_pos (by omega)]
  congr 2
  omega
theorem inPiece_none {ks : List Nat} {N k : Nat} (h : inPiece ks N k = none) : k ∉ ks ∧ k < N := by
  unfold inPiece at h
  split at h
  · cases h
  · rename_i h1
    split at h
    · cases h
    · rename_i h2; exact ⟨h1, by omega⟩
theorem inPiece_inj {ks : List Nat} {N i k j : Nat} (h : inPiece ks N i = some j) (h' : inPiece ks N k = some j) : i = k := by
  unfold inPiece at h h'
  split at h
  · rename_i hi
    have h1 := List.idxOf_lt_length_iff.2 hi
    split at h'
    · rename_i hk
      simp only [Option.some.injEq] at h h'
      have e1 := List.getElem_idxOf h1
      have e2 := List.getElem_idxOf (List.idxOf_lt_length_iff.2 hk)
      rw [← e1, ← e2]
      congr 1
      omega
    · split at h'
      · simp only [Option.some.injEq] at h h'; omega
      · cases h'
  · split at h
    · split at h'
      · rename_i hk
        have h2 := List.idxOf_lt_length_iff.2 hk
        simp only [Option.some.injEq] at h h'; omega
      · split at h'
        · simp only [Option.some.injEq] at h h'; omega
        · cases h'
    · cases h
section
variable {G : Nat → Option (List Value)} {E : Env} {own : Nat → List Nat} {H : Heap} {w : World}
/-- The numbers behind a call. -/
def backNums (ks : List Nat) (N m : Nat) : List (Nat × Nat) := backward 0 ks ++ backward ks.length (upFrom N m)
theorem backNums_look {ks : List Nat} {N m j k : Nat} (hn : ks.Nodup) (hlt : ∀ k ∈ ks, k < N) (h : look (backNums ks N m) j = some k) : inPiece ks N k = some j := by
  rcases List.mem_append.1 (look_some h) with h | h
  · obtain ⟨_, h2⟩ := mem_backward h
    exact inPiece_at hn (by simpa using h2)
  · obtain ⟨h1, h2⟩ := mem_backward h
    obtain ⟨_, rfl⟩ := upFrom_get h2
    rw [inPiece_new hlt]
    congr 1
    omega
theorem merge_ren (r : RelH G E own H w) {ks : List Nat} (hn : ks.Nodup) (hlt : ∀ k ∈ ks, k < H.length) {E' : Env} {w' : World} (hg : Goes (pieceEnv E own w ks) w E' w') (m : Nat) :
    Ren E' (mergeEnv E own ks H.length E') (backNums ks H.length m) := by
  refine ⟨⟨fun b o hi h => ?_, fun b h => h⟩, fun j k hj _ => ?_⟩
  · simp only [mergeEnv]
    rw [if_neg]
    · exact h
    · rintro ⟨k, hk, hb⟩
      have hf := r.heap.free k b hb
      rcases hg.new b hi with h1 | h1
      · exact r.ok.im b h1 hf.1
      · simp only [pieceEnv] at h1
        rw [if_pos ⟨k, hk, hb⟩, Array.getElem?_eq_getElem hf.2] at h1
        cases h1
  · have := backNums_look hn hlt hj
    simp [mergeEnv, this]
theorem merge_rel (r : RelH G E own H w) {ks : List Nat} (hn : ks.Nodup) (hlt : ∀ k ∈ ks, k < H.length) {E' : Env} {own' : Nat → List Nat} {P' P1 H2 : Heap} {w' : World} (hg : Goes (pieceEnv E own w ks) w E' w')
    (rc : RelH G E' own' P' w') (h1 : ∀ (j : Nat) o, P1[j]? = some o → ∃ p, P'[j]? = some p ∧ o = renObj (backNums ks H.length (P'.length - ks.length)) p ∧ ∀ cs, p = .box cs → okCellsO (renAVs (backNums ks H.length (P'.length - ks.length)) cs) = true)
    (hl1 : P1.length = P'.length) (hp : PutBack ks H P1 H2) :
    RelH G (mergeEnv E own ks H.length E') (mergeOwn own ks H.length own') H2 w' ∧ Goes E w (mergeEnv E own ks H.length E') w' := by
  have held : ∀ k b, k ∉ ks → b ∈ own k → E'.Γ b = w.heap[b]? ∧ b < w.heap.size := by
    intro k b hk hb
    have hf := r.heap.free k b hb
    have : (pieceEnv E own w ks).Γ b = some w.heap[b] := by
      simp only [pieceEnv]
      rw [if_pos ⟨k, hk, hb⟩, Array.getElem?_eq_getElem hf.2]
    exact ⟨by rw [hg.le.Γ b _ this, Array.getElem?_eq_getElem hf.2], hf.2⟩
  have same : ∀ k b, k ∉ ks → b ∈ own k → w'.heap[b]? = w.heap[b]? := by
    intro k b hk hb
    obtain ⟨h2, h3⟩ := held k b hk hb
    rw [Array.getElem?_eq_getElem h3] at h2 ⊢
    exact rc.ok.mem b _ h2
  have noEx : ∀ {b o}, E.Γ b = some o → ¬ ∃ k, k ∉ ks ∧ b ∈ own k := by
    rintro b o h ⟨k, _, hb⟩
    rw [(r.heap.free k b hb).1] at h; cases h
  have le : E.Le (mergeEnv E own ks H.length E') := by
    refine ⟨fun b o h => ?_, fun b h => hg.le.im b h, fun k hk => ?_⟩
    · simp only [mergeEnv]
      rw [if_neg (noEx h)]
      exact hg.le.Γ b o (pieceΓ r ks h)
    · cases hi : inPiece ks H.length k with
      | none => simp [mergeEnv, hi]
      | some j =>
        have hkN : k < H.length := by
          rcases Nat.lt_or_ge k H.length with h | h
          · exact h
          · exact absurd (r.heap.beyond k h).1 hk
        have hks : k ∈ ks ∧ ks[j]? = some k := by
          unfold inPiece at hi
          split at hi
          · rename_i hm
            simp only [Option.some.injEq] at hi
            have := List.idxOf_lt_length_iff.2 hm
            subst hi
            exact ⟨hm, by rw [List.getElem?_eq_getElem this, List.getElem_idxOf]⟩
          · split at hi
            · omega
            · cases hi
        have hc := hg.le.loc j (by simp only [pieceEnv, hks.2]; exact hk)
        simp only [pieceEnv, hks.2] at hc
        simp only [mergeEnv, hi]
        exact hc
  have ren := merge_ren r hn hlt hg (P'.length - ks.length)
  have hlen := hp.len
  refine ⟨⟨⟨fun k o e => ?_, fun k hk => ?_, fun k => ?_, fun i k b hik hb => ?_, fun k b hb => ?_⟩, ⟨fun b o h => ?_, fun b h => ?_, fun b o h => ?_⟩, r.glob.mono le⟩, le, fun b hb => ?_, hg.beside⟩
  · cases hi : inPiece ks H.length k with
    | none =>
      obtain ⟨h2, h3⟩ := inPiece_none hi
      rw [hp.old k h2 h3] at e
      simp only [mergeOwn, hi]
      exact (r.heap.obj k o e).frame' le (fun hl => by simp [mergeEnv, hi, hl]) (fun b hb => same k b h2 hb)
    | some j =>
      have e1 : P1[j]? = some o := by
        unfold inPiece at hi
        split at hi
        · rename_i hm
          simp only [Option.some.injEq] at hi
          have hlt' := List.idxOf_lt_length_iff.2 hm
          rw [← hp.at_ j k (by subst hi; rw [List.getElem?_eq_getElem hlt', List.getElem_idxOf]) (hlt k hm)]
          exact e
        · split at hi
          · rename_i hN
            simp only [Option.some.injEq] at hi
            have := hp.new (k - H.length)
            rw [show H.length + (k - H.length) = k from by omega, hi] at this
            rw [← this]; exact e
          · cases hi
      obtain ⟨p, h2, rfl, h3⟩ := h1 j o e1
      simp only [mergeOwn, hi]
      exact (rc.heap.obj j p h2).ren ren (by simp [mergeEnv, hi]) h3
  · have hkN : H.length ≤ k := by omega
    have hi : inPiece ks H.length k = some (ks.length + (k - H.length)) := by
      have := inPiece_new (ks := ks) (N := H.length) (i := k - H.length) hlt
      rwa [show H.length + (k - H.length) = k from by omega] at this
    have h2 := hp.le
    have := rc.heap.beyond (ks.length + (k - H.length)) (by omega)
    simp [mergeEnv, mergeOwn, hi, this]
  · simp only [mergeOwn]
    split
    · exact rc.heap.nodup _
    · exact r.heap.nodup _
  · simp only [mergeOwn] at hb ⊢
    split at hb
    · rename_i j hj
      split
      · rename_i j' hj'
        exact rc.heap.apart j j' b (fun e => hik (inPiece_inj hj (e ▸ hj'))) hb
      · rename_i hj'
        intro hbk
        obtain ⟨h2, h3⟩ := held k b (inPiece_none hj').1 hbk
        rw [(rc.heap.free j b hb).1, Array.getElem?_eq_getElem h3] at h2
        cases h2
    · rename_i hj
      split
      · rename_i j' hj'
        intro hbk
        obtain ⟨h2, h3⟩ := held i b (inPiece_none hj).1 hb
        rw [(rc.heap.free j' b hbk).1, Array.getElem?_eq_getElem h3] at h2
        cases h2
      · exact r.heap.apart i k b hik hb
  · simp only [mergeOwn] at hb
    split at hb
    · rename_i j hj
      have hf := rc.heap.free j b hb
      refine ⟨?_, hf.2⟩
      simp only [mergeEnv]
      split
      · rfl
      · exact hf.1
    · rename_i hj
      have hf := r.heap.free k b hb
      refine ⟨?_, Nat.lt_of_lt_of_le hf.2 hg.beside.size⟩
      simp only [mergeEnv]
      rw [if_pos ⟨k, (inPiece_none hj).1, hb⟩]
  · simp only [mergeEnv] at h
    split at h
    · cases h
    · exact rc.ok.mem b o h
  · cases hΓ : E'.Γ b with
    | none => exact absurd hΓ (rc.ok.im b h)
    | some o => rw [ren.pure.Γ b o h hΓ]; simp
  · simp only [mergeEnv] at h
    split at h
    · cases h
    · exact rc.ok.norec b o h
  · rcases hg.new b hb with h | h
    · exact .inl h
    · right
      cases hΓ : E.Γ b with
      | none => rfl
      | some o => rw [pieceΓ r ks hΓ] at h; cases h
end
end Am
end Go.Proofs.YtbdnfkmcfencdaaGreatDoor
/- The abstract machine is sound: a call. No condition. -/
namespace Go.Proofs.YtbdnfkmcfencdaaGreatDoor
namespace Am
open Go

section
variable {P : Program} {G : Nat → Option (List Value)} {M : Md P G} {L : Nat → Prop} {X : Ctx} {E : Env} {own : Nat → List Nat} {ρ : Regs} {H : Heap} {d : Dx} {a : Act} {w : World}
theorem Run.elim {f : Nat} {xs : List AV} {H : Heap} {Q : Out → Heap → Prop} (h : Run P G f xs H Q) {E : Env} {w : World} {own : Nat → List Nat} {cs : List Value} (r : RelH G E own H w) (hall : ∀ k, k < H.length → E.loc k ≠ .absent) (hx : RepVs E xs cs) :
    Called P f cs.toArray w fun e w' => ∃ o H' E' own', Q o H' ∧ H.length ≤ H'.length ∧ RepOut E' o e ∧ RelH G E' own' H' w' ∧ Goes E w E' w' := by
  unfold Run at h
  refine (h E w own cs r.heap r.ok r.glob hall hx).mono fun e w' ⟨o, H', E', own', h1, h2, h3, h4, h5, h6⟩ => ⟨o, H', E', own', h1, h2, h3, ⟨h4, h5, r.glob.mono h6.le⟩, h6⟩
theorem mapRen_inv {r : List (Nat × Nat)} : ∀ {Pc : Heap} {K : Heap → Prop}, mapK (renObjK (propSig M) r) Pc K →
    ∃ P1 : Heap, K P1 ∧ P1.length = Pc.length ∧ ∀ (j : Nat) o, P1[j]? = some o → ∃ p, Pc[j]? = some p ∧ o = renObj r p ∧ ∀ cs, p = .box cs → okCellsO (renAVs r cs) = true
  | [], K, h => ⟨[], h, rfl, fun j o e => by simp at e⟩
  | p :: Pc, K, h => by
    rw [mapK_cons] at h
    obtain ⟨h1, h2⟩ := renObjK_inv h
    obtain ⟨P1, h3, h4, h5⟩ := mapRen_inv h1
    refine ⟨_, h3, by simp [h4], fun j o e => ?_⟩
    cases j with
    | zero => simp at e; subst e; exact ⟨p, rfl, rfl, h2⟩
    | succ j => simpa using h5 j o (by simpa using e)
/-- What is put back. -/
theorem backK_inv (r : RelH G E own H w) {ks : List Nat} (hn : ks.Nodup) (hlt : ∀ k ∈ ks, k < H.length) (hthere : ∀ k ∈ ks, E.loc k ≠ .absent) {E' : Env} {own' : Nat → List Nat} {P' : Heap} {w' : World} (hg : Goes (pieceEnv E own w ks) w E' w')
    (rc : RelH G E' own' P' w') {x : AV} {v : Value} (hx : RepV E' x v) {K : AV → Heap → Prop} (h : backK (propSig M) ks H P' x K) :
    ∃ y H2 E2 own2, K y H2 ∧ RelH G E2 own2 H2 w' ∧ RepV E2 y v ∧ Laid H2 ∧ Goes E w E2 w' ∧ Abs H.length E E2 := by
  have h : mapK (renObjK (propSig M) (backNums ks H.length (P'.length - ks.length))) P' fun P1 => putBackK (propSig M) ks H P1 fun H2 => layOutK H2 fun H2 => force (renAV (backNums ks H.length (P'.length - ks.length)) x) fun x => K x H2 := by
    unfold backK at h
    rw [spineK_eq] at h
    exact h
  obtain ⟨P1, h1, hl1, h2⟩ := mapRen_inv h
  obtain ⟨H2, h3, hp⟩ := putBackK_inv (M := M) hn h1
  rw [layOutK_eq, force_eq] at h3
  obtain ⟨r2, g2⟩ := merge_rel r hn hlt hg rc h2 hl1 hp
  have hx2 := hx.ren (merge_ren r hn hlt hg (P'.length - ks.length))
  obtain ⟨E3, own3, r3, g3, l3, a3⟩ := layOut_rel r2
  have a2 : Abs H.length E (mergeEnv E own ks H.length E') := fun k hk ha => by
    have : inPiece ks H.length k = none := by
      unfold inPiece
      rw [if_neg fun hm => hthere k hm ha, if_neg (by omega)]
    simp only [mergeEnv, this]
    exact ha
  exact ⟨_, _, E3, own3, h3, r3, hx2.mono g3.le, l3, g2.trans g3, a2.trans a3 (by rw [hp.len]; omega)⟩
theorem callK'_inv (r : Rel G L E own ρ H d a w) {f : Nat} {xs : List AV} {cs : List Value} (hx : RepVs E xs cs) {K : Out → Regs → Heap → Prop} (h : callK' (propSig M) f xs ρ H K) :
    Called P f cs.toArray w fun e w' => ∃ o E' own' H', K o ρ H' ∧ Rel G L E' own' ρ H' d a w' ∧ RepOut E' o e ∧ Goes E w E' w' ∧ Abs H.length E E' := by
  unfold callK' pieceK at h
  rw [spineK_eq] at h
  have r0 : RelH G E own H w := ⟨r.heap, r.ok, r.glob⟩
  obtain ⟨own1, H1, h1, r1, l1, hlen1, hsub⟩ := inBoxes_inv _ [] r0 (fun k cs e _ => r.laid k cs e) (fun k hk => ⟨by simp, reachB_there r.heap _ (base := []) (by simp) hx k hk⟩) (reach_nodup _ _ _ _ List.nodup_nil) h
  rw [spineK_eq, spineK_eq, forces_eq] at h1
  generalize hks : reachB H1 (H1.length + 100) [] xs = ks at h1
  have hn : ks.Nodup := by rw [← hks]; exact reach_nodup _ _ _ _ List.nodup_nil
  have hthere : ∀ k ∈ ks, E.loc k ≠ .absent := by rw [← hks]; exact reachB_there r1.heap _ (base := []) (by simp) hx
  have hlt : ∀ k ∈ ks, k < H1.length := fun k hk => by
    rcases Nat.lt_or_ge k H1.length with h | h
    · exact h
    · exact absurd (r1.heap.beyond k h).1 (hthere k hk)
  obtain ⟨Pc, h2, hl, hp⟩ := gatherK_inv h1
  have h2 : Run P G f (renAVs (numbered 0 ks) xs) Pc fun out Pc => match out with
    | .ret x => backK (propSig M) ks H1 Pc x fun x H => K (.ret x) ρ H
    | .panic x => backK (propSig M) ks H1 Pc x fun x H => K (.panic x) ρ H := M.call_run _ _ _ _ h2
  have rp := piece_rel r1 hn hl hp
  have hall : ∀ k, k < Pc.length → (pieceEnv E own1 w ks).loc k ≠ .absent := fun k hk => by
    have hk' : k < ks.length := by omega
    have e : ks[k]? = some ks[k] := List.getElem?_eq_getElem hk'
    show (match ks[k]? with | some k => E.loc k | none => .absent) ≠ .absent
    rw [e]
    exact hthere _ (List.getElem_mem hk')
  have hxp := hx.ren (piece_ren r1 ks)
  refine (h2.elim rp hall hxp).mono fun e w' ⟨o, H', E', own', h3, h4, h5, h6, h7⟩ => ?_
  cases o with
  | ret x =>
    cases e with
    | returned v =>
      obtain ⟨y, H2, E2, own2, k1, k2, k3, k4, k5, k6⟩ := backK_inv r1 hn hlt hthere h7 h6 h5 h3
      exact ⟨.ret y, E2, own2, H2, k1, r.env k5.le k2.heap k2.ok k4, k3, k5, hlen1 ▸ k6⟩
    | _ => exact h5.elim
  | panic x =>
    cases e with
    | panicked ch =>
      obtain ⟨v, hv, hr⟩ := h5
      obtain ⟨y, H2, E2, own2, k1, k2, k3, k4, k5, k6⟩ := backK_inv r1 hn hlt hthere h7 h6 hr h3
      exact ⟨.panic y, E2, own2, H2, k1, r.env k5.le k2.heap k2.ok k4, ⟨v, hv, k3⟩, k5, hlen1 ▸ k6⟩
    | _ => exact h5.elim
end
end Am
end Go.Proofs.YtbdnfkmcfencdaaGreatDoor
/- The abstract machine is sound: a loop's head, a function's end, deferred calls. No condition. -/
namespace Go.Proofs.YtbdnfkmcfencdaaGreatDoor
namespace Am
open Go

section
variable {P : Program} {G : Nat → Option (List Value)} {M : Md P G} {L : Nat → Prop} {X : Ctx} {E E0 : Env} {own : Nat → List Nat} {ρ : Regs} {H : Heap} {d : Dx} {a : Act} {w w0 : World} {foot : Nat}
/-- Where a function begins: its first objects are there, and no more. -/
def Entry (E0 : Env) (foot : Nat) : Prop := ∀ k, E0.loc k ≠ .absent ↔ k < foot
theorem callK_inv (r : Rel G L E own ρ H d a w) {f : Nat} {xs : List AV} {cs : List Value} (hx : RepVs E xs cs) {K : Out → Regs → Heap → Prop} (h : callK (propSig M) X f xs ρ H K) :
    Called P f cs.toArray w fun e w' => ∃ o E' own' ρ' H', K o ρ' H' ∧ Rel G L E' own' ρ' H' d a w' ∧ RepOut E' o e ∧ Goes E w E' w' := by
  unfold callK at h
  cases hb : X.byref f with
  | true =>
    rw [hb] at h
    exact (callK'_inv (M := M) r hx h).mono fun e w' ⟨o, E', own', H', h1, h2, h3, h4, _⟩ => ⟨o, E', own', ρ, H', h1, h2, h3, h4⟩
  | false =>
    rw [hb] at h
    obtain ⟨E1, own1, ρ1, H1, xs1, h1, r1, hx1, g1, _⟩ := freezeK_inv (M := M) r hx h
    exact (callK'_inv (M := M) r1 hx1 h1).mono fun e w' ⟨o, E', own', H', h1, h2, h3, h4, _⟩ => ⟨o, E', own', ρ1, H', h1, h2, h3, g1.trans h4⟩
theorem reachB_nodup (H : Heap) (n : Nat) {base : List Nat} (xs : List AV) (h : base.Nodup) : (reachB H n base xs).Nodup := reach_nodup H n _ _ h
/-- Registers that another set of registers tells too. -/
def Kept (ρ : Regs) : Regs → Prop
  | .nil => True
  | .cons r x l => ρ.get r = x ∧ Kept ρ l
theorem keepK_inv {l : List Nat} : ∀ {K : Regs → Prop}, keepK ρ l K → ∃ ρ', K ρ' ∧ Kept ρ ρ' := by
  induction l with
  | nil => exact fun {K} h => ⟨.nil, h, trivial⟩
  | cons n l ih =>
    intro K h
    have h : Regs.findK ρ n (keepK ρ l K) fun x => keepK ρ l fun q => K (.cons n x q) := h
    rw [Regs.findK_eq] at h
    split at h
    · rename_i x e
      obtain ⟨ρ', h1, h2⟩ := ih h
      exact ⟨_, h1, Regs.get_of_find e, h2⟩
    · exact ih h
def zipR : List Nat → List AV → Regs
  | r :: l, x :: xs => .cons r x (zipR l xs)
  | _, _ => .nil
theorem zipK_eq {β : Type} (l : List Nat) : ∀ (xs : List AV) (K : Regs → β), zipK l xs K = K (zipR l xs) := by
  induction l with
  | nil => exact fun xs K => by cases xs <;> rfl
  | cons r l ih =>
    intro xs K
    cases xs with
    | nil => rfl
    | cons x xs => exact (ih xs _).trans rfl
theorem Kept.vals (hr : ∀ r, RepV E (ρ.get r) (a.tmps.getD r undef)) : ∀ {ρ' : Regs}, Kept ρ ρ' → RepVs E (valsOf ρ') ((keysOf ρ').map fun r => a.tmps.getD r undef)
  | .nil, _ => trivial
  | .cons r x l, h => ⟨by have := hr r; rwa [h.1] at this, Kept.vals hr h.2⟩
theorem zipR_rep : ∀ {l : List Nat} {xs : List AV}, RepVs E xs (l.map fun r => a.tmps.getD r undef) → ∀ r, RepV E ((zipR l xs).get r) (a.tmps.getD r undef)
  | [], [], _, r => trivial
  | n :: l, x :: xs, h, r => by
    simp only [List.map_cons, RepVs] at h
    simp only [zipR, Regs.get]
    split
    · rename_i e; subst e; exact h.1
    · exact zipR_rep h.2 r
  | [], _ :: _, _, r => trivial
  | _ :: _, [], h, r => by simp [RepVs] at h
theorem Goes.piece (g : Goes E0 w0 E w) (hE : Entry E0 foot) (r : RelH G E own H w) {ks l : List Nat} (hk : ks = List.range foot ++ l) : Goes E0 w0 (pieceEnv E own w ks) w := by
  refine ⟨⟨fun b o e => pieceΓ r ks (g.le.Γ b o e), fun b h => g.le.im b h, fun k e => ?_⟩, g.new, g.beside⟩
  have hlt := (hE k).1 e
  have hk' : ks[k]? = some k := by
    rw [hk, List.getElem?_append_left (by simpa using hlt)]
    exact List.getElem?_range hlt
  have h := g.le.loc k e
  simp only [pieceEnv, hk']
  exact h
theorem Goes.there (g : Goes E0 w0 E w) (hE : Entry E0 foot) : ∀ k ∈ List.range foot, E.loc k ≠ .absent := fun k hk => by
  have h := (hE k).2 (by simpa using hk)
  rw [(g.le.loc k h).1]
  exact h
theorem lt_of_there (r : RepH E w H own) {k : Nat} (h : E.loc k ≠ .absent) : k < H.length := by
  rcases Nat.lt_or_ge k H.length with h' | h'
  · exact h'
  · exact absurd (r.beyond k h').1 h
theorem okCell_ren {r : List (Nat × Nat)} {x : AV} (h : okCell x = true) (k : okCellO (renAV r x) = true) : okCell (renAV r x) = true := by
  cases x <;> simp only [renAV] at k ⊢ <;> first | exact h | (split <;> first | rfl | (rename_i e; rw [e] at k; exact k)) | (simp [okCell] at h; done) | skip
theorem okCells_ren {r : List (Nat × Nat)} : ∀ {l : List AV}, okCells l = true → okCellsO (renAVs r l) = true → okCells (renAVs r l) = true
  | [], _, _ => rfl
  | x :: l, h, k => by
    simp only [okCells, okCellsO, renAVs, Bool.and_eq_true] at *
    exact ⟨okCell_ren h.1 k.1, okCells_ren h.2 k.2⟩
/-- A loop's head. -/
theorem headK_inv (hE : Entry E0 foot) (r : Rel G (fun _ => True) E own ρ H d a w) (g : Goes E0 w0 E w) {live : List Nat} {K : SK Prop} (h : headK (propSig M) foot live K ρ H d) :
    ∃ ρ' H' E' own', K ρ' H' d ∧ Rel G (fun _ => True) E' own' ρ' H' d a w ∧ Goes E0 w0 E' w := by
  unfold headK at h
  cases d with
  | cons p d => exact h.elim
  | nil =>
    obtain ⟨ρ1, h1, hk⟩ := keepK_inv h
    clear h
    rw [spineK_eq, spineK_eq, forces_eq, zipK_eq] at h1
    have hv := hk.vals fun r' => r.regs r' trivial
    generalize hks : reachB H (H.length + 200) (List.range foot) (valsOf ρ1) = ks at h1
    have hn : ks.Nodup := by rw [← hks]; exact reachB_nodup _ _ _ List.nodup_range
    obtain ⟨l, hl⟩ := reachB_prefix H (H.length + 200) (List.range foot) (valsOf ρ1)
    rw [hks] at hl
    obtain ⟨Pc, h2, hlen, hp⟩ := gatherK_inv h1
    clear h1
    have r0 : RelH G E own H w := ⟨r.heap, r.ok, r.glob⟩
    have rp := piece_rel r0 hn hlen hp
    have hxp := hv.ren (piece_ren r0 ks)
    refine ⟨_, _, _, _, h2, ⟨fun r' _ => zipR_rep hxp r', rp.heap, rp.ok, rp.glob, ?_, ?_⟩, g.piece hE r0 hl⟩
    · have := r.defs
      cases hd : a.defers with
      | nil => trivial
      | cons c l => rw [hd] at this; exact this.elim
    · intro k cs e
      have hk' : k < ks.length := by rw [← hlen]; exact (List.getElem?_eq_some_iff.1 e).1
      obtain ⟨o, e1, e2, e3⟩ := hp k _ (List.getElem?_eq_getElem hk')
      rw [e] at e2
      cases o with
      | box ds =>
        simp only [renObj, Option.some.injEq, AObj.box.injEq] at e2
        have h1 := r.laid _ ds e1
        have h3 := e3 ds rfl
        rw [e2]
        exact okCells_ren h1 h3
      | _ => simp [renObj] at e2
/-- What values reach is taken out. -/
theorem pieceK_inv (r : RelH G E own H w) (hl : Laid H) {base : List Nat} (hb : ∀ k ∈ base, E.loc k ≠ .absent) (hbn : base.Nodup) {xs : List AV} {cs : List Value} (hx : RepVs E xs cs)
    {K : List Nat → Heap → Heap → List AV → Prop} (h : pieceK (propSig M) H base xs K) :
    ∃ ks own1 H1 Pc, K ks H1 Pc (renAVs (numbered 0 ks) xs) ∧ RelH G E own1 H1 w ∧ ks.Nodup ∧ (∀ k ∈ ks, E.loc k ≠ .absent) ∧ (∃ l, ks = base ++ l) ∧ Pc.length = ks.length ∧
      RelH G (pieceEnv E own1 w ks) (pieceOwn own1 ks) Pc w ∧ RepVs (pieceEnv E own1 w ks) (renAVs (numbered 0 ks) xs) cs ∧ (∀ k, k < Pc.length → (pieceEnv E own1 w ks).loc k ≠ .absent) ∧
      H1.length = H.length := by
  unfold pieceK at h
  rw [spineK_eq] at h
  obtain ⟨own1, H1, h1, r1, l1, hlen1, hsub⟩ := inBoxes_inv _ [] r (fun k cs e _ => hl k cs e) (fun k hk => ⟨by simp, reachB_there r.heap _ hb hx k hk⟩) (reachB_nodup _ _ _ hbn) h
  rw [spineK_eq, spineK_eq, forces_eq] at h1
  generalize hks : reachB H1 (H1.length + 100) base xs = ks at h1
  have hn : ks.Nodup := by rw [← hks]; exact reachB_nodup _ _ _ hbn
  have hthere : ∀ k ∈ ks, E.loc k ≠ .absent := by rw [← hks]; exact reachB_there r1.heap _ hb hx
  have hpre : ∃ l, ks = base ++ l := by rw [← hks]; exact reachB_prefix _ _ _ _
  obtain ⟨Pc, h2, hlen, hp⟩ := gatherK_inv h1
  refine ⟨ks, own1, H1, Pc, h2, r1, hn, hthere, hpre, hlen, piece_rel r1 hn hlen hp, hx.ren (piece_ren r1 ks), fun k hk => ?_, hlen1⟩
  have hk' : k < ks.length := by omega
  have e : ks[k]? = some ks[k] := List.getElem?_eq_getElem hk'
  show (match ks[k]? with | some k => E.loc k | none => .absent) ≠ .absent
  rw [e]
  exact hthere _ (List.getElem_mem hk')
/-- A call whose arguments show no array. -/
theorem callK_inv0 (r : Rel G L E own ρ H d a w) {f : Nat} {xs : List AV} {cs : List Value} (ha : X.byref f = true ∨ arrsAVs xs = []) (hx : RepVs E xs cs) {K : Out → Regs → Heap → Prop} (h : callK (propSig M) X f xs ρ H K) :
    Called P f cs.toArray w fun e w' => ∃ o E' own' H', K o ρ H' ∧ Rel G L E' own' ρ H' d a w' ∧ RepOut E' o e ∧ Goes E w E' w' ∧ Abs H.length E E' := by
  unfold callK at h
  cases hb : X.byref f with
  | true => rw [hb] at h; exact callK'_inv (M := M) r hx h
  | false =>
    rw [hb] at h
    simp only [cond_false, freezeK, ha.resolve_left (by rw [hb]; nofun)] at h
    exact callK'_inv (M := M) r hx h
/-- What results come to. -/
def oneOf (cs : List Value) : Value := match cs with | [c] => c | cs => .tuple cs.toArray
theorem single_rep : ∀ {xs : List AV} {cs : List Value}, RepVs E xs cs → RepV E (single xs) (oneOf cs)
  | [], [], _ => ⟨[], rfl, trivial⟩
  | [x], [c], h => h.1
  | x :: y :: l, c :: e :: m, h => ⟨c :: e :: m, rfl, h⟩
  | [], _ :: _, h => by simp [RepVs] at h
  | _ :: _, [], h => by simp [RepVs] at h
  | [_], _ :: _ :: _, h => by simp [RepVs] at h
  | _ :: _ :: _, [_], h => by simp [RepVs] at h
theorem endK'_inv (hE : Entry E0 foot) (r : RelH G E own H w) (hl : Laid H) (g : Goes E0 w0 E w) {xs : List AV} {cs : List Value} (hx : RepVs E xs cs) {K : AV → Heap → Prop} (h : endK' (propSig M) foot xs H K) :
    ∃ x H' E' own', K x H' ∧ foot ≤ H'.length ∧ RelH G E' own' H' w ∧ RepV E' x (oneOf cs) ∧ Goes E0 w0 E' w := by
  obtain ⟨ks, own1, H1, Pc, h1, r1, hn, _, ⟨l, hpre⟩, hlen, r2, hx2, _, _⟩ := pieceK_inv (M := M) r hl (g.there hE) List.nodup_range hx h
  rw [force1_eq] at h1
  exact ⟨_, _, _, _, h1, by rw [hlen, hpre]; simp, r2, single_rep hx2, g.piece hE r1 hpre⟩
theorem endK_inv (hE : Entry E0 foot) (r : Rel G (fun _ => True) E own ρ H d a w) (g : Goes E0 w0 E w) {keep : Bool} {xs : List AV} {cs : List Value} (hx : RepVs E xs cs) {K : AV → Heap → Prop} (h : endK (propSig M) keep foot xs ρ H K) :
    ∃ x H' E' own', K x H' ∧ foot ≤ H'.length ∧ RelH G E' own' H' w ∧ RepV E' x (oneOf cs) ∧ Goes E0 w0 E' w := by
  unfold endK at h
  cases keep with
  | true => exact endK'_inv (M := M) hE ⟨r.heap, r.ok, r.glob⟩ r.laid g hx h
  | false =>
    obtain ⟨E1, own1, ρ1, H1, xs1, h1, r1, hx1, g1, _⟩ := freezeK_inv (M := M) r hx h
    exact endK'_inv (M := M) hE ⟨r1.heap, r1.ok, r1.glob⟩ r1.laid (g.trans g1) hx1 h1
theorem asAddr_load {t : Nat} {c v : Value} (h : (Instr.loadAt t c).run P w = .ok v w) : (do loadVar t (← asAddr c) : Sem Value).run P w = .ok v w := by
  unfold Instr.loadAt at h
  cases c with
  | pointer p => cases p with
    | some q => exact h
    | none => simp [Instr.sureAddr] at h
  | _ => simp [Instr.sureAddr] at h
theorem resultsK_inv (hT : Agree P X.T) (hG : SubG X.G G) (r : Rel G (fun _ => True) E own ρ H d a w) : ∀ {l : List ResultVar} {K : List AV → Prop}, resultsK (propSig M) X ρ H l K →
    ∃ xs cs, K xs ∧ RepVs E xs cs ∧ (l.mapM (fun | .tmp t => pure (a.tmps.getD t undef) | .cell p t => do loadVar t (← asAddr (a.tmps.getD p undef)) : ResultVar → Sem Value)).run P w = .ok cs w
  | [], K, h => ⟨[], [], h, trivial, rfl⟩
  | .tmp t :: l, K, h => by
    have h : Regs.getK ρ t fun x => resultsK (propSig M) X ρ H l fun xs => K (x :: xs) := h
    rw [Regs.getK_eq] at h
    obtain ⟨xs, cs, h1, h2, h3⟩ := resultsK_inv hT hG r h
    refine ⟨_, _ :: cs, h1, ⟨r.regs t trivial, h2⟩, ?_⟩
    rw [List.mapM_cons]
    simp only [Sem.run_bind, Sem.run_pure, Result.andThen_ok, h3]
  | .cell p t :: l, K, h => by
    have h : Regs.getK ρ p fun q => loadK (propSig M) X t q H fun x => resultsK (propSig M) X ρ H l fun xs => K (x :: xs) := h
    rw [Regs.getK_eq] at h
    obtain ⟨x, v, h0, hv, hr⟩ := load_inv (M := M) r hT hG (r.regs p trivial) h
    obtain ⟨xs, cs, h1, h2, h3⟩ := resultsK_inv hT hG r h0
    refine ⟨_, v :: cs, h1, ⟨hv, h2⟩, ?_⟩
    rw [List.mapM_cons, Sem.run_bind]
    have := asAddr_load hr
    rw [this]
    simp only [Sem.run_bind, Sem.run_pure, Result.andThen_ok, h3]
theorem results_run {fn : Func} {tmps : Array Value} {cs : List Value}
    (h : (fn.results.toList.mapM (fun | .tmp t => pure (tmps.getD t undef) | .cell p t => do loadVar t (← asAddr (tmps.getD p undef)) : ResultVar → Sem Value)).run P w = .ok cs w) :
    (results fn tmps).run P w = .ok (oneOf cs) w := by
  unfold results
  rw [Array.mapM_eq_mapM_toList]
  simp only [Sem.run_bind, Sem.run_map]
  erw [h]
  simp only [Result.andThen_ok, Sem.run_pure]
  match cs with
  | [] => rfl
  | [c] => rfl
  | c :: e :: l => rfl
/-- How a call of a function ends, in the world behind it. -/
def Ends (G : Nat → Option (List Value)) (E0 : Env) (w0 : World) (foot : Nat) (K : Out → Heap → Prop) (e : Ending) (w : World) : Prop :=
  ∃ o H' E' own', K o H' ∧ foot ≤ H'.length ∧ RepOut E' o e ∧ RelH G E' own' H' w ∧ Goes E0 w0 E' w
theorem defers_inv (hE : Entry E0 foot) {fn : Func} {K : Heap → Prop} {Pk : AV → Heap → Prop} {R : Ending → World → Prop} {tmps : Array Value}
    (hK : ∀ {E own H w}, K H → Rel G (fun _ => True) E own ρ H [] ⟨tmps, []⟩ w → Goes E0 w0 E w → Leaves P fn tmps R [] .returning w)
    (hP : ∀ {x v E own H w}, Pk x H → RepV E x v → Rel G (fun _ => True) E own ρ H [] ⟨tmps, []⟩ w → Goes E0 w0 E w → R (.panicked [{ v, recovered := false }]) w) :
    ∀ {D : Dx} {l : List Deferred} {cur : Option AV} {u : FrameMode} {E : Env} {own : Nat → List Nat} {H : Heap} {w : World}, defersK (propSig M) K Pk D cur H →
      Rel G (fun _ => True) E own ρ H D ⟨tmps, l⟩ w → RepMode E cur u → Goes E0 w0 E w → Leaves P fn tmps R l u w
  | [], l, cur, u, E, own, H, w, h, r, hm, g => by
    have hl : l = [] := by
      have := r.defs
      cases l with
      | nil => rfl
      | cons c l => exact this.elim
    subst hl
    cases cur with
    | none => obtain rfl := hm; exact hK h r g
    | some x => obtain ⟨v, rfl, hv⟩ := hm; exact hP h hv r g
  | (f, xs) :: D, l, cur, u, E, own, H, w, h, r, hm, g => by
    cases l with
    | nil => exact r.defs.elim
    | cons c l =>
      obtain ⟨⟨cs, rfl, hx⟩, hd⟩ := r.defs
      have h : pieceK (propSig M) H [] (curAV cur :: xs) fun ks H Pc vs => List.casesOn vs False fun c caps => M.defer f caps Pc (curOf cur c) fun Pc cur' =>
          backK (propSig M) ks H Pc (curAV cur') fun y H => defersK (propSig M) K Pk D (curOf cur' y) H := h
      obtain ⟨cv, hcv, hmode⟩ : ∃ cv, RepV E (curAV cur) cv ∧ (∀ (E : Env) y, RepV E y cv → RepMode E (curOf cur y) u) := by
        cases cur with
        | none => exact ⟨undef, trivial, fun _ _ _ => hm⟩
        | some x => obtain ⟨v, hu, hv⟩ := hm; exact ⟨v, hv, fun _ y hy => ⟨v, hu, hy⟩⟩
      have hu : u ≠ .run := by
        cases cur with
        | none => obtain rfl := hm; nofun
        | some x => obtain ⟨v, rfl, _⟩ := hm; nofun
      obtain ⟨ks, own1, H1, Pc, h1, r1, hn, hthere, _, hlen, r2, hx2, hall, hlen1⟩ := pieceK_inv (M := M) ⟨r.heap, r.ok, r.glob⟩ r.laid (base := []) (by simp) List.nodup_nil (xs := curAV cur :: xs) (cs := cv :: cs) ⟨hcv, hx⟩ h
      have hlt : ∀ k ∈ ks, k < H1.length := fun k hk => lt_of_there r1.heap (hthere k hk)
      have h1 : RunD P G f (renAVs (numbered 0 ks) xs) Pc (curOf cur (renAV (numbered 0 ks) (curAV cur))) fun Pc cur' =>
          backK (propSig M) ks H1 Pc (curAV cur') fun y H => defersK (propSig M) K Pk D (curOf cur' y) H := M.defer_run _ _ _ _ _ h1
      unfold RunD at h1
      obtain ⟨hcall, hD⟩ := h1 _ w _ cs u r2.heap r2.ok r2.glob hall hx2.2 (hmode _ _ hx2.1)
      refine ⟨hu, .func f, cs.toArray, f, cs.toArray, rfl, by simpa [invoke] using hcall, hD.mono fun e u' w' ⟨cur', H', E', own', ⟨v, hv⟩, k1, k2, k3, k4, k5, k6⟩ => ?_⟩
      subst hv
      obtain ⟨cv', hcv', hmode'⟩ : ∃ cv, RepV E' (curAV cur') cv ∧ (∀ (E : Env) y, RepV E y cv → RepMode E (curOf cur' y) (settle u')) := by
        cases cur' with
        | none => exact ⟨undef, trivial, fun _ _ _ => k3⟩
        | some x => obtain ⟨v, hu, hv⟩ := k3; exact ⟨v, hv, fun _ y hy => ⟨v, hu, hy⟩⟩
      obtain ⟨y, H2, E2, own2, m1, m2, m3, m4, m5, _⟩ := backK_inv r1 hn hlt hthere k6 ⟨k4, k5, r2.glob.mono k6.le⟩ hcv' k1
      have r3 : Rel G (fun _ => True) E2 own2 ρ H2 D ⟨tmps, l⟩ w' :=
        ⟨fun r' _ => (r.regs r' trivial).mono m5.le, m2.heap, m2.ok, m2.glob, hd.mono m5.le, m4⟩
      exact defers_inv hE hK hP m1 r3 (hmode' _ _ m3) (g.trans m5)
/-- The end of a function. -/
theorem finK_inv (hE : Entry E0 foot) (hT : Agree P X.T) (hG : SubG X.G G) {fn : Func} (hres : X.results = fn.results.toList) {keep : Bool} {K : Out → Heap → Prop} {cur : Option AV} {u : FrameMode} 
    (h : finK (propSig M) X keep foot K cur ρ H d) (r : Rel G (fun _ => True) E own ρ H d a w) (hm : RepMode E cur u) (g : Goes E0 w0 E w) :
    Leaves P fn a.tmps (Ends G E0 w0 foot K) a.defers u w := by
  unfold finK at h
  refine defers_inv (ρ := ρ) hE (fun {E own H w} hk r g => ?_) (fun {x v E own H w} hk hv r g => ?_) h r hm g
  · rw [hres] at hk
    obtain ⟨xs, cs, h1, h2, h3⟩ := resultsK_inv (M := M) hT hG r hk
    obtain ⟨x, H', E', own', k1, k2, k3, k4, k5⟩ := endK_inv (M := M) hE r g h2 h1
    exact ⟨_, results_run h3, .ret x, H', E', own', k1, k2, k4, k3, k5⟩
  · obtain ⟨x', H', E', own', k1, k2, k3, k4, k5⟩ := endK_inv (M := M) hE r g (xs := [x]) (cs := [v]) ⟨hv, trivial⟩ hk
    exact ⟨.panic x', H', E', own', k1, k2, ⟨v, rfl, k4⟩, k3, k5⟩
/-- How code's ends stand for exits. -/
def RepEx (E : Env) : Ex → Exit → Prop
  | .normal, .normal => True
  | .exit i, .exit j => i = j
  | .ret, .ret => True
  | .panic x, .panic ch => ∃ v, ch = [{ v, recovered := false }] ∧ RepV E x v
  | _, _ => False
theorem exitK_inv (hE : Entry E0 foot) (hT : Agree P X.T) (hG : SubG X.G G) {fn : Func} (hres : X.results = fn.results.toList) {keep : Bool} {K : Out → Heap → Prop} {e : Ex} {x : Exit}
    (h : exitK (propSig M) X keep foot K e ρ H d) (r : Rel G (fun _ => True) E own ρ H d a w) (g : Goes E0 w0 E w) (hx : RepEx E e x) :
    bodyPostD P fn (Ends G E0 w0 foot K) x a w := by
  cases e with
  | normal => cases x <;> first | exact hx.elim | exact finK_inv hE hT hG hres h r rfl g
  | ret => cases x <;> first | exact hx.elim | exact finK_inv hE hT hG hres h r rfl g
  | exit i => exact h.elim
  | panic y => cases x <;> first | exact hx.elim | (obtain ⟨v, rfl, hv⟩ := hx; exact finK_inv hE hT hG hres h r ⟨v, rfl, hv⟩ g)
end
end Am
end Go.Proofs.YtbdnfkmcfencdaaGreatDoor
/- The abstract machine is sound: an operation. No condition. -/
namespace Go.Proofs.YtbdnfkmcfencdaaGreatDoor
namespace Am
open Go

section
variable {P : Program} {G : Nat → Option (List Value)} {M : Md P G} {L : Nat → Prop} {X : Ctx} {E : Env} {own : Nat → List Nat} {ρ : Regs} {H : Heap} {d : Dx} {a : Act} {w : World}
/-- What is asked of the rest behind an operation that has a value. -/
def Next1 (G : Nat → Option (List Value)) (L : Nat → Prop) (E : Env) (w : World) (a : Act) (dst : Option Nat) (K : VK Prop) (next : Act → World → Prop) : Prop :=
  ∀ {x ρ' H' d' E' own' l w' v}, K x ρ' H' d' → Rel G L E' own' ρ' H' d' ⟨a.tmps, l⟩ w' → RepV E' x v → Goes E w E' w' → next (Act.put ⟨a.tmps, l⟩ dst v) w'
/-- And behind one that panics. -/
def Panic1 (G : Nat → Option (List Value)) (L : Nat → Prop) (E : Env) (w : World) (a : Act) (Pk : VK Prop) (Q : Exit → Act → World → Prop) : Prop :=
  ∀ {x ρ' H' d' E' own' w' v}, Pk x ρ' H' d' → Rel G L E' own' ρ' H' d' a w' → RepV E' x v → Goes E w E' w' → Q (.panic [{ v, recovered := false }]) a w'
theorem upon_lands {o : Oper} {K : VK Prop} {next : Act → World → Prop} {Q : Exit → Act → World → Prop} {R : Result Go.Next} (h : Lands G L E a w K R) (hK : Next1 G L E w a o.dst K next) : o.upon P a next Q R := by
  obtain ⟨x, ρ', H', d', E', own', l, w', v, h1, h2, h3, h4, h5⟩ := h
  rcases h5 with ⟨rfl, rfl⟩ | ⟨rfl, rfl, rfl⟩ | ⟨c, rfl, rfl, rfl⟩
  · exact hK h1 h2 h3 h4
  · exact hK h1 h2 h3 h4
  · exact hK h1 h2 h3 h4
theorem upon_called {o : Oper} {K Pk : VK Prop} {next : Act → World → Prop} {Q : Exit → Act → World → Prop} (hK : Next1 G L E w a o.dst K next) (hP : Panic1 G L E w a Pk Q) {f : Nat} {args : Array Value} 
    (h : Called P f args w fun e w' => ∃ out E' own' ρ' H', (match out with | .ret x => K x ρ' H' d | .panic x => Pk x ρ' H' d) ∧ Rel G L E' own' ρ' H' d a w' ∧ RepOut E' out e ∧ Goes E w E' w') :
    o.upon P a next Q ((callFunc f args).run P w) := by
  have key : ∀ e w', (∃ out E' own' ρ' H', (match out with | .ret x => K x ρ' H' d | .panic x => Pk x ρ' H' d) ∧ Rel G L E' own' ρ' H' d a w' ∧ RepOut E' out e ∧ Goes E w E' w') →
      match e with | .returned v => next (a.put o.dst v) w' | .panicked ch => Q (.panic ch) a w' | .outgrown => LetsOut Q := by
    rintro e w' ⟨out, E', own', ρ', H', h1, h2, h3, h4⟩
    cases out with
    | ret x => cases e with
      | returned v => exact hK h1 h2.same h3 h4
      | _ => exact h3.elim
    | panic x => cases e with
      | panicked ch => obtain ⟨v, rfl, hv⟩ := h3; exact hP h1 h2 hv h4
      | _ => exact h3.elim
  unfold Called at h
  split at h
  · rename_i v w' e; rw [e]; exact key _ _ h
  · rename_i g as w' e; rw [e]; exact h.mono fun e w' he => by have := key e w' he; cases e <;> exact this
  · rename_i v w' e; rw [e]; exact key _ _ h
  · exact h.elim
theorem Vis.args {c : Go.Call} {l : Nat → Prop} (h : ∀ x ∈ c.operands, Vis l x) : ∀ x ∈ c.args.toList, Vis l x := fun x hx => h x (by simp [Go.Call.operands] at hx ⊢; exact .inr hx)
theorem panic_upon (r : Rel G L E own ρ H d a w) {o : Oper} {Pk : VK Prop} {next : Act → World → Prop} {Q : Exit → Act → World → Prop} {x : AV} {c : Value} (hx : RepV E x c) (hP : Panic1 G L E w a Pk Q)
    (h : panicV (propSig M) ρ H d Pk x) {f : Value → Go.Next} : o.upon P a next Q ((do pure (f (← Instr.panic c)) : Sem Go.Next).run P w) := by
  have key : ∀ t y, c = .iface t y → Pk x ρ H d → o.upon P a next Q ((do pure (f (← Instr.panic c)) : Sem Go.Next).run P w) := by
    rintro t y rfl h
    exact hP h r hx (.refl E w)
  cases x with
  | iface t y => obtain ⟨z, e, _⟩ := hx; exact key _ _ e h
  | v y => cases y with
    | iface t z => exact key t z hx.2 h
    | _ => exact h.elim
  | _ => exact h.elim
theorem builtin_sound (r : Rel G L E own ρ H d a w) (hT : Agree P X.T) {o : Oper} {c : Go.Call} {b : Builtin} {K Pk : VK Prop} {next : Act → World → Prop} {Q : Exit → Act → World → Prop} {xs : List AV} {vs : Array Value} {cst : Array Bool}
    (hx : RepVs E xs vs.toList) (h : builtinO (propSig M) X ρ H d K b c.argTypes.toList xs Pk) (hK : Next1 G L E w a o.dst K next) (hP : Panic1 G L E w a Pk Q) :
    o.upon P a next Q ((builtin b c.argTypes o.type cst vs).run P w) := by
  unfold builtinO at h
  have toArr : ∀ l : List Value, vs.toList = l → vs = l.toArray := fun l e => by rw [← e]
  split at h
  · rename_i x t _ e
    obtain ⟨v, m, hv, h1, h2⟩ := hx.cons_inv
    obtain rfl := h2.nil_inv
    rw [toArr _ hv]
    exact upon_lands ((len_lands r hT h1 h (by rw [← Array.getElem?_toList, e]; rfl)).lands r) hK
  · rename_i x y t u _ e
    obtain ⟨v, m, hv, h1, h2⟩ := hx.cons_inv
    obtain ⟨v', m', rfl, h3, h4⟩ := h2.cons_inv
    obtain rfl := h4.nil_inv
    rw [toArr _ hv]
    exact upon_lands (append_lands r hT (by rw [← Array.getElem?_toList, e]; rfl) (by rw [← Array.getElem?_toList, e]; rfl) h1 h3 h) hK
  · rename_i x y t _ e
    obtain ⟨v, m, hv, h1, h2⟩ := hx.cons_inv
    obtain ⟨v', m', rfl, h3, h4⟩ := h2.cons_inv
    obtain rfl := h4.nil_inv
    rw [toArr _ hv]
    exact upon_lands (copy_lands r hT (by rw [← Array.getElem?_toList, e]; rfl) h1 h3 h) hK
  · rename_i x y t _ e
    obtain ⟨v, m, hv, h1, h2⟩ := hx.cons_inv
    obtain ⟨v', m', rfl, h3, h4⟩ := h2.cons_inv
    obtain rfl := h4.nil_inv
    rw [toArr _ hv]
    exact upon_lands (delete_lands r hT (by rw [← Array.getElem?_toList, e]; rfl) h1 h3 h) hK
  · rename_i x l _
    obtain ⟨v, m, hv, h1, h2⟩ := hx.cons_inv
    obtain ⟨y, q, h3, h4, h5⟩ := minmax_lands (M := M) (w := w) true h2 h1 h
    refine upon_lands (Lands.value r h3 h4 ?_) hK
    simp only [builtin, Builtin.max_, hv, Sem.run_bind]
    erw [h5]
    rfl
  · rename_i x l _
    obtain ⟨v, m, hv, h1, h2⟩ := hx.cons_inv
    obtain ⟨y, q, h3, h4, h5⟩ := minmax_lands (M := M) (w := w) false h2 h1 h
    refine upon_lands (Lands.value r h3 h4 ?_) hK
    simp only [builtin, Builtin.min_, hv, Sem.run_bind]
    erw [h5]
    rfl
  · rename_i x _
    obtain ⟨v, m, hv, h1, h2⟩ := hx.cons_inv
    obtain rfl := h2.nil_inv
    rw [toArr _ hv]
    exact panic_upon r h1 hP h
  · exact h.elim
theorem call_sound (r : Rel G L E own ρ H d a w) (hT : Agree P X.T) {o : Oper} {c : Go.Call} (ho : o.op = .call c) (hv : ∀ x ∈ c.operands, Vis L x) {K Pk : VK Prop} {next : Act → World → Prop} {Q : Exit → Act → World → Prop}
    (h : callO (propSig M) X ρ H d K c Pk) (hK : Next1 G L E w a o.dst K next) (hP : Panic1 G L E w a Pk Q) : o.upon P a next Q ((execOp a.eval o).run P w) := by
  obtain ⟨xs, h1, hxs⟩ := evalsK_inv r (Vis.args hv) h
  clear h
  simp only [execOp, ho]
  unfold resolve
  cases hc : c.callee with
  | builtin b =>
    rw [hc] at h1
    have hxs' : RepVs E xs (c.args.map a.eval).toList := by simpa using hxs
    exact builtin_sound r hT hxs' h1 hK hP
  | invoke x n => rw [hc] at h1; exact h1.elim
  | value f =>
    rw [hc] at h1
    obtain ⟨u, h2, hu⟩ := evalK_inv r (hv f (by simp [Go.Call.operands, hc])) h1
    cases u with
    | fn g caps =>
      obtain ⟨cs, e, hcs⟩ := hu
      have h2 : appK xs caps fun args => callK (propSig M) X g args ρ H fun out ρ H => match out with
        | .ret x => K x ρ H d
        | .panic x => Pk x ρ H d := h2
      rw [appK_eq] at h2
      have h3 := callK_inv r (hxs.append hcs) h2
      have h4 := upon_called (o := o) (next := next) (Q := Q) hK hP (h3.mono fun e w' ⟨o', E', own', ρ', H', k⟩ => ⟨o', E', own', ρ', H', k⟩)
      simp only [e, Deferred.ofValue]
      have e2 : (c.args.map a.eval ++ cs.toArray) = (List.map a.eval c.args.toList ++ cs).toArray := by
        rw [← Array.toList_inj]; simp
      rw [← e2] at h4
      simp only [Sem.run_bind, Sem.run_pure, Result.andThen_ok, invoke, Array.empty_append]
      exact h4
    | _ => exact h2.elim
theorem defer_sound (r : Rel G L E own ρ H d a w) {o : Oper} {c : Go.Call} (ho : o.op = .defer c) (hv : ∀ x ∈ c.operands, Vis L x) {K : VK Prop} {next : Act → World → Prop} {Q : Exit → Act → World → Prop}
    (h : deferO (propSig M) ρ H d K c) (hK : Next1 G L E w a o.dst K next) : o.upon P a next Q ((execOp a.eval o).run P w) := by
  unfold deferO at h
  simp only [execOp, ho]
  unfold resolve
  cases hc : c.callee with
  | builtin b => rw [hc] at h; exact h.elim
  | invoke x n => rw [hc] at h; exact h.elim
  | value f =>
    rw [hc] at h
    obtain ⟨he, h⟩ := condF h
    obtain ⟨u, h2, hu⟩ := evalK_inv r (hv f (by simp [Go.Call.operands, hc])) h
    cases u with
    | fn g caps =>
      obtain ⟨cs, e, hcs⟩ := hu
      have h2 : K .undef ρ H ((g, caps) :: d) := h2
      have hargs : c.args = #[] := by simpa using he
      simp only [e, Deferred.ofValue, hargs, Array.map_empty, Array.append_empty, Sem.run_bind, Sem.run_pure, Result.andThen_ok]
      exact hK (v := undef) (l := { target := .fn (.func g) cs.toArray, args := #[] } :: a.defers) h2 ⟨r.regs, r.heap, r.ok, r.glob, ⟨⟨cs, rfl, hcs⟩, r.defs⟩, r.laid⟩ trivial (.refl E w)
    | _ => exact h2.elim
/-- An operation. -/
theorem op_sound (r : Rel G L E own ρ H d a w) (hT : Agree P X.T) (hG : SubG X.G G) {o : Oper} (hv : ∀ x ∈ o.op.operands, Vis L x) {K Pk : VK Prop} {next : Act → World → Prop} {Q : Exit → Act → World → Prop}
    (h : opK (propSig M) X o.op K Pk ρ H d) (hK : Next1 G L E w a o.dst K next) (hP : Panic1 G L E w a Pk Q) : o.wp P a w next Q := by
  unfold Oper.wp
  obtain ⟨dst, op, type, pos, after, guard⟩ := o
  cases op with
  | move x => exact upon_lands ((move_lands r (hv x (by simp [Op.operands])) h rfl).lands r) hK
  | assign x => exact upon_lands ((move_lands r (hv x (by simp [Op.operands])) h rfl).lands r) hK
  | pick c x y => exact upon_lands ((pick_lands r (hv c (by simp [Op.operands])) (hv x (by simp [Op.operands])) (hv y (by simp [Op.operands])) h).lands r) hK
  | alloc t => exact upon_lands (alloc_lands r hT h) hK
  | box t x => exact upon_lands (box_lands r (t := t) (hv x (by simp [Op.operands])) h) hK
  | build t ps => exact upon_lands ((build_lands r hT (fun p hp => hv p.2 (by simp [Op.operands]; exact ⟨p.1, by simpa using hp⟩)) h).lands r) hK
  | buildSlice t n ps => exact upon_lands (buildSlice_lands r hT (fun p hp => hv p.2 (by simp [Op.operands]; exact ⟨p.1, by simpa using hp⟩)) h) hK
  | load t x => exact upon_lands ((load_lands r hT hG (hv x (by simp [Op.operands])) h).lands r) hK
  | store t x y => exact upon_lands (store_lands r hT (hv x (by simp [Op.operands])) (hv y (by simp [Op.operands])) h) hK
  | nilCheck x => exact upon_lands ((nilCheck_lands r (hv x (by simp [Op.operands])) h rfl).lands r) hK
  | binOp op t x y u => exact upon_lands ((bin_lands r hT (hv x (by simp [Op.operands])) (hv y (by simp [Op.operands])) h).lands r) hK
  | unOp op t x => exact upon_lands ((un_lands r (hv x (by simp [Op.operands])) h).lands r) hK
  | convert s t x => exact upon_lands ((convert_lands r hT (hv x (by simp [Op.operands])) h).lands r) hK
  | makeInterface t x => exact upon_lands ((iface_lands r hT (hv x (by simp [Op.operands])) h).lands r) hK
  | makeFunc f first caps => exact upon_lands ((func_lands r (fun x hx => hv x (by simp [Op.operands]; exact .inr (by simpa using hx))) h).lands r) hK
  | makeMap t x => exact upon_lands (makeMap_lands r hT (fun y hy => hv y (by simp [Op.operands, hy])) h) hK
  | makeSlice t x y => exact upon_lands (makeSlice_lands r hT (hv x (by simp [Op.operands])) (hv y (by simp [Op.operands])) h) hK
  | slice t x lo hi mx => exact upon_lands ((slice_lands r hT (hv x (by simp [Op.operands])) (fun y hy => hv y (by simp [Op.operands, hy])) (fun y hy => hv y (by simp [Op.operands, hy])) (fun y hy => hv y (by simp [Op.operands, hy])) h).lands r) hK
  | fieldAddr t x f => exact upon_lands ((fieldAddr_lands r hT (hv x (by simp [Op.operands])) h).lands r) hK
  | field t x f => exact upon_lands ((field_lands r hT (hv x (by simp [Op.operands])) h).lands r) hK
  | indexAddr t x y => exact upon_lands ((indexAddr_lands r hT (hv x (by simp [Op.operands])) (hv y (by simp [Op.operands])) h).lands r) hK
  | index t x y => exact upon_lands ((index_lands r hT (hv x (by simp [Op.operands])) (hv y (by simp [Op.operands])) h).lands r) hK
  | lookup t x y ok => exact upon_lands ((lookup_lands r hT (hv x (by simp [Op.operands])) (hv y (by simp [Op.operands])) h).lands r) hK
  | mapUpdate t m k x => exact upon_lands (mapUpdate_lands r hT (hv m (by simp [Op.operands])) (hv k (by simp [Op.operands])) (hv x (by simp [Op.operands])) h) hK
  | insert t m k x => exact upon_lands (mapUpdate_lands r hT (hv m (by simp [Op.operands])) (hv k (by simp [Op.operands])) (hv x (by simp [Op.operands])) h) hK
  | range t x => exact upon_lands (range_lands r hT (hv x (by simp [Op.operands])) h) hK
  | next x s => exact upon_lands (next_lands r (hv x (by simp [Op.operands])) h) hK
  | typeAssert x t u ok => exact upon_lands ((typeAssert_lands r hT (hv x (by simp [Op.operands])) h).lands r) hK
  | extract x n => exact upon_lands ((extract_lands r (hv x (by simp [Op.operands])) h).lands r) hK
  | call c => exact call_sound r hT rfl hv h hK hP
  | defer c => exact defer_sound r rfl hv h hK
  | panic x =>
    obtain ⟨y, h1, hy⟩ := evalK_inv r (hv x (by simp [Op.operands])) h
    exact panic_upon r hy hP h1
  | _ => exact h.elim
/-- New memory that is not written again. -/
theorem Rel.newPure (r : Rel G L E own ρ H d a w) {z : Nat} {es : List (List AV)} {arr : Array Value} (T : TypeId) (fr : Nat × Nat) (cap : Nat) (hc : es.length ≤ cap) (hp : pureEs es = true) (hr : RepEs E z es arr.toList) :
    ∃ E', Rel G L E' own ρ H d a (push w (.cells arr T fr)) ∧ RepV E' (.imm z es) (.slice (some ⟨w.heap.size, 0, none⟩) es.length cap) ∧ Goes E w E' (push w (.cells arr T fr)) := by
  have hn : E.Γ w.heap.size = none := by
    cases h : E.Γ w.heap.size with
    | none => rfl
    | some o => have := r.ok.mem _ _ h; rw [Array.getElem?_eq_none (Nat.le_refl _)] at this; cases this
  let E' : Env := { E with Γ := fun b => if b = w.heap.size then some (.cells arr T fr) else E.Γ b, im := fun b => b = w.heap.size ∨ E.im b }
  have hle : E.Le E' := ⟨fun b o h => by
    have : b ≠ w.heap.size := fun e => by rw [e, hn] at h; cases h
    show (if b = w.heap.size then _ else E.Γ b) = _
    rw [if_neg this]; exact h, fun b h => .inr h, fun k _ => ⟨rfl, rfl, rfl, rfl⟩⟩
  have r' := r.world (beside_push w (.cells arr T fr)) (push_old w (.cells arr T fr))
  have hok : E'.Ok (push w (.cells arr T fr)) := ⟨fun b o h => by
    have h2 : (if b = w.heap.size then some (Obj.cells arr T fr) else E.Γ b) = some o := h
    clear h
    split at h2
    · rename_i e; subst e; rw [← h2]; exact push_new _ _
    · exact r'.ok.mem b o h2, fun b h => by
    show (if b = w.heap.size then some (Obj.cells arr T fr) else E.Γ b) ≠ none
    split
    · nofun
    · rename_i hb; exact r.ok.im b (h.resolve_left hb), fun b o h => by
    have h2 : (if b = w.heap.size then some (Obj.cells arr T fr) else E.Γ b) = some o := h
    split at h2
    · cases h2; rfl
    · exact r.ok.norec b o h2⟩
  have hh : RepH E' (push w (.cells arr T fr)) H own := by
    refine ⟨fun k o e => (r'.heap.obj k o e).frame' hle (fun h => h) fun _ _ => rfl, r'.heap.beyond, r'.heap.nodup, r'.heap.apart, fun k b hb => ⟨?_, (r'.heap.free k b hb).2⟩⟩
    have hlt := (r.heap.free k b hb).2
    show (if b = w.heap.size then _ else E.Γ b) = none
    rw [if_neg (by omega)]
    exact (r.heap.free k b hb).1
  refine ⟨E', r'.env hle hh hok r.laid, ⟨_, cap, rfl, hc, .inr ⟨w.heap.size, 0, arr, T, fr, rfl, .inl rfl, by simp [E'], hp, by simpa using hr.mono hle⟩⟩, hle, fun b hb => ?_, beside_push _ _⟩
  rcases hb with rfl | hb
  · exact .inr hn
  · exact .inl hb
theorem byteCells_rep1 (E : Env) : ∀ (l : List UInt8) (m : List Value), pureEs (l.map fun b => [AV.v (.int .u8 b.toNat)]) = true ∧ RepEs E 1 (l.map fun b => [AV.v (.int .u8 b.toNat)]) (l.map (fun b => Value.int .u8 b.toNat) ++ m)
  | [], m => ⟨rfl, by simp [RepEs]⟩
  | b :: l, m => by
    obtain ⟨h1, h2⟩ := byteCells_rep1 E l m
    refine ⟨by simp only [List.map_cons, pureEs, h1]; rfl, ?_⟩
    simp only [List.map_cons, RepEs, List.cons_append]
    exact ⟨rfl, ⟨⟨rfl, rfl⟩, trivial⟩, by simpa using h2⟩
theorem bytes_lands (r : Rel G L E own ρ H d a w) {K : VK Prop} {src dst e : Nat} {i j k : TI} (hi : TIs P src i) (hj : TIs P dst j) (hk : TIs P e k) (hje : j.und = .slice e) {x : Operand} (hx : Vis L x)
    (h : bytesO (propSig M) i k x ρ H d K) : Lands G L E a w K ((do pure (.value (← convert src dst (a.eval x))) : Sem Go.Next).run P w) := by
  unfold bytesO at h
  split at h
  · rename_i hu1 hu2
    obtain ⟨y, h1, hy⟩ := evalK_inv r hx h
    split at h1
    · rename_i s
      obtain ⟨_, hs⟩ := hy
      rw [spineK_eq] at h1
      obtain ⟨du, hdu, _, hund, _⟩ := hi.und
      obtain rfl := utOf_string (hund.symm.trans hu1)
      obtain ⟨dd, hdd, _, hundd, _⟩ := hj.und
      obtain rfl := utOf_slice (hundd.symm.trans hje)
      obtain ⟨dk, hdk, _, hundk, _⟩ := hk.und
      obtain rfl := utOf_int (hundk.symm.trans hu2)
      have hrun := Lib.run_convert_string_bytes (P := P) w src dst e s hdu hdd hdk
      have hw : Lib.bytesWorld w e s = { push w (.cells (Lib.bytesCells w e s) e ((Lib.bytesCells w e s).size, (Lib.bytesCells w e s).size + 1)) with drawn := (Lib.bytesWorld w e s).drawn } := by
        have hm : ∀ (b : Array Obj) (u : Obj) (f : Obj → Obj), (b.push u).modify b.size f = b.push (f u) := by
          intro b u f
          apply Array.ext
          · simp
          · intro i h1 h2
            simp only [Array.getElem_modify, Array.getElem_push]
            by_cases h : b.size = i
            · subst h; simp
            · have hi : i < b.size := by simp at h1; omega
              simp [h, hi]
        unfold Lib.bytesWorld World.freeze
        rw [if_neg (by decide)]
        show ({ w.drew.alloc (.cells (Lib.bytesCells w e s) e) with heap := (w.heap.push (.cells (Lib.bytesCells w e s) e)).modify w.heap.size _ } : World) = _
        rw [hm]
        rfl
      obtain ⟨hp, hr⟩ := byteCells_rep1 E s.data.toList (List.replicate (grownCap w s.size 0 e - s.size) (Value.int .u8 0))
      have hlen : (byteCells s).length = s.size := by simp [byteCells]
      obtain ⟨E', r', hv, hg⟩ := r.newPure (z := 1) (es := byteCells s) (arr := Lib.bytesCells w e s) e ((Lib.bytesCells w e s).size, (Lib.bytesCells w e s).size + 1) (grownCap w s.size 0 e) (by rw [hlen]; exact grownCap_ge w s.size 0 e) hp (by
        have : (Lib.bytesCells w e s).toList = s.data.toList.map (fun b => Value.int .u8 b.toNat) ++ List.replicate (grownCap w s.size 0 e - s.size) (Value.int .u8 0) := by simp [Lib.bytesCells]
        rw [this]; exact hr)
      rw [hlen] at hv
      have rw' := r'.world (w' := Lib.bytesWorld w e s) (by rw [hw]; exact ⟨rfl, rfl, rfl, Nat.le_refl _, fun _ _ h _ => h⟩) (fun b _ => by rw [hw])
      refine ⟨_, ρ, H, d, E', own, a.defers, _, _, h1, rw'.same, hv, ⟨hg.le, hg.new, hg.beside.trans (by rw [hw]; exact ⟨rfl, rfl, rfl, Nat.le_refl _, fun _ _ h _ => h⟩)⟩, .inl ⟨?_, rfl⟩⟩
      rw [hs, Sem.run_bind, hrun]
      rfl
    · exact h1.elim
  · exact h.elim
/-- An operation, where its region has the order of its text. -/
theorem op1_sound (r : Rel G L E own ρ H d a w) (hT : Agree P X.T) (hG : SubG X.G G) {o : Oper} (hv : ∀ x ∈ o.op.operands, Vis L x) {K Pk : VK Prop} {next : Act → World → Prop} {Q : Exit → Act → World → Prop}
    (h : opK1 (propSig M) X o.op K Pk ρ H d) (hK : Next1 G L E w a o.dst K next) (hP : Panic1 G L E w a Pk Q) : o.wp P a w next Q := by
  have plain : opK (propSig M) X o.op K Pk ρ H d → o.wp P a w next Q := fun h => op_sound r hT hG hv h hK hP
  obtain ⟨dst, op, type, pos, after, guard⟩ := o
  cases op with
  | convert s t x =>
    have h : tiK (propSig M) X t fun j => match j.und with
      | .slice e => tiK (propSig M) X s fun i => tiK (propSig M) X e fun k => bytesO (propSig M) i k x ρ H d K
      | _ => opK (propSig M) X (.convert s t x) K Pk ρ H d := h
    obtain ⟨j, h1, hj⟩ := tiK_inv hT h
    split at h1
    · rename_i e hje
      obtain ⟨i, h2, hi⟩ := tiK_inv hT h1
      obtain ⟨k, h3, hk⟩ := tiK_inv hT h2
      exact upon_lands (bytes_lands r hi hj hk hje (hv x (by simp [Op.operands])) h3) hK
    · exact plain h1
  | _ => exact plain h
end
end Am
end Go.Proofs.YtbdnfkmcfencdaaGreatDoor
/- The abstract machine is sound: regions in the order of their text. No condition. -/
namespace Go.Proofs.YtbdnfkmcfencdaaGreatDoor
namespace Am
open Go

section
variable {P : Program} {G : Nat → Option (List Value)} {M : Md P G} {L : Nat → Prop} {X : Ctx} {E E0 : Env} {own : Nat → List Nat} {ρ : Regs} {H : Heap} {d : Dx} {a : Act} {w w0 : World} {foot n : Nat}
theorem Regs.get_put (ρ : Regs) (dst : Option Nat) (x : AV) (r : Nat) : (ρ.put dst x).get r = if dst = some r then x else ρ.get r := by
  cases dst with
  | none => simp [Regs.put]
  | some s => simp [Regs.put, Regs.get]
theorem put_tmps (a : Act) (dst : Option Nat) (v : Value) (r : Nat) (h : ∀ s, dst = some s → s < a.tmps.size) : (a.put dst v).tmps.getD r undef = if dst = some r then v else a.tmps.getD r undef := by
  cases dst with
  | none => simp [Act.put]
  | some s =>
    simp only [Act.put, Option.some.injEq]
    split
    · rename_i e; subst e
      simp [Array.getD, h s rfl]
    · rename_i e
      simp only [Array.getD_eq_getD_getElem?, Array.getElem?_setIfInBounds_ne e]
theorem put_size (a : Act) (dst : Option Nat) (v : Value) : (a.put dst v).tmps.size = a.tmps.size := by cases dst <;> simp [Act.put]
theorem put_defers (a : Act) (dst : Option Nat) (v : Value) : (a.put dst v).defers = a.defers := by cases dst <;> rfl
theorem Rel.put (r : Rel G L E own ρ H d a w) {dst : Option Nat} {x : AV} {v : Value} (hd : ∀ s, dst = some s → s < a.tmps.size) (hx : RepV E x v) : Rel G L E own (ρ.put dst x) H d (a.put dst v) w := by
  refine ⟨fun s hs => ?_, r.heap, r.ok, r.glob, by rw [put_defers]; exact r.defs, r.laid⟩
  rw [Regs.get_put, put_tmps a dst v s hd]
  split
  · exact hx
  · exact r.regs s hs
theorem Rel.refine (r : Rel G L E own ρ H d a w) {s : Nat} {x : AV} (hx : RepV E x (a.tmps.getD s undef)) : Rel G L E own (.cons s x ρ) H d a w := by
  refine ⟨fun t ht => ?_, r.heap, r.ok, r.glob, r.defs, r.laid⟩
  simp only [Regs.get]
  split
  · rename_i e; subst e; exact hx
  · exact r.regs t ht
theorem dstK_eq {β : Type} (ops : List Oper) (j : Nat) (F : β) (K : Nat → β) : dstK ops j F K = match (ops[j]?).bind (·.dst) with | some r => K r | none => F := by
  unfold dstK
  rw [getK_eq]
  cases h : ops[j]? with
  | none => rfl
  | some o => simp only [Option.bind_some]; cases o.dst <;> rfl
/-- The registers that a guard looks at. -/
def guardSees (ops : Array Oper) (g : Option (Nat × Bool)) (L : Nat → Prop) : Prop := ∀ j want r, g = some (j, want) → (ops[j]?).bind (·.dst) = some r → L r
theorem guard_inv (r : Rel G L E own ρ H d a w) {ops : Array Oper} {o : Oper} (hs : guardSees ops o.guard L) {yes no : Regs → Prop} (h : guardK (propSig M) ops.toList o.guard yes no ρ) :
    (Region.wanted o (yielded ops a.tmps) = true ∧ ∃ ρ', yes ρ' ∧ Rel G L E own ρ' H d a w) ∨ (Region.wanted o (yielded ops a.tmps) = false ∧ ∃ ρ', no ρ' ∧ Rel G L E own ρ' H d a w) := by
  unfold guardK at h
  cases hg : o.guard with
  | none =>
    rw [hg] at h
    exact .inl ⟨by simp [Region.wanted, hg], ρ, h, r⟩
  | some p =>
    obtain ⟨j, want⟩ := p
    rw [hg] at h
    simp only at h
    rw [dstK_eq, Array.getElem?_toList] at h
    cases hj : (ops[j]?).bind (·.dst) with
    | none =>
      rw [hj] at h
      exact .inr ⟨by simp [Region.wanted, hg, yielded, hj], ρ, h, r⟩
    | some s =>
      rw [hj] at h
      simp only at h
      rw [Regs.getK_eq] at h
      have hL := hs j want s hg hj
      have hrep := r.regs s hL
      split at h
      · rename_i b e
        rw [e] at hrep
        obtain ⟨_, hv⟩ := hrep
        have hy : yielded ops a.tmps j = some b := by
          unfold yielded
          rw [hj]
          simp only [Option.bind_some]
          have : a.tmps[s]? = some (.bool b) := by
            rw [Array.getD_eq_getD_getElem?] at hv
            cases ht : a.tmps[s]? with
            | none => rw [ht] at hv; simp [undef] at hv
            | some v => rw [ht] at hv; simp at hv; rw [hv]
          rw [this]
        have hw : Region.wanted o (yielded ops a.tmps) = (b == want) := by simp [Region.wanted, hg, hy]
        have hr' : Rel G L E own (.cons s (.v (.bool b)) ρ) H d a w := r.refine (by rw [hv]; exact ⟨rfl, rfl⟩)
        cases b <;> cases want
        · exact .inl ⟨by rw [hw]; rfl, _, h, hr'⟩
        · exact .inr ⟨by rw [hw]; rfl, _, h, hr'⟩
        · exact .inr ⟨by rw [hw]; rfl, _, h, hr'⟩
        · exact .inl ⟨by rw [hw]; rfl, _, h, hr'⟩
      · rename_i l e
        rw [e] at hrep
        obtain ⟨xs, hv, _⟩ := hrep
        have hy : yielded ops a.tmps j = none := by
          unfold yielded
          rw [hj]
          simp only [Option.bind_some]
          rw [Array.getD_eq_getD_getElem?] at hv
          cases ht : a.tmps[s]? with
          | none => rfl
          | some v => rw [ht] at hv; simp at hv; rw [hv]
        exact .inr ⟨by simp [Region.wanted, hg, hy], ρ, h, r⟩
      · exact h.elim
/-- What code comes to is what is asked. -/
def Good (G : Nat → Option (List Value)) (E0 : Env) (w0 : World) (n : Nat) (K : EK Prop) (Q : Exit → Act → World → Prop) : Prop :=
  ∀ {e x ρ H d E own a w}, K e ρ H d → Rel G (fun _ => True) E own ρ H d a w → Goes E0 w0 E w → n ≤ a.tmps.size → RepEx E e x → Q x a w
def dstFits (n : Nat) (o : Oper) : Bool := match o.dst with | some r => Nat.blt r n | none => true
theorem dstFits_lt {o : Oper} (h : dstFits n o = true) (ha : n ≤ a.tmps.size) : ∀ s, o.dst = some s → s < a.tmps.size := fun s e => by
  unfold dstFits at h
  rw [e] at h
  have h : Nat.blt s n = true := h
  have h2 : s < n := by simpa [Nat.blt_eq] using h
  exact Nat.lt_of_lt_of_le h2 ha
theorem undef_rep {E : Env} : RepV E (.tup []) undef := ⟨[], rfl, trivial⟩
theorem ops_sound (hT : Agree P X.T) (hG : SubG X.G G) {ops : Array Oper} {K : EK Prop} {Q : Exit → Act → World → Prop} (hQ : Good G E0 w0 n K Q) : ∀ {l : List Oper} {ρ : Regs} {H : Heap} {d : Dx} {E : Env} {own : Nat → List Nat} {a : Act} {w : World},
    (∀ o ∈ l, dstFits n o = true) → opsK (propSig M) X ops.toList K l ρ H d → Rel G (fun _ => True) E own ρ H d a w → Goes E0 w0 E w → n ≤ a.tmps.size → wpList P ops Q l a w
  | [], ρ, H, d, E, own, a, w, _, h, r, g, ha => hQ h r g ha trivial
  | o :: l, ρ, H, d, E, own, a, w, hf, h, r, g, ha => by
    have hfo := hf o (by simp)
    have h : guardK (propSig M) ops.toList o.guard
      (fun ρ => opK1 (propSig M) X o.op (fun x ρ H d => opsK (propSig M) X ops.toList K l (ρ.put o.dst x) H d) (fun x => K (.panic x)) ρ H d)
      (fun ρ => opsK (propSig M) X ops.toList K l (ρ.put o.dst (.tup [])) H d) ρ := h
    unfold wpList
    rcases guard_inv r (fun _ _ _ _ _ => trivial) h with ⟨hw, ρ', h1, r1⟩ | ⟨hw, ρ', h1, r1⟩
    · rw [if_pos hw]
      refine .inl (op1_sound r1 hT hG (fun x _ => by cases x <;> trivial) h1 (fun {x ρ2 H2 d2 E2 own2 l2 w2 v} k1 k2 k3 k4 => ?_) (fun {x ρ2 H2 d2 E2 own2 w2 v} k1 k2 k3 k4 => ?_))
      · refine ops_sound hT hG hQ (fun o ho => hf o (by simp [ho])) k1 (k2.put (dstFits_lt hfo ha) k3) (g.trans k4) ?_
        rw [put_size]; exact ha
      · exact hQ k1 k2 (g.trans k4) ha ⟨v, rfl, k3⟩
    · rw [if_neg (by simp [hw])]
      exact ops_sound hT hG hQ (fun o ho => hf o (by simp [ho])) h1 (r1.put (dstFits_lt hfo ha) undef_rep) g (by rw [put_size]; exact ha)
end
end Am
end Go.Proofs.YtbdnfkmcfencdaaGreatDoor
