/- The abstract machine is sound: regions that draw their order. No condition. -/
import Derived.Test.YtbdnfkmcfencdaaGreatDoorAmc
import Derived.Recover
import Derived.KernelRfl
namespace Go.Proofs.YtbdnfkmcfencdaaGreatDoor
namespace Am
open Go

section
variable {P : Program} {G : Nat → Option (List Value)} {M : Md P G} {X : Ctx} {E E0 : Env} {own : Nat → List Nat} {ρ : Regs} {H : Heap} {d : Dx} {a : Act} {w w0 : World} {ops : Array Oper} {n : Nat} {ord done rest : List (Nat × Option (List Nat))} {tail : List Nat} {K : EK Prop} {l : Array Bool}
theorem ready_of {i : Nat} {o : Oper} (hl : l.size = ops.size) (hi : ops.toList[i]? = some o) (hli : ¬ lis l i) (hp : ∀ p ∈ predsAt ops.toList i, lis l p) : i ∈ Region.ready .any ops l := by
  have hlt := ops_lt hi
  have hio : ops[i]? = some o := by simpa using hi
  unfold Region.ready
  simp only [List.mem_filter, List.mem_range]
  refine ⟨hlt, ?_⟩
  have h1 : l.getD i true = false := by
    unfold lis at hli
    rw [Array.getD_eq_getD_getElem?] at hli ⊢
    rw [Array.getElem?_eq_getElem (by omega)] at hli ⊢
    simpa using hli
  rw [h1, hio]
  simp only [Bool.not_false, Option.map_some, Option.getD_some, Bool.true_and]
  rw [Array.all_eq_true_iff_forall_mem]
  intro e he
  cases hb : Region.binds .any e with
  | false => simp
  | true =>
    have : e.on ∈ predsAt ops.toList i := by
      unfold predsAt predsOf
      rw [hi]
      simp only [List.mem_map, List.mem_filter]
      exact ⟨e, ⟨by simpa using he, hb⟩, rfl⟩
    have := hp e.on this
    unfold lis at this
    simp [this]
theorem ready_inv {i : Nat} (h : i ∈ Region.ready .any ops l) : ∃ o, ops.toList[i]? = some o ∧ ¬ lis l i ∧ ∀ p ∈ predsAt ops.toList i, lis l p := by
  unfold Region.ready at h
  simp only [List.mem_filter, List.mem_range, Bool.and_eq_true, Bool.not_eq_true'] at h
  obtain ⟨hlt, h1, h2⟩ := h
  have hio : ops[i]? = some ops[i] := Array.getElem?_eq_getElem hlt
  rw [hio] at h2
  simp only [Option.map_some, Option.getD_some] at h2
  rw [Array.all_eq_true_iff_forall_mem] at h2
  refine ⟨ops[i], by simp [hio], fun hl => ?_, fun p hp => ?_⟩
  · unfold lis at hl
    rw [Array.getD_eq_getD_getElem?] at h1 hl
    cases hx : l[i]? with
    | none => rw [hx] at hl; simp at hl
    | some b => rw [hx] at h1 hl; simp at h1 hl; rw [h1] at hl; cases hl
  · unfold predsAt predsOf at hp
    rw [show ops.toList[i]? = some ops[i] by simp [hio]] at hp
    simp only [List.mem_map, List.mem_filter] at hp
    obtain ⟨e, ⟨he, hb⟩, rfl⟩ := hp
    have := h2 e (by simpa using he)
    rw [hb] at this
    simpa [lis] using this
theorem all_listed (ho : Order ops.toList n ord tail) (hl : l.size = ops.size) (hr : Region.ready .any ops l = []) : ∀ (A B : List (Nat × Option (List Nat))), ord = B ++ A → (∀ j ∈ B.map (·.1), lis l j) → ∀ j ∈ ord.map (·.1), lis l j
  | [], B, e, h => by rw [e]; simpa using h
  | (i, fl) :: A, B, e, h => by
    obtain ⟨o, it⟩ := ho.item B A i fl e
    have hi : lis l i := by
      apply Classical.byContradiction
      intro hli
      have := ready_of hl it.at_ hli fun p hp => h p (it.preds p (by unfold predsAt at hp; rw [it.at_] at hp; exact hp))
      rw [hr] at this; cases this
    refine all_listed ho hl hr A (B ++ [(i, fl)]) (by rw [e]; simp) fun j hj => ?_
    simp only [List.map_append, List.map_cons, List.map_nil, List.mem_append, List.mem_singleton] at hj
    rcases hj with hj | rfl
    · exact h j hj
    · exact hi
theorem SimE.ended (s : SimE M X ops n ord K E0 w0 l a w) (ho : Order ops.toList n ord tail) (hall : ∀ j ∈ ord.map (·.1), lis l j) {Q : Exit → Act → World → Prop} (hQ : Good G E0 w0 n K Q) : Q .normal a w := by
  obtain ⟨done, rest, ρ, H, d, E, own, s⟩ := s
  have hrest : rest = [] := by
    cases rest with
    | nil => rfl
    | cons p rest =>
      exfalso
      have hnd := ho.nodup
      have hp : p.1 ∈ done.map (·.1) := s.sub p.1 (hall p.1 (by rw [s.split]; simp))
      rw [s.split] at hnd
      simp only [List.map_append, List.map_cons, List.nodup_append] at hnd
      exact hnd.2.2 p.1 hp p.1 (by simp) rfl
  subst hrest
  exact hQ (x := .normal) s.run (s.rel.less fun t _ ⟨j, hj, h1, _⟩ => h1 (hall j (s.done_ord hj))) s.goes s.tsize trivial
theorem Sim.advs (hT : Agree P X.T) (ho : Order ops.toList n ord tail) {i : Nat} {fl : Option (List Nat)} {R2 : List (Nat × Option (List Nat))} (hp : ∀ p ∈ predsAt ops.toList i, lis l p) : ∀ (R1 : List (Nat × Option (List Nat))) {done : List (Nat × Option (List Nat))} {ρ : Regs} {H : Heap},
    Sim M X ops n ord K E0 w0 done (R1 ++ (i, fl) :: R2) l ρ H d a w E own → ∃ ρ' H', Sim M X ops n ord K E0 w0 (done ++ R1) ((i, fl) :: R2) l ρ' H' d a w E own
  | [], done, ρ, H, s => ⟨ρ, H, by simpa using s⟩
  | p :: R1, done, ρ, H, s => by
    have hnd := ho.nodup
    rw [s.split] at hnd
    simp only [List.map_append, List.nodup_append] at hnd
    have hpd : ¬ lis l p.1 := fun h => hnd.2.2 p.1 (s.sub p.1 h) p.1 (by simp) rfl
    obtain ⟨ρ', H', s'⟩ := s.adv hT ho (fun o hio => by
      obtain ⟨o', it⟩ := Sim.item_head s ho
      have e : o' = o := by have := it.at_; rw [hio] at this; cases this; rfl
      subst e
      cases hc : lagC (clsOf o'.op) with
      | true => rfl
      | false =>
        exfalso
        exact hpd ((it.eff hc).1 i (by simp) (lis l) s.closed hp)) hpd
    obtain ⟨ρ2, H2, s2⟩ := Sim.advs hT ho hp R1 s'
    exact ⟨ρ2, H2, by simpa using s2⟩
theorem SimE.step (hT : Agree P X.T) (hG : SubG X.G G) (s : SimE M X ops n ord K E0 w0 l a w) (ho : Order ops.toList n ord tail) {i : Nat} (hor : i ∈ ord.map (·.1)) (hi : i ∈ Region.ready .any ops l) {Kn : Act → World → Prop} {Q : Exit → Act → World → Prop}
    (hK : ∀ a' w', SimE M X ops n ord K E0 w0 (l.setIfInBounds i true) a' w' → Kn a' w') (hQ : Good G E0 w0 n K Q) : wpOp P ops Q i Kn a w := by
  obtain ⟨o, hio, hli, hp⟩ := ready_inv hi
  obtain ⟨done, rest, ρ, H, d, E, own, s⟩ := s
  by_cases hd : i ∈ done.map (·.1)
  · exact s.land hT hG ho hd hio hp hli hK
  · rw [s.split] at hor
    simp only [List.map_append, List.mem_append] at hor
    obtain ⟨⟨i', fl⟩, hm, rfl⟩ := List.mem_map.1 (hor.resolve_left hd)
    obtain ⟨R1, R2, hR⟩ := List.append_of_mem hm
    rw [hR] at s
    obtain ⟨ρ1, H1, s1⟩ := Sim.advs hT ho hp R1 s
    obtain ⟨o', it⟩ := s1.item_head ho
    have : o' = o := by have := it.at_; rw [hio] at this; cases this; rfl
    subst this
    cases hc : lagC (clsOf o'.op) with
    | true =>
      obtain ⟨ρ2, H2, s2⟩ := s1.adv hT ho (fun q hq => by rw [hio] at hq; cases hq; exact hc) hli
      exact s2.land hT hG ho (by simp) hio hp hli hK
    | false =>
      cases fl with
      | none => exact s1.effNone hT hG it hc hp hK hQ
      | some fl => exact s1.effSome hT ho it hc hp hK hQ
theorem countP_lt {α : Type} {p q : α → Bool} : ∀ {l : List α}, (∀ x ∈ l, q x = true → p x = true) → (∃ x ∈ l, p x = true ∧ q x = false) → l.countP q < l.countP p
  | [], _, h => by obtain ⟨x, hx, _⟩ := h; cases hx
  | y :: l, h, hx => by
    rw [List.countP_cons, List.countP_cons]
    have hle : l.countP q ≤ l.countP p := List.countP_mono_left fun x hx => h x (by simp [hx])
    obtain ⟨x, hx, h1, h2⟩ := hx
    rcases List.mem_cons.1 hx with rfl | hx
    · simp only [h1, h2, if_true, Bool.false_eq_true, if_false]; omega
    · have := countP_lt (l := l) (fun x hx => h x (by simp [hx])) ⟨x, hx, h1, h2⟩
      have hy := h y (by simp)
      cases hq : q y <;> cases hp : p y
      · simp; omega
      · simp; omega
      · rw [hy hq] at hp; cases hp
      · simp; omega
def unl (ops : Array Oper) (l : Array Bool) : Nat := (List.range ops.size).countP fun i => !l.getD i false
theorem wpOp_then {S : Act → World → Prop} {Q : Exit → Act → World → Prop} {i : Nat} {Kn : Act → World → Prop} (h : wpOp P ops (Exit.then S Q) i Kn a w) : wpOp P ops Q i Kn a w := by
  unfold wpOp at *
  split
  · rename_i e; rw [e] at h; exact h
  · rename_i o e
    rw [e] at h
    simp only at h
    split
    · rename_i hw
      rw [if_pos hw] at h
      refine h.imp (fun h => ?_) fun h => h
      unfold Oper.wp at *
      generalize (execOp a.eval o).run P w = r at *
      cases r with
      | ok x w' =>
        cases x <;> first | exact h | exact Calls.mono h fun e w'' he => by cases e <;> exact he
      | halt x w' => cases x <;> exact h
    · rename_i hw; rw [if_neg hw] at h; exact h
theorem unl_set {i : Nat} {o : Oper} (hls : l.size = ops.size) (hio : ops.toList[i]? = some o) (hli : ¬ lis l i) : unl ops (l.setIfInBounds i true) < unl ops l := by
  have hil : i < l.size := by rw [hls]; exact ops_lt hio
  refine countP_lt (fun j _ hj => ?_) ⟨i, by simpa using ops_lt hio, by simpa [lis] using hli, ?_⟩
  · have h1 : ¬ lis (l.setIfInBounds i true) j := by simpa [lis] using hj
    have h2 : ¬ lis l j := fun h => h1 ((lis_set hil).2 (.inr h))
    simpa [lis] using h2
  · have : lis (l.setIfInBounds i true) i := (lis_set hil).2 (.inl rfl)
    simpa [lis] using this
theorem unl_pos {i : Nat} (hi : i < ops.size) (hli : ¬ lis l i) : 0 < unl ops l := by
  unfold unl
  rw [List.countP_pos_iff]
  exact ⟨i, by simpa using hi, by simpa [lis] using hli⟩
theorem SimE.main (hT : Agree P X.T) (hG : SubG X.G G) (ho : Order ops.toList n ord tail) {S : Act → World → Prop} {Q : Exit → Act → World → Prop} (hQ : Good G E0 w0 n K (Exit.then S Q))
    (htail : ∀ (fuel : Nat) (l : Array Bool) (a : Act) (w : World), (∀ j ∈ ord.map (·.1), lis l j) → (∀ j ∈ tail, ¬ lis l j) → l.size = ops.size → S a w → unl ops l ≤ fuel → wpAny P .any ops Q fuel l a w) :
    ∀ (fuel : Nat) {l : Array Bool} {a : Act} {w : World}, SimE M X ops n ord K E0 w0 l a w → unl ops l ≤ fuel → wpAny P .any ops Q fuel l a w
  | fuel, l, a, w, s, hf => by
    have hls : l.size = ops.size := by obtain ⟨_, _, _, _, _, _, _, s⟩ := s; exact s.lsize
    have htl : ∀ j ∈ tail, ¬ lis l j := fun j hj hl => by
      obtain ⟨_, _, _, _, _, _, _, s⟩ := s
      exact ho.apart j hj (s.done_ord (s.sub j hl))
    by_cases hall : ∀ j ∈ ord.map (·.1), lis l j
    · exact htail fuel l a w hall htl hls (s.ended ho hall hQ) hf
    · have hne : Region.ready .any ops l ≠ [] := fun hr => hall (all_listed ho hls hr ord [] rfl (by simp))
      cases fuel with
      | zero =>
        exfalso
        obtain ⟨i, hi⟩ := List.exists_mem_of_ne_nil _ hne
        obtain ⟨o, hio, hli, _⟩ := ready_inv hi
        have := unl_pos (ops_lt hio) hli
        omega
      | succ fuel =>
        refine ⟨fun hr => absurd hr hne, fun i hi => ?_⟩
        obtain ⟨o, hio, hli, hp⟩ := ready_inv hi
        have hor : i ∈ ord.map (·.1) := by
          rcases ho.all i (by have := ops_lt hio; simpa using this) with h | h
          · exact h
          · exfalso
            refine hall fun j hj => ?_
            obtain ⟨_, _, _, _, _, _, _, s⟩ := s
            exact ho.anc i h j hj (lis l) s.closed hp
        exact wpOp_then (s.step hT hG ho hor hi (fun a' w' s' => SimE.main hT hG ho hQ htail fuel s' (by have := unl_set hls hio hli; omega)) hQ)
/-! ### The last three operations -/
theorem store_aptr {t : Nat} {p v : Operand} {k e off : Nat} {vv : AV} {K : VK Prop} (hp : valOf ρ p = some (.aptr k e off)) (hv : valOf ρ v = some vv) (ha : arrsAV vv = []) (h : storeO (propSig M) X ρ H d K t p v) :
    ∃ z es es', H[k]? = some (.arr z es) ∧ K .undef ρ (H.set k (.arr z es')) d ∧ ∀ ρ' H' d' (K' : VK Prop), valOf ρ' p = some (.aptr k e off) → valOf ρ' v = some vv → H'[k]? = some (.arr z es) → K' .undef ρ' (H'.set k (.arr z es')) d' → storeO (propSig M) X ρ' H' d' K' t p v := by
  have ha' : arrsAVs [vv] = [] := by simp [arrsAVs, ha]
  have form : ∀ ρ' H' d' (K' : VK Prop), valOf ρ' p = some (.aptr k e off) → valOf ρ' v = some vv → storeO (propSig M) X ρ' H' d' K' t p v = tiK (propSig M) X t fun i => storeArrK (propSig M) i.size k e off vv H' fun H'' => K' .undef ρ' H'' d' := by
    intro ρ' H' d' K' h1 h2
    unfold storeO
    rw [evalK_eq, h1]
    simp only
    rw [evalK_eq, h2]
    simp only [storeK, freezeK, ha', frzK]
  rw [form ρ H d K hp hv] at h
  have hD : ∀ {H' : Heap} {i : TI} {K : Heap → Prop}, storeArrK (propSig M) i.size k e off vv H' K → ∃ z es es', H'[k]? = some (.arr z es) ∧ K (H'.set k (.arr z es')) ∧ ∀ H2 (K2 : Heap → Prop), H2[k]? = some (.arr z es) → K2 (H2.set k (.arr z es')) → storeArrK (propSig M) i.size k e off vv H2 K2 := by
    intro H' i K h
    unfold storeArrK at h
    obtain ⟨b1, h⟩ := condF h
    obtain ⟨b2, h⟩ := condF h
    obtain ⟨b3, h⟩ := condF h
    obtain ⟨z, es, e1, h⟩ := arrK_inv h
    obtain ⟨cs, he, h⟩ := elem_inv h
    have fin : ∀ (cs' : List AV), (∀ K3 : List AV → Prop, pasteK cs off (cellsOf vv) False K3 = K3 cs') → ∃ z es es', H'[k]? = some (.arr z es) ∧ K (H'.set k (.arr z es')) ∧ ∀ H2 (K2 : Heap → Prop), H2[k]? = some (.arr z es) → K2 (H2.set k (.arr z es')) → storeArrK (propSig M) i.size k e off vv H2 K2 := by
      intro cs' hcs
      have h : pasteK cs off (cellsOf vv) False fun cs => setK H' k (.arr z (es.set e cs)) K := h
      rw [hcs, setK_eq] at h
      refine ⟨z, es, es.set e cs', e1, h, fun H2 K2 h2 k2 => ?_⟩
      unfold storeArrK
      rw [b1]
      simp only [cond_true]
      unfold cellsK
      rw [b2]
      simp only [cond_true]
      unfold sizedK
      rw [b3]
      simp only [cond_true]
      unfold arrK objK
      rw [getK_eq, h2]
      refine elem_mk he ?_
      show pasteK cs off (cellsOf vv) False fun cs => setK H2 k (.arr z (es.set e cs)) K2
      rw [hcs, setK_eq]
      exact k2
    have h : pasteK cs off (cellsOf vv) False fun cs => setK H' k (.arr z (es.set e cs)) K := h
    by_cases hl : off + (cellsOf vv).length ≤ cs.length
    · exact fin _ fun K3 => pasteK_some _ _ _ _ _ hl
    · cases hc : cellsOf vv with
      | nil => exact fin cs fun K3 => by rw [hc]; exact pasteK_nil _ _ _ _
      | cons c l =>
        rw [pasteK_none _ _ _ _ _ (by omega) (by rw [hc]; simp)] at h
        exact h.elim
  unfold tiK at h
  split at h
  · rename_i i hi
    obtain ⟨z, es, es', h1, h2, h3⟩ := hD h
    refine ⟨z, es, es', h1, h2, fun ρ' H' d' K' g1 g2 g3 g4 => ?_⟩
    rw [form ρ' H' d' K' g1 g2]
    unfold tiK
    rw [hi]
    exact h3 H' _ g3 g4
  · exact h.elim
theorem store_box {t : Nat} {p q : Operand} {b off : Nat} {K : VK Prop} (hp : valOf ρ p = some (.ref b off)) (h : storeO (propSig M) X ρ H d K t p q) :
    ∃ cs cs', H[b]? = some (.box cs) ∧ K .undef ρ (H.set b (.box cs')) d ∧ ∀ ρ' H' d' (K' : VK Prop), valOf ρ' p = some (.ref b off) → valOf ρ' q = valOf ρ q → H'[b]? = some (.box cs) → K' .undef ρ' (H'.set b (.box cs')) d' → storeO (propSig M) X ρ' H' d' K' t p q := by
  have h0 := h
  unfold storeO at h
  rw [evalK_eq, hp] at h
  simp only at h
  rw [evalK_eq] at h
  cases hq : valOf ρ q with
  | none => rw [hq] at h; exact h.elim
  | some y =>
    rw [hq] at h
    simp only [storeK] at h
    unfold tiK at h
    split at h
    · rename_i i hi
      obtain ⟨cs, e, h⟩ := boxK_inv h
      obtain ⟨b2, h⟩ := condF h
      obtain ⟨b3, h⟩ := condF h
      have fin : ∀ (cs' : List AV), (∀ K3 : List AV → Prop, pasteK cs off (cellsOf y) False K3 = K3 cs') → ∃ cs cs', H[b]? = some (.box cs) ∧ K .undef ρ (H.set b (.box cs')) d ∧ ∀ ρ' H' d' (K' : VK Prop), valOf ρ' p = some (.ref b off) → valOf ρ' q = some y → H'[b]? = some (.box cs) → K' .undef ρ' (H'.set b (.box cs')) d' → storeO (propSig M) X ρ' H' d' K' t p q := by
        intro cs' hcs
        have h : pasteK cs off (cellsOf y) False fun cs => setK H b (.box cs) fun H => K .undef ρ H d := h
        rw [hcs, setK_eq] at h
        refine ⟨cs, cs', e, h, fun ρ' H' d' K' g1 g2 g3 g4 => ?_⟩
        unfold storeO
        rw [evalK_eq, g1]
        simp only
        rw [evalK_eq, g2]
        simp only [storeK]
        unfold tiK
        rw [hi]
        show boxK (propSig M) H' b _
        unfold boxK objK
        rw [getK_eq, g3]
        simp only
        unfold cellsK
        rw [b2]
        simp only [cond_true]
        unfold sizedK
        rw [b3]
        simp only [cond_true]
        show pasteK cs off (cellsOf y) False fun cs => setK H' b (.box cs) fun H => K' .undef ρ' H d'
        rw [hcs, setK_eq]
        exact g4
      have h : pasteK cs off (cellsOf y) False fun cs => setK H b (.box cs) fun H => K .undef ρ H d := h
      by_cases hl : off + (cellsOf y).length ≤ cs.length
      · exact fin _ fun K3 => pasteK_some _ _ _ _ _ hl
      · cases hc : cellsOf y with
        | nil => exact fin cs fun K3 => by rw [hc]; exact pasteK_nil _ _ _ _
        | cons c l =>
          rw [pasteK_none _ _ _ _ _ (by omega) (by rw [hc]; simp)] at h
          exact h.elim
    · exact h.elim
/-- Both machines stand at the same. -/
def Sync (G : Nat → Option (List Value)) (n : Nat) (E0 : Env) (w0 : World) (ρ : Regs) (H : Heap) (d : Dx) (a : Act) (w : World) : Prop :=
  ∃ E own, Rel G (fun _ => True) E own ρ H d a w ∧ Goes E0 w0 E w ∧ n ≤ a.tmps.size
theorem sync_step (hT : Agree P X.T) (hG : SubG X.G G) {i : Nat} {o : Oper} (hio : ops.toList[i]? = some o) (hg : o.guard = none) (hfit : dstFits n o = true) {x : AV} {H2 : Heap} (s : Sync G n E0 w0 ρ H d a w)
    (h : opK (propSig M) X o.op (fun y ρ' H' d' => y = x ∧ ρ' = ρ ∧ H' = H2 ∧ d' = d) (fun _ _ _ _ => False) ρ H d) {Kn : Act → World → Prop} {Q : Exit → Act → World → Prop}
    (hK : ∀ a' w', Sync G n E0 w0 (ρ.put o.dst x) H2 d a' w' → Kn a' w') : wpOp P ops Q i Kn a w := by
  obtain ⟨E, own, r, g, ha⟩ := s
  have hio' : ops[i]? = some o := by simpa using hio
  unfold wpOp
  rw [hio']
  simp only
  rw [if_pos (by simp [Region.wanted, hg])]
  refine .inl (op_sound r hT hG (fun x _ => by cases x <;> trivial) h (fun {y ρ' H' d' E' own' l2 w2 v} k1 k2 k3 k4 => ?_) (fun {y ρ' H' d' E' own' w2 v} k1 => k1.elim))
  obtain ⟨rfl, rfl, rfl, rfl⟩ := k1
  exact hK _ _ ⟨E', own', k2.put (dstFits_lt hfit ha) k3, g.trans k4, by rw [put_size]; exact ha⟩
end
end Am
end Go.Proofs.YtbdnfkmcfencdaaGreatDoor
/- The abstract machine is sound: regions that draw their order, whole. No condition. -/
namespace Go.Proofs.YtbdnfkmcfencdaaGreatDoor
namespace Am
open Go

section
variable {P : Program} {G : Nat → Option (List Value)} {M : Md P G} {X : Ctx} {E E0 : Env} {own : Nat → List Nat} {ρ : Regs} {H : Heap} {d : Dx} {a : Act} {w w0 : World} {ops : Array Oper} {n : Nat} {ord : List (Nat × Option (List Nat))} {tail : List Nat} {K : EK Prop} {l : Array Bool}
/-- What the last three operations come to, whichever is first. -/
structure Three (G : Nat → Option (List Value)) (M : Md P G) (X : Ctx) (K : EK Prop) (oi oj ok : Oper) (ρ : Regs) (H : Heap) (d : Dx) (Y : AV) (A B : Heap → Heap) : Prop where
  i0 : opK (propSig M) X oi.op (fun y ρ' H' d' => y = Y ∧ ρ' = ρ ∧ H' = H ∧ d' = d) (fun _ _ _ _ => False) ρ H d
  ib : opK (propSig M) X oi.op (fun y ρ' H' d' => y = Y ∧ ρ' = ρ ∧ H' = B H ∧ d' = d) (fun _ _ _ _ => False) ρ (B H) d
  k0 : opK (propSig M) X ok.op (fun y ρ' H' d' => y = .undef ∧ ρ' = ρ ∧ H' = B H ∧ d' = d) (fun _ _ _ _ => False) ρ H d
  k1 : opK (propSig M) X ok.op (fun y ρ' H' d' => y = .undef ∧ ρ' = ρ.put oi.dst Y ∧ H' = B H ∧ d' = d) (fun _ _ _ _ => False) (ρ.put oi.dst Y) H d
  ka : opK (propSig M) X ok.op (fun y ρ' H' d' => y = .undef ∧ ρ' = ρ.put oi.dst Y ∧ H' = B (A H) ∧ d' = d) (fun _ _ _ _ => False) (ρ.put oi.dst Y) (A H) d
  j1 : opK (propSig M) X oj.op (fun y ρ' H' d' => y = .undef ∧ ρ' = ρ.put oi.dst Y ∧ H' = A H ∧ d' = d) (fun _ _ _ _ => False) (ρ.put oi.dst Y) H d
  jb : opK (propSig M) X oj.op (fun y ρ' H' d' => y = .undef ∧ ρ' = ρ.put oi.dst Y ∧ H' = B (A H) ∧ d' = d) (fun _ _ _ _ => False) (ρ.put oi.dst Y) (B H) d
  fin : K .normal (ρ.put oi.dst Y) (B (A H)) d
theorem valOf_put {dst : Option Nat} {y : AV} {x : Operand} (h : ∀ t, x = .tmp t → dst ≠ some t) : valOf (ρ.put dst y) x = valOf ρ x := by
  cases x with
  | tmp t => simp only [valOf]; rw [Regs.get_put, if_neg (h t rfl)]
  | _ => rfl
set_option maxHeartbeats 2000000 in
theorem three_of {idx : List Nat} {oi oj ok : Oper} {i j k : Nat} (hi : ops.toList[i]? = some oi) (hj : ops.toList[j]? = some oj) (hk : ops.toList[k]? = some ok) (ht : tailOk ops.toList n idx [i, j, k] = true) (h : tail3K (propSig M) X ops.toList K oi oj ok ρ H d) :
    (oi.guard = none ∧ oj.guard = none ∧ ok.guard = none ∧ oj.dst = none ∧ ok.dst = none ∧ i ∈ predsOf oj ∧ (∀ p ∈ predsOf oi, p ∈ idx) ∧ (∀ p ∈ predsOf oj, p ∈ idx ∨ p = i) ∧ (∀ p ∈ predsOf ok, p ∈ idx) ∧ dstFits n oi = true) ∧
    ∃ Y A B, Three G M X K oi oj ok ρ H d Y A B := by
  simp only [tailOk, hi, hj, hk, Bool.and_eq_true, Option.isNone_iff_eq_none] at ht
  obtain ⟨t1, t2, t3, t4, t5, t6, t7, t8, t9, t10, t11⟩ := ht
  have s8 := subB_iff.1 t8
  refine ⟨⟨t1, t2, t3, t4, t5, memb_iff.1 t6, subB_iff.1 t7, fun p hp => (List.mem_cons.1 (s8 p hp)).elim .inr .inl, subB_iff.1 t9, t10⟩, ?_⟩
  clear t6 t7 t8 t9 s8
  cases hd : oi.dst with
  | none => rw [hd] at t11; cases t11
  | some dd =>
    rw [hd] at t11
    simp only [Bool.and_eq_true, Bool.not_eq_true'] at t11
    obtain ⟨u1, u2, u3⟩ := t11
    unfold tail3K at h
    split at h
    · rename_i ti x yi tj pj v tk p q hoi hoj hok
      rw [hoj] at u3
      cases pj with
      | tmp t =>
        simp only [Bool.and_eq_true] at u3
        obtain ⟨u4, u5⟩ := u3
        obtain rfl := Nat.eq_of_beq_eq_true u4
        rw [evalK_eq] at h
        cases hp : valOf ρ p with
        | none => rw [hp] at h; exact h.elim
        | some pv =>
          rw [hp] at h
          simp only at h
          cases pv with
          | ref b off =>
            simp only at h
            rw [evalK_eq] at h
            cases hx : valOf ρ x with
            | none => rw [hx] at h; exact h.elim
            | some xv =>
              rw [hx] at h
              simp only at h
              rw [evalK_eq] at h
              cases hyi : valOf ρ yi with
              | none => rw [hyi] at h; exact h.elim
              | some yv =>
              rw [hyi] at h
              simp only at h
              rw [evalK_eq] at h
              cases hv : valOf ρ v with
              | none => rw [hv] at h; exact h.elim
              | some vv =>
                rw [hv] at h
                simp only at h
                obtain ⟨hb, h⟩ := condF h
                simp only [Bool.and_eq_true] at hb
                obtain ⟨b1, b2⟩ := hb
                have hxb := apartB_iff.1 b1
                have hva : arrsAV vv = [] := by simpa using b2
                have hci : clsOf oi.op = .quiet true := by rw [hoi]; rfl
                obtain ⟨Y, h1, h2⟩ := quiet_do hci h
                cases Y with
                | aptr ka e off' =>
                  simp only at h1
                  have h1 : opsK (propSig M) X ops.toList K [oj, ok] (ρ.put (some t) (.aptr ka e off')) H d := by rw [← hd]; exact h1
                  have hnk : ∀ s ∈ tmpsOf ok.op, s ≠ t := fun s hs e => by subst e; rw [memb_iff.2 hs] at u1; cases u1
                  have h1 : guardK (propSig M) ops.toList oj.guard (fun ρ => opK1 (propSig M) X oj.op (fun x ρ => opsK (propSig M) X ops.toList K [ok] (ρ.put oj.dst x)) (fun x => K (.panic x)) ρ H d)
                    (fun ρ => opsK (propSig M) X ops.toList K [ok] (ρ.put oj.dst (.tup [])) H d) (ρ.put (some t) (.aptr ka e off')) := h1
                  rw [t2, t4] at h1
                  have h1 : opK1 (propSig M) X oj.op (fun x ρ => opsK (propSig M) X ops.toList K [ok] ρ) (fun x => K (.panic x)) (ρ.put (some t) (.aptr ka e off')) H d := h1
                  rw [hoj] at h1
                  have h1 : storeO (propSig M) X (ρ.put (some t) (.aptr ka e off')) H d (fun x ρ => opsK (propSig M) X ops.toList K [ok] ρ) tj (.tmp t) v := h1
                  have hp1 : valOf (ρ.put (some t) (.aptr ka e off')) (.tmp t) = some (.aptr ka e off') := by simp only [valOf]; rw [Regs.get_put, if_pos rfl]
                  have hv1 : valOf (ρ.put (some t) (.aptr ka e off')) v = some vv := (valOf_put fun s hs e => by
                    subst hs; cases e
                    simp at u5).trans hv
                  obtain ⟨z, es, es', e1, h3, h4⟩ := store_aptr hp1 hv1 hva h1
                  have h3 : guardK (propSig M) ops.toList ok.guard (fun ρ => opK1 (propSig M) X ok.op (fun x ρ => K .normal (ρ.put ok.dst x)) (fun x => K (.panic x)) ρ (H.set ka (.arr z es')) d)
                    (fun ρ => K .normal (ρ.put ok.dst (.tup [])) (H.set ka (.arr z es')) d) (ρ.put (some t) (.aptr ka e off')) := h3
                  rw [t3, t5] at h3
                  have h3 : opK1 (propSig M) X ok.op (fun x ρ => K .normal ρ) (fun x => K (.panic x)) (ρ.put (some t) (.aptr ka e off')) (H.set ka (.arr z es')) d := h3
                  rw [hok] at h3
                  have h3 : storeO (propSig M) X (ρ.put (some t) (.aptr ka e off')) (H.set ka (.arr z es')) d (fun x ρ => K .normal ρ) tk p q := h3
                  have hpq : ∀ u, (u = p ∨ u = q) → valOf (ρ.put (some t) (.aptr ka e off')) u = valOf ρ u := fun u hu => valOf_put fun s hs e => by
                    cases e
                    refine hnk t (tmpsOf_mem ?_) rfl
                    rw [hok]
                    simp only [Op.operands]
                    rcases hu with hu | hu <;> simp [← hs, hu]
                  obtain ⟨cs, cs', e2, h5, h6⟩ := store_box ((hpq p (.inl rfl)).trans hp) h3
                  have hkb : ka ≠ b := fun e => by
                    subst e
                    rw [List.getElem?_set_self (List.getElem?_eq_some_iff.1 e1).1] at e2
                    cases e2
                  have e3 : H[b]? = some (.box cs) := by rwa [List.getElem?_set_ne hkb] at e2
                  have comm : (H.set ka (.arr z es')).set b (.box cs') = (H.set b (.box cs')).set ka (.arr z es') := List.set_comm _ _ hkb
                  have kst : ∀ (ρx : Regs) (Hx : Heap), valOf ρx p = some (.ref b off) → valOf ρx q = valOf (ρ.put (some t) (.aptr ka e off')) q → Hx[b]? = some (.box cs) →
                      opK (propSig M) X (.store tk p q) (fun y ρ' H' d' => y = .undef ∧ ρ' = ρx ∧ H' = Hx.set b (.box cs') ∧ d' = d) (fun _ _ _ _ => False) ρx Hx d := fun ρx Hx g1 g2 g3 =>
                    (show storeO (propSig M) X ρx Hx d (fun y ρ' H' d' => y = .undef ∧ ρ' = ρx ∧ H' = Hx.set b (.box cs') ∧ d' = d) tk p q from h6 ρx Hx d (fun y ρ' H' d' => y = .undef ∧ ρ' = ρx ∧ H' = Hx.set b (.box cs') ∧ d' = d) g1 g2 g3 ⟨rfl, rfl, rfl, rfl⟩)
                  have jst : ∀ (Hx : Heap), Hx[ka]? = some (.arr z es) → opK (propSig M) X (.store tj (.tmp t) v) (fun y ρ' H' d' => y = .undef ∧ ρ' = ρ.put (some t) (.aptr ka e off') ∧ H' = Hx.set ka (.arr z es') ∧ d' = d) (fun _ _ _ _ => False) (ρ.put (some t) (.aptr ka e off')) Hx d := fun Hx g3 =>
                    (show storeO (propSig M) X (ρ.put (some t) (.aptr ka e off')) Hx d (fun y ρ' H' d' => y = .undef ∧ ρ' = ρ.put (some t) (.aptr ka e off') ∧ H' = Hx.set ka (.arr z es') ∧ d' = d) tj (.tmp t) v from
                      h4 (ρ.put (some t) (.aptr ka e off')) Hx d (fun y ρ' H' d' => y = .undef ∧ ρ' = ρ.put (some t) (.aptr ka e off') ∧ H' = Hx.set ka (.arr z es') ∧ d' = d) hp1 hv1 g3 ⟨rfl, rfl, rfl, rfl⟩)
                  have ist : QuietAt M X (.aptr ka e off') oi.op ρ (H.set b (.box cs')) := by
                    refine h2.step hci ⟨fun _ _ => rfl, fun _ y hy yv hyv kk hkk => ?_⟩
                    obtain ⟨s, rfl, rfl⟩ := valOf_ids hyv hkk
                    have hne : kk ≠ b := by
                      rw [hoi] at hy
                      simp only [Op.operands, List.mem_toArray, List.mem_cons, List.not_mem_nil, or_false] at hy
                      rcases hy with hy | hy
                      · rw [← hy] at hx
                        simp only [valOf, Option.some.injEq] at hx
                        rw [hx] at hkk
                        exact fun e => hxb kk (List.mem_append_left _ hkk) (by simp [e])
                      · rw [← hy] at hyi
                        simp only [valOf, Option.some.injEq] at hyi
                        rw [hyi] at hkk
                        exact fun e => hxb kk (List.mem_append_right _ hkk) (by simp [e])
                    rw [List.getElem?_set_ne (Ne.symm hne)]
                  have pp := (hpq p (.inl rfl)).trans hp
                  have jb := jst (H.set b (.box cs')) (by rw [List.getElem?_set_ne (Ne.symm hkb)]; exact e1)
                  rw [← comm] at jb
                  have r0 := h2 d
                  have r1 := ist d
                  have r2 := kst ρ H hp (hpq q (.inr rfl)).symm e3
                  have r3 := kst _ H pp rfl e3
                  have r4 := kst _ (H.set ka (.arr z es')) pp rfl e2
                  have r5 := jst H e1
                  clear h h1 h2 h3 h4 h6 kst jst ist hpq hp1 hv1 hxb b1 b2 u1 u2 u5 hnk
                  refine ⟨.aptr ka e off', fun H => H.set ka (.arr z es'), fun H => H.set b (.box cs'), ?_⟩
                  rw [hoi] at r0 r1
                  constructor
                  · rw [hoi]; exact r0
                  · rw [hoi]; exact r1
                  · rw [hok]; exact r2
                  · rw [hok, hd]; exact r3
                  · rw [hok, hd]; exact r4
                  · rw [hoj, hd]; exact r5
                  · rw [hoj, hd]; exact jb
                  · rw [hd]; exact h5
                | _ => exact h1.elim
          | _ => exact h.elim
      | _ => cases u3
    · exact h.elim
/-- The last three operations. -/
theorem tail_sound (hT : Agree P X.T) (hG : SubG X.G G) {i j k : Nat} (ho : Order ops.toList n ord [i, j, k]) {oi oj ok : Oper} (hi : ops.toList[i]? = some oi) (hj : ops.toList[j]? = some oj) (hk : ops.toList[k]? = some ok)
    {Q : Exit → Act → World → Prop} (hQ : Good G E0 w0 n K Q) (h : tail3K (propSig M) X ops.toList K oi oj ok ρ H d) : ∀ (fuel : Nat) (l : Array Bool) (a : Act) (w : World),
    (∀ j ∈ ord.map (·.1), lis l j) → l.size = ops.size → unl ops l ≤ fuel → (¬ lis l i ∧ ¬ lis l j ∧ ¬ lis l k) → Sync G n E0 w0 ρ H d a w → wpAny P .any ops Q fuel l a w := by
  obtain ⟨⟨g1, g2, g3, d2, d3, p1, p2, p3, p4, f1⟩, Y, A, B, T⟩ := three_of hi hj hk ho.tail h
  have fj : dstFits n oj = true := by unfold dstFits; rw [d2]
  have fk : dstFits n ok = true := by unfold dstFits; rw [d3]
  have hne : i ≠ j ∧ i ≠ k ∧ j ≠ k := by
    have := ho.tnodup
    simp only [List.nodup_cons, List.mem_cons, List.not_mem_nil, or_false, not_or, List.nodup_nil, not_false_eq_true, and_true] at this
    exact ⟨this.1.1, this.1.2, this.2⟩
  let R : Array Bool → Act → World → Prop := fun l a w =>
    (¬ lis l i ∧ ¬ lis l j ∧ ¬ lis l k ∧ Sync G n E0 w0 ρ H d a w) ∨ (lis l i ∧ ¬ lis l j ∧ ¬ lis l k ∧ Sync G n E0 w0 (ρ.put oi.dst Y) H d a w) ∨ (lis l i ∧ lis l j ∧ ¬ lis l k ∧ Sync G n E0 w0 (ρ.put oi.dst Y) (A H) d a w) ∨
    (lis l i ∧ ¬ lis l j ∧ lis l k ∧ Sync G n E0 w0 (ρ.put oi.dst Y) (B H) d a w) ∨ (¬ lis l i ∧ ¬ lis l j ∧ lis l k ∧ Sync G n E0 w0 ρ (B H) d a w) ∨ (lis l i ∧ lis l j ∧ lis l k ∧ Sync G n E0 w0 (ρ.put oi.dst Y) (B (A H)) d a w)
  have key : ∀ (fuel : Nat) (l : Array Bool) (a : Act) (w : World), (∀ j ∈ ord.map (·.1), lis l j) → l.size = ops.size → unl ops l ≤ fuel → R l a w → wpAny P .any ops Q fuel l a w := by
    have pi : ∀ {l : Array Bool}, (∀ j ∈ ord.map (·.1), lis l j) → ∀ p ∈ predsAt ops.toList i, lis l p := fun hl p hp => by
      unfold predsAt at hp; rw [hi] at hp; exact hl p (p2 p hp)
    have pk : ∀ {l : Array Bool}, (∀ j ∈ ord.map (·.1), lis l j) → ∀ p ∈ predsAt ops.toList k, lis l p := fun hl p hp => by
      unfold predsAt at hp; rw [hk] at hp; exact hl p (p4 p hp)
    have pj : ∀ {l : Array Bool}, (∀ j ∈ ord.map (·.1), lis l j) → lis l i → ∀ p ∈ predsAt ops.toList j, lis l p := fun hl hli p hp => by
      unfold predsAt at hp; rw [hj] at hp
      rcases p3 p hp with h | rfl
      · exact hl p h
      · exact hli
    have pji : ∀ {l : Array Bool}, (∀ p ∈ predsAt ops.toList j, lis l p) → lis l i := fun h => h i (by unfold predsAt; rw [hj]; exact p1)
    have which : ∀ {l : Array Bool} {m : Nat}, (∀ j ∈ ord.map (·.1), lis l j) → m ∈ Region.ready .any ops l → (¬ lis l m ∧ ∀ p ∈ predsAt ops.toList m, lis l p) ∧ (m = i ∨ m = j ∨ m = k) := fun {l m} hl hm => by
      obtain ⟨o, hio, hli, hp⟩ := ready_inv hm
      refine ⟨⟨hli, hp⟩, ?_⟩
      rcases ho.all m (by have := ops_lt hio; simpa using this) with h | h
      · exact absurd (hl m h) hli
      · simpa using h
    have keep : ∀ {l : Array Bool} {m : Nat}, l.size = ops.size → (∀ j ∈ ord.map (·.1), lis l j) → m < l.size → ∀ j ∈ ord.map (·.1), lis (l.setIfInBounds m true) j := fun {l m} hs hl hm j hj => (lis_set hm).2 (.inr (hl j hj))
    have il : ∀ {l : Array Bool}, l.size = ops.size → i < l.size := fun hs => by rw [hs]; exact ops_lt hi
    have jl : ∀ {l : Array Bool}, l.size = ops.size → j < l.size := fun hs => by rw [hs]; exact ops_lt hj
    have kl : ∀ {l : Array Bool}, l.size = ops.size → k < l.size := fun hs => by rw [hs]; exact ops_lt hk
    intro fuel
    induction fuel with
    | zero =>
      intro l a w hl hs hu hr
      have none' : ∀ {m : Nat} {o : Oper}, ops.toList[m]? = some o → ¬ lis l m → False := fun hm hn => by have := unl_pos (ops_lt hm) hn; omega
      rcases hr with ⟨a1, _⟩ | ⟨_, a2, _⟩ | ⟨_, _, a3, _⟩ | ⟨_, a2, _⟩ | ⟨a1, _⟩ | ⟨a1, a2, a3, E, own, r, g, ha⟩
      · exact (none' hi a1).elim
      · exact (none' hj a2).elim
      · exact (none' hk a3).elim
      · exact (none' hj a2).elim
      · exact (none' hi a1).elim
      · refine ⟨?_, hQ (x := .normal) T.fin r g ha trivial⟩
        cases hrd : Region.ready .any ops l with
        | nil => rfl
        | cons m r =>
          obtain ⟨⟨hm, _⟩, hw⟩ := which hl (m := m) (by rw [hrd]; simp)
          rcases hw with rfl | rfl | rfl
          · exact absurd a1 hm
          · exact absurd a2 hm
          · exact absurd a3 hm
    | succ fuel ih =>
      intro l a w hl hs hu hr
      have next : ∀ {m : Nat} {o : Oper} {a' : Act} {w' : World}, ops.toList[m]? = some o → ¬ lis l m → R (l.setIfInBounds m true) a' w' → wpAny P .any ops Q fuel (l.setIfInBounds m true) a' w' := fun {m o a' w'} hm hn hr' =>
        ih _ _ _ (keep hs hl (by rw [hs]; exact ops_lt hm)) (by simpa using hs) (by have := unl_set hs hm hn; omega) hr'
      have st : ∀ {m q : Nat}, m < l.size → q ≠ m → (lis (l.setIfInBounds m true) q ↔ lis l q) := fun hm hq => by rw [lis_set hm]; simp [hq]
      have st' : ∀ {m : Nat}, m < l.size → lis (l.setIfInBounds m true) m := fun hm => (lis_set hm).2 (.inl rfl)
      rcases hr with ⟨a1, a2, a3, s⟩ | ⟨a1, a2, a3, s⟩ | ⟨a1, a2, a3, s⟩ | ⟨a1, a2, a3, s⟩ | ⟨a1, a2, a3, s⟩ | ⟨a1, a2, a3, E, own, r, g, ha⟩
      · refine ⟨fun hrd => (by have := ready_of hs hi a1 (pi hl); rw [hrd] at this; cases this), fun m hm => ?_⟩
        obtain ⟨⟨hn, hp⟩, hw⟩ := which hl hm
        rcases hw with rfl | rfl | rfl
        · exact sync_step hT hG hi g1 f1 s T.i0 fun a' w' s' => next hi a1 (.inr (.inl ⟨st' (il hs), fun h => a2 ((st (il hs) (Ne.symm hne.1)).1 h), fun h => a3 ((st (il hs) (Ne.symm hne.2.1)).1 h), s'⟩))
        · exact absurd (pji hp) a1
        · refine sync_step hT hG hk g3 fk s T.k0 fun a' w' s' => next hk a3 (.inr (.inr (.inr (.inr (.inl ⟨fun h => a1 ((st (kl hs) hne.2.1).1 h), fun h => a2 ((st (kl hs) hne.2.2).1 h), st' (kl hs), ?_⟩)))))
          rw [d3] at s'; exact s'
      · refine ⟨fun hrd => (by have := ready_of hs hj a2 (pj hl a1); rw [hrd] at this; cases this), fun m hm => ?_⟩
        obtain ⟨⟨hn, hp⟩, hw⟩ := which hl hm
        rcases hw with rfl | rfl | rfl
        · exact absurd a1 hn
        · refine sync_step hT hG hj g2 fj s T.j1 fun a' w' s' => next hj a2 (.inr (.inr (.inl ⟨(st (jl hs) hne.1).2 a1, st' (jl hs), fun h => a3 ((st (jl hs) (Ne.symm hne.2.2)).1 h), ?_⟩)))
          rw [d2] at s'; exact s'
        · refine sync_step hT hG hk g3 fk s T.k1 fun a' w' s' => next hk a3 (.inr (.inr (.inr (.inl ⟨(st (kl hs) hne.2.1).2 a1, fun h => a2 ((st (kl hs) hne.2.2).1 h), st' (kl hs), ?_⟩))))
          rw [d3] at s'; exact s'
      · refine ⟨fun hrd => (by have := ready_of hs hk a3 (pk hl); rw [hrd] at this; cases this), fun m hm => ?_⟩
        obtain ⟨⟨hn, hp⟩, hw⟩ := which hl hm
        rcases hw with rfl | rfl | rfl
        · exact absurd a1 hn
        · exact absurd a2 hn
        · refine sync_step hT hG hk g3 fk s T.ka fun a' w' s' => next hk a3 (.inr (.inr (.inr (.inr (.inr ⟨(st (kl hs) hne.2.1).2 a1, (st (kl hs) hne.2.2).2 a2, st' (kl hs), ?_⟩)))))
          rw [d3] at s'; exact s'
      · refine ⟨fun hrd => (by have := ready_of hs hj a2 (pj hl a1); rw [hrd] at this; cases this), fun m hm => ?_⟩
        obtain ⟨⟨hn, hp⟩, hw⟩ := which hl hm
        rcases hw with rfl | rfl | rfl
        · exact absurd a1 hn
        · refine sync_step hT hG hj g2 fj s T.jb fun a' w' s' => next hj a2 (.inr (.inr (.inr (.inr (.inr ⟨(st (jl hs) hne.1).2 a1, st' (jl hs), (st (jl hs) (Ne.symm hne.2.2)).2 a3, ?_⟩)))))
          rw [d2] at s'; exact s'
        · exact absurd a3 hn
      · refine ⟨fun hrd => (by have := ready_of hs hi a1 (pi hl); rw [hrd] at this; cases this), fun m hm => ?_⟩
        obtain ⟨⟨hn, hp⟩, hw⟩ := which hl hm
        rcases hw with rfl | rfl | rfl
        · exact sync_step hT hG hi g1 f1 s T.ib fun a' w' s' => next hi a1 (.inr (.inr (.inr (.inl ⟨st' (il hs), fun h => a2 ((st (il hs) (Ne.symm hne.1)).1 h), (st (il hs) (Ne.symm hne.2.1)).2 a3, s'⟩))))
        · exact absurd (pji hp) a1
        · exact absurd a3 hn
      · refine ⟨fun _ => hQ (x := .normal) T.fin r g ha trivial, fun m hm => ?_⟩
        obtain ⟨⟨hn, hp⟩, hw⟩ := which hl hm
        rcases hw with rfl | rfl | rfl
        · exact absurd a1 hn
        · exact absurd a2 hn
        · exact absurd a3 hn
  exact fun fuel l a w hl hs hu hn s => key fuel l a w hl hs hu (.inl ⟨hn.1, hn.2.1, hn.2.2, s⟩)
/-- A region that draws its order. -/
theorem draw_any (hT : Agree P X.T) (hG : SubG X.G G) (hok : drawOk ops.toList n ord tail = true) {Q : Exit → Act → World → Prop} (hQ : Good G E0 w0 n K Q)
    (r : Rel G (fun _ => True) E own ρ H d a w) (g : Goes E0 w0 E w) (ha : n ≤ a.tmps.size) (h : drawK (propSig M) X ops.toList (tailsK (propSig M) X ops.toList K tail) ord ρ H d) : wpAny P .any ops Q ops.size (Array.replicate ops.size false) a { w with drawn := w.drawn + 1 } := by
  have ho := order_of hok
  have hQ1 : Good G E0 w0 n (tailsK (propSig M) X ops.toList K tail) (Exit.then (fun a w => ∃ ρ H d, Sync G n E0 w0 ρ H d a w ∧ tailK (propSig M) X ops.toList K tail ρ H d) Q) := by
    intro e x ρ H d E own a w k r g ha hx
    cases e with
    | normal => cases x <;> first | exact hx.elim | exact ⟨ρ, H, d, ⟨E, own, r, g, ha⟩, k⟩
    | exit i => cases x <;> first | exact hx.elim | exact hQ k r g ha hx
    | ret => cases x <;> first | exact hx.elim | exact hQ k r g ha hx
    | panic v => cases x <;> first | exact hx.elim | exact hQ k r g ha hx
  refine SimE.main hT hG ho hQ1 (fun fuel l a w hl hn hs hS hu => ?_) ops.size (l := Array.replicate ops.size false) ⟨[], ord, ρ, H, d, E, own, rfl, by simp, fun i hi => ?_, fun i hi => ?_, by simp, by simp, by simp, by simp, ?_, ?_, ha, h⟩ ?_
  · obtain ⟨ρ, H, d, s, hk⟩ := hS
    unfold tailK at hk
    split at hk
    · obtain ⟨E, own, r, g, ha⟩ := s
      have hall : ∀ i, i < ops.size → lis l i := fun i hi => by
        rcases ho.all i (by simpa using hi) with h | h
        · exact hl i h
        · cases h
      have hr : Region.ready .any ops l = [] := by
        cases hrd : Region.ready .any ops l with
        | nil => rfl
        | cons m r =>
          exfalso
          obtain ⟨o, hio, hli, _⟩ := ready_inv (i := m) (l := l) (by rw [hrd]; simp)
          exact hli (hall m (ops_lt hio))
      cases fuel with
      | zero => exact ⟨hr, hQ (x := .normal) hk r g ha trivial⟩
      | succ fuel => exact ⟨fun _ => hQ (x := .normal) hk r g ha trivial, fun i hi => by rw [hr] at hi; cases hi⟩
    · rename_i i j k
      rw [getK_eq] at hk
      cases hi : ops.toList[i]? with
      | none => rw [hi] at hk; exact hk.elim
      | some oi =>
        rw [hi] at hk
        simp only at hk
        rw [getK_eq] at hk
        cases hj : ops.toList[j]? with
        | none => rw [hj] at hk; exact hk.elim
        | some oj =>
          rw [hj] at hk
          simp only at hk
          rw [getK_eq] at hk
          cases hk' : ops.toList[k]? with
          | none => rw [hk'] at hk; exact hk.elim
          | some ok =>
            rw [hk'] at hk
            exact tail_sound hT hG ho hi hj hk' hQ hk fuel l a w hl hs hu ⟨hn i (by simp), hn j (by simp), hn k (by simp)⟩ s
    · exact hk.elim
  · exfalso
    unfold lis at hi
    rw [Array.getD_eq_getD_getElem?] at hi
    simp only [Array.getElem?_replicate] at hi
    split at hi <;> simp at hi
  · exfalso
    unfold lis at hi
    rw [Array.getD_eq_getD_getElem?] at hi
    simp only [Array.getElem?_replicate] at hi
    split at hi <;> simp at hi
  · exact (r.world (w' := { w with drawn := w.drawn + 1 }) ⟨rfl, rfl, rfl, Nat.le_refl _, fun _ _ h _ => h⟩ fun _ _ => rfl).less fun _ _ => trivial
  · exact ⟨g.le, g.new, g.beside.trans ⟨rfl, rfl, rfl, Nat.le_refl _, fun _ _ h _ => h⟩⟩
  · unfold unl
    exact Nat.le_trans List.countP_le_length (by simp)
theorem draw_sound (hT : Agree P X.T) (hG : SubG X.G G) (hm : P.follows .mixedOrders = true) {id : Nat} (hok : drawOk ops.toList n ord tail = true) {Q : Exit → Act → World → Prop} (hQ : Good G E0 w0 n K Q)
    (r : Rel G (fun _ => True) E own ρ H d a w) (g : Goes E0 w0 E w) (ha : n ≤ a.tmps.size) (h : drawK (propSig M) X ops.toList (tailsK (propSig M) X ops.toList K tail) ord ρ H d) : (Code.region id ops true).wp P Q a w :=
  wp_region_any hm (draw_any hT hG hok hQ r g ha h)
end
end Am
end Go.Proofs.YtbdnfkmcfencdaaGreatDoor
/- The abstract machine is sound: code, and calls of functions. No condition. -/
namespace Go.Proofs.YtbdnfkmcfencdaaGreatDoor
namespace Am
open Go

/-- What is checked of a function's code, once. -/
noncomputable def codeOk (X : Ctx) (n : Nat) (c : Code) : Bool :=
  Code.rec (motive := fun _ => Bool) true (fun id ops draw => cond draw (match X.ord id with | some p => drawOk ops.toList n p.1 p.2 | none => false) (ops.toList.all (dstFits n)))
    (fun _ _ a b => a && b) (fun _ _ _ a b => a && b) (fun _ _ a => a) (fun _ a => a) (fun _ _ _ _ _ _ => true) (fun _ => true) (fun _ _ => true) (fun _ => true) (fun _ => true) true (fun _ => true) c

section
variable {P : Program} {G : Nat → Option (List Value)} {M : Md P G} {X : Ctx} {E E0 : Env} {own : Nat → List Nat} {ρ : Regs} {H : Heap} {d : Dx} {a : Act} {w w0 : World} {foot n : Nat}
theorem code_sound (hE : Entry E0 foot) (hT : Agree P X.T) (hG : SubG X.G G) (hm : P.follows .mixedOrders = true) : ∀ (c : Code) (at_ : Nat) {K : EK Prop} {Q : Exit → Act → World → Prop} {ρ : Regs} {H : Heap} {d : Dx} {E : Env} {own : Nat → List Nat} {a : Act} {w : World},
    codeOk X n c = true → Good G E0 w0 n K Q → codeK (propSig M) X foot c at_ K ρ H d → Rel G (fun _ => True) E own ρ H d a w → Goes E0 w0 E w → n ≤ a.tmps.size → c.wp P Q a w
  | .skip, _, K, Q, ρ, H, d, E, own, a, w, _, hQ, h, r, g, ha => wp_skip (hQ (e := .normal) h r g ha trivial)
  | .region id ops draw, _, K, Q, ρ, H, d, E, own, a, w, hok, hQ, h, r, g, ha => by
    have h : regionK (propSig M) X id ops.toList draw K ρ H d := h
    unfold regionK at h
    cases draw with
    | false =>
      have hok : ops.toList.all (dstFits n) = true := hok
      exact wp_region_list (ops_sound hT hG hQ (List.all_eq_true.1 hok) h r g ha)
    | true =>
      have hok : (match X.ord id with | some p => drawOk ops.toList n p.1 p.2 | none => false) = true := hok
      simp only [cond_true] at h
      cases ho : X.ord id with
      | none => rw [ho] at hok; cases hok
      | some ord =>
        rw [ho] at h hok
        exact draw_sound hT hG hm hok hQ r g ha h
  | .seq x y, at_, K, Q, ρ, H, d, E, own, a, w, hok, hQ, h, r, g, ha => by
    have hok : (codeOk X n x && codeOk X n y) = true := hok
    simp only [Bool.and_eq_true] at hok
    have h : codeK (propSig M) X foot x at_ (seqK (codeK (propSig M) X foot y at_ K) K) ρ H d := h
    refine wp_seq (code_sound hE hT hG hm x at_ hok.1 (fun {e z ρ H d E own a w} k r g ha hx => ?_) h r g ha)
    cases e with
    | normal => cases z <;> first | exact hx.elim | exact code_sound hE hT hG hm y at_ hok.2 hQ k r g ha
    | exit i => cases z <;> first | exact hx.elim | exact hQ k r g ha hx
    | ret => cases z <;> first | exact hx.elim | exact hQ k r g ha hx
    | panic v => cases z <;> first | exact hx.elim | exact hQ k r g ha hx
  | .cond c x y, at_, K, Q, ρ, H, d, E, own, a, w, hok, hQ, h, r, g, ha => by
    have hok2 : (codeOk X n x && codeOk X n y) = true := hok
    simp only [Bool.and_eq_true] at hok2
    have h : condK (propSig M) c (codeK (propSig M) X foot x at_ K) (codeK (propSig M) X foot y at_ K) ρ H d := h
    unfold condK at h
    obtain ⟨u, h1, hu⟩ := evalK_inv r (x := c) (by cases c <;> trivial) h
    split at h1
    · rename_i b
      obtain ⟨_, he⟩ := hu
      have two : ∀ {ρ1 ρ2 : Regs}, Rel G (fun _ => True) E own ρ1 H d a w → Rel G (fun _ => True) E own ρ2 H d a w → cond b (codeK (propSig M) X foot x at_ K ρ1 H d) (codeK (propSig M) X foot y at_ K ρ2 H d) → (Code.cond c x y).wp P Q a w := by
        intro ρ1 ρ2 r1 r2 h
        refine wp_cond he ?_
        cases b
        · exact code_sound hE hT hG hm y at_ hok2.2 hQ h r2 g ha
        · exact code_sound hE hT hG hm x at_ hok2.1 hQ h r1 g ha
      cases c with
      | tmp s =>
        have h1 : cond b (codeK (propSig M) X foot x at_ K (.cons s (.v (.bool true)) ρ) H d) (codeK (propSig M) X foot y at_ K (.cons s (.v (.bool false)) ρ) H d) := h1
        cases b
        · exact wp_cond he (code_sound hE hT hG hm y at_ hok2.2 hQ h1 (r.refine (s := s) (by have he : a.tmps.getD s undef = .bool false := he; rw [he]; exact ⟨rfl, rfl⟩)) g ha)
        · exact wp_cond he (code_sound hE hT hG hm x at_ hok2.1 hQ h1 (r.refine (s := s) (by have he : a.tmps.getD s undef = .bool true := he; rw [he]; exact ⟨rfl, rfl⟩)) g ha)
      | _ => exact two r r h1
    · exact h1.elim
  | .block id c, _, K, Q, ρ, H, d, E, own, a, w, hok, hQ, h, r, g, ha => by
    have h : codeK (propSig M) X foot c id (blockK id K) ρ H d := h
    refine wp_block (code_sound hE hT hG hm c id hok (fun {e z ρ H d E own a w} k r g ha hx => ?_) h r g ha)
    cases e with
    | normal => cases z <;> first | exact hx.elim | exact hQ k r g ha hx
    | exit i =>
      cases z with
      | exit j =>
        obtain rfl : i = j := hx
        have k : cond (Nat.beq i id) (K .normal ρ H d) (K (.exit i) ρ H d) := k
        cases hb : Nat.beq i id with
        | true =>
          rw [hb] at k
          simp only [Exit.inBlock, Nat.eq_of_beq_eq_true hb, if_true]
          exact hQ k r g ha trivial
        | false =>
          rw [hb] at k
          have : i ≠ id := fun e => by rw [e, Nat.beq_refl] at hb; cases hb
          simp only [Exit.inBlock, this, if_false]
          exact hQ (e := .exit i) k r g ha rfl
      | _ => exact hx.elim
    | ret => cases z <;> first | exact hx.elim | exact hQ k r g ha hx
    | panic v => cases z <;> first | exact hx.elim | exact hQ k r g ha hx
  | .loop c, at_, K, Q, ρ, H, d, E, own, a, w, hok, hQ, h, r, g, ha => by
    have h : LoopP (codeK (propSig M) X foot c at_) (headK (propSig M) foot (X.live at_)) K ρ H d := M.loop_run _ _ _ _ _ _ h
    unfold LoopP at h
    rcases h with ⟨k, h⟩ | ⟨T, k0, h0, hstep⟩
    · refine wp_loop_rounds k ?_
      have key : ∀ (k : Nat) {ρ : Regs} {H : Heap} {d : Dx} {E : Env} {own : Nat → List Nat} {a : Act} {w : World}, loopN False (codeK (propSig M) X foot c at_) (headK (propSig M) foot (X.live at_)) K k ρ H d →
          Rel G (fun _ => True) E own ρ H d a w → Goes E0 w0 E w → n ≤ a.tmps.size → Code.rounds P c Q k a w := by
        intro k
        induction k with
        | zero => intro ρ H d E own a w h; exact h.elim
        | succ k ih =>
          intro ρ H d E own a w h r g ha
          have h : headK (propSig M) foot (X.live at_) (codeK (propSig M) X foot c at_ (seqK (loopN False (codeK (propSig M) X foot c at_) (headK (propSig M) foot (X.live at_)) K k) K)) ρ H d := h
          obtain ⟨ρ', H', E', own', h1, r1, g1⟩ := headK_inv hE r g h
          refine code_sound hE hT hG hm c at_ hok (fun {e z ρ H d E own a w} k r g ha hx => ?_) h1 r1 g1 ha
          cases e with
          | normal => cases z <;> first | exact hx.elim | exact ih k r g ha
          | exit i => cases z <;> first | exact hx.elim | exact hQ k r g ha hx
          | ret => cases z <;> first | exact hx.elim | exact hQ k r g ha hx
          | panic v => cases z <;> first | exact hx.elim | exact hQ k r g ha hx
      exact key k h r g ha
    · have key : ∀ (m k : Nat) {ρ : Regs} {H : Heap} {E : Env} {own : Nat → List Nat} {a : Act} {w : World}, T k ρ H → k < m → Rel G (fun _ => True) E own ρ H [] a w → Goes E0 w0 E w → n ≤ a.tmps.size → Code.rounds P c Q m a w := by
        intro m
        induction m with
        | zero => intro k ρ H E own a w _ hk; omega
        | succ m ih =>
          intro k0' ρ H E own a w hT' hk r g ha
          have h := hstep k0' ρ H hT'
          refine code_sound hE hT hG hm c at_ hok (fun {e z ρ H d E own a w} k r g ha hx => ?_) h r g ha
          cases e with
          | normal =>
            cases z <;> first | exact hx.elim | skip
            have k2 : headK (propSig M) foot (X.live at_) (fun ρ' H' d' => d' = [] ∧ ∃ j, j < k0' ∧ T j ρ' H') ρ H d := k
            obtain ⟨ρ', H', E', own', ⟨hd, j, hj, hT2⟩, r1, g1⟩ := headK_inv hE r g k2
            subst hd
            exact ih j hT2 (by omega) r1 g1 ha
          | exit i => cases z <;> first | exact hx.elim | exact hQ k r g ha hx
          | ret => cases z <;> first | exact hx.elim | exact hQ k r g ha hx
          | panic v => cases z <;> first | exact hx.elim | exact hQ k r g ha hx
      obtain ⟨ρ', H', E', own', ⟨hd, hT'⟩, r1, g1⟩ := headK_inv hE r g h0
      subst hd
      exact wp_loop_rounds (k0 + 1) (key (k0 + 1) k0 hT' (by omega) r1 g1 ha)
  | .exit id, _, K, Q, ρ, H, d, E, own, a, w, _, hQ, h, r, g, ha => wp_exit (hQ (e := .exit id) h r g ha rfl)
  | .label l, _, K, Q, ρ, H, d, E, own, a, w, _, hQ, h, r, g, ha => wp_label (hQ (e := .normal) h r g ha trivial)
  | .ret, _, K, Q, ρ, H, d, E, own, a, w, _, hQ, h, r, g, ha => wp_ret (hQ (e := .ret) h r g ha trivial)
  | .rangeFunc .., _, K, Q, ρ, H, d, E, own, a, w, _, _, h, _, _, _ => h.elim
  | .scope _, _, K, Q, ρ, H, d, E, own, a, w, _, _, h, _, _, _ => h.elim
  | .goto _, _, K, Q, ρ, H, d, E, own, a, w, _, _, h, _, _, _ => h.elim
  | .refuse _, _, K, Q, ρ, H, d, E, own, a, w, _, _, h, _, _, _ => h.elim
/-- A function of the program, as the abstract machine knows it. -/
structure FnOk (P : Program) (G : Nat → Option (List Value)) (f : Nat) (fi : FI) : Prop where
  fn : ∃ fn, P.funcs[f]? = some fn ∧ fn.body = some fi.code ∧ fi.X.results = fn.results.toList ∧ (fn.name == "runtime.NumGoroutine") = false ∧ codeOk fi.X fn.ntmps fi.code = true
  agree : Agree P fi.X.T
  glob : SubG fi.X.G G
theorem numberedA_rep {E : Env} : ∀ {xs : List AV} {cs : List Value} (n m r : Nat), RepVs E xs cs → n ≤ r → RepV E ((numberedA n xs).get r) (((cs ++ List.replicate m undef)[r - n]?).getD undef)
  | [], cs, n, m, r, _, _ => trivial
  | x :: xs, c :: cs, n, m, r, h, hr => by
    simp only [numberedA, Regs.get]
    split
    · rename_i e; subst e
      simpa using h.1
    · have : r - n = (r - (n + 1)) + 1 := by omega
      rw [this]
      simp only [List.cons_append, List.getElem?_cons_succ]
      exact numberedA_rep (n + 1) m r h.2 (by omega)
  | _ :: _, [], _, _, _, h, _ => by simp [RepVs] at h
/-- A call of a function comes to what its body comes to. -/
theorem run_of_body (hm : P.follows .mixedOrders = true) {f : Nat} {fi : FI} (ok : FnOk P G f fi) {xs : List AV} {H : Heap} {K : Out → Heap → Prop} (h : bodyK (propSig M) fi.X fi.keep fi.code xs H K) : Run P G f xs H K := by
  unfold Run
  intro E w own cs r0 hok hglob hthere hx
  obtain ⟨fn, hf, hb, hres, hname, hcode⟩ := ok.fn
  have hrun : (callFunc f cs.toArray).run P w = .ok (.enter f cs.toArray) w := by
    unfold callFunc
    simp only [Sem.run_bind, run_program, Result.andThen_ok, hf]
    rw [if_neg (by simp [hname])]
    simp [hb]
  unfold Called
  rw [hrun]
  have h : layOutK H fun H' => forceRegs (numberedA 0 xs) fun ρ => codeK (propSig M) fi.X H.length fi.code 0 (exitK (propSig M) fi.X fi.keep H.length K) ρ H' [] := h
  rw [layOutK_eq, forceRegs_eq] at h
  obtain ⟨E1, own1, r1, g1, l1, _⟩ := layOut_rel (G := G) (w := w) ⟨r0, hok, hglob⟩
  have hE : Entry E H.length := fun k => ⟨lt_of_there r0, hthere k⟩
  refine (calls_of_wp_defers (R := Ends G E w H.length K) hf hb (code_sound hE ok.agree ok.glob hm fi.code 0 (n := fn.ntmps) hcode (fun {e z ρ H d E own a w} k r g _ hx => exitK_inv hE ok.agree ok.glob hres k r g hx) h ⟨fun r _ => ?_, r1.heap, r1.ok, r1.glob, trivial, l1⟩ g1 ?_)).mono
    fun e w' ⟨o, H', E', own', k1, k2, k3, k4, k5⟩ => ⟨o, H', E', own', k1, k2, k3, k4.heap, k4.ok, k5⟩
  · have := numberedA_rep (E := E1) 0 (fn.ntmps - cs.toArray.size) r (hx.mono g1.le) (Nat.zero_le _)
    simpa [Array.getD_eq_getD_getElem?, ← Array.getElem?_toList] using this
  · simp; omega
end
end Am
end Go.Proofs.YtbdnfkmcfencdaaGreatDoor
/- The abstract machine is sound: deferred calls that recover. No condition. -/
namespace Go.Proofs.YtbdnfkmcfencdaaGreatDoor
namespace Am
open Go

/-- An operation that recovers. -/
def isRecover : Op → Bool
  | .call c => match c.callee with
    | .builtin .recover => true
    | _ => false
  | _ => false
def isCopyOf (r : Nat) : Op → Bool
  | .assign x => match x with
    | .tmp t => Nat.beq t r
    | _ => false
  | _ => false
def noGuard (o : Oper) : Bool := match o.guard with | none => true | some _ => false
/-- A body that recovers first. -/
def recovers : Code → Option (Nat × Nat × Code)
  | .seq (.region _ ops false) rest => match ops.toList with
    | [o1, o2] => match o1.dst, o2.dst with
      | some r, some s => match isRecover o1.op && isCopyOf r o2.op && noGuard o1 && noGuard o2 with
        | true => some (r, s, rest)
        | false => none
      | _, _ => none
    | _ => none
  | _ => none
/-- What recover hands back. -/
def recAV : Option AV → AV
  | some x => x
  | none => .v .nilIface
section
variable {β : Type} (σ : Sig β) (X : Ctx)
noncomputable def endD0 (foot : Nat) (K : Heap → Option AV → β) : SK β := fun ρ H d => match d with
  | [] => resultsK σ X ρ H X.results fun vs => endK σ true foot vs ρ H fun _ H => K H none
  | _ => σ.fail
noncomputable def endD (foot : Nat) (K : Heap → Option AV → β) : EK β := fun e => match e with
  | .normal => endD0 σ X foot K
  | .ret => endD0 σ X foot K
  | _ => fun _ _ _ => σ.fail
/-- The body of a deferred call. -/
noncomputable def bodyD (c : Code) (args : List AV) (H : Heap) (cur : Option AV) (K : Heap → Option AV → β) : β :=
  match recovers c with
  | some (r, s, rest) => layOutK H fun H' => forceRegs (numberedA 0 args) fun ρ => codeK σ X H.length rest 0 (endD σ X H.length K) (.cons s (recAV cur) (.cons r (recAV cur) ρ)) H' []
  | none => σ.fail
end
theorem recovers_inv {c : Code} {r s : Nat} {rest : Code} (h : recovers c = some (r, s, rest)) :
    ∃ id ops o1 o2, c = .seq (.region id ops false) rest ∧ ops = #[o1, o2] ∧ o1.dst = some r ∧ o2.dst = some s ∧ isRecover o1.op = true ∧ isCopyOf r o2.op = true ∧ o1.guard = none ∧ o2.guard = none := by
  unfold recovers at h
  split at h
  · rename_i id ops rest'
    split at h
    · rename_i o1 o2 he
      split at h
      · rename_i r' s' e1 e2
        split at h
        · rename_i hb
          simp only [Bool.and_eq_true] at hb
          obtain ⟨⟨⟨b1, b2⟩, b3⟩, b4⟩ := hb
          simp only [Option.some.injEq, Prod.mk.injEq] at h
          obtain ⟨rfl, rfl, rfl⟩ := h
          refine ⟨id, ops, o1, o2, rfl, ?_, e1, e2, b1, b2, ?_, ?_⟩
          · rw [← Array.toArray_toList (xs := ops), he]
          · unfold noGuard at b3; cases hg : o1.guard with
            | none => rfl
            | some _ => rw [hg] at b3; cases b3
          · unfold noGuard at b4; cases hg : o2.guard with
            | none => rfl
            | some _ => rw [hg] at b4; cases b4
        · cases h
      · cases h
    · cases h
  · cases h
theorem recover_run {P : Program} {ρ : Operand → Value} {o : Oper} (h : isRecover o.op = true) (w : World) : (execOp ρ o).run P w = .ok .recover w := by
  unfold isRecover at h
  split at h
  · rename_i c hc
    split at h
    · rename_i hb
      unfold execOp
      simp only [hc, resolve, hb, Sem.run_bind, Sem.run_pure, Result.andThen_ok, invoke, builtin]
    · cases h
  · cases h
theorem wpOpsS_recover {P : Program} {ops : Array Oper} {Q : Exit → Act → List Frame → World → Prop} {i : Nat} {l : List Nat} {a : Act} {cs : List Frame} {w : World} {o : Oper} (ho : ops[i]? = some o) (hw : o.guard = none) (hr : (execOp a.eval o).run P w = .ok .recover w)
    (h : match recoverD cs with
          | some (v, cs') => wpOpsS P ops Q l (a.put o.dst v) cs' w
          | none => wpOpsS P ops Q l (a.put o.dst .nilIface) cs w) : wpOpsS P ops Q (i :: l) a cs w := by
  rw [wpOpsS, ho]
  simp only [Region.wanted, hw, hr, if_true]
  exact h
theorem wpOpsS_value {P : Program} {ops : Array Oper} {Q : Exit → Act → List Frame → World → Prop} {i : Nat} {l : List Nat} {a : Act} {cs : List Frame} {w : World} {o : Oper} {v : Value} (ho : ops[i]? = some o) (hw : o.guard = none) (hr : (execOp a.eval o).run P w = .ok (.value v) w)
    (h : wpOpsS P ops Q l (a.put o.dst v) cs w) : wpOpsS P ops Q (i :: l) a cs w := by
  rw [wpOpsS, ho]
  simp only [Region.wanted, hw, hr, if_true]
  exact h
theorem copy_run {P : Program} {a : Act} {o : Oper} {r : Nat} (h : isCopyOf r o.op = true) (w : World) : (execOp a.eval o).run P w = .ok (.value (a.tmps.getD r undef)) w := by
  unfold isCopyOf at h
  split at h
  · rename_i x hc
    split at h
    · rename_i t
      unfold execOp
      simp only [hc, Sem.run_pure]
      rw [Nat.eq_of_beq_eq_true h]
      rfl
    · cases h
  · cases h
section
variable {P : Program} {G : Nat → Option (List Value)} {M : Md P G} {X : Ctx} {E E0 : Env} {own : Nat → List Nat} {ρ : Regs} {H : Heap} {d : Dx} {a : Act} {w w0 : World} {foot n : Nat}
theorem endD_inv (hE : Entry E0 foot) (hT : Agree P X.T) (hG : SubG X.G G) {fn : Func} (hres : X.results = fn.results.toList) {K : Heap → Option AV → Prop} {e : Ex} {x : Exit} {c0 : Frame} {cs : List Frame} {u : FrameMode} {R : Ending → FrameMode → World → Prop}
    (hR : ∀ {v E' own' H' w}, K H' none → foot ≤ H'.length → RelH G E' own' H' w → Goes E0 w0 E' w → R (.returned v) u w)
    (h : endD (propSig M) X foot K e ρ H d) (r : Rel G (fun _ => True) E own ρ H d a w) (g : Goes E0 w0 E w) (hx : RepEx E e x) :
    bodyPostS P fn c0 cs R x a ({ c0 with mode := u } :: cs) w := by
  have key : endD0 (propSig M) X foot K ρ H d →
      a.defers = [] ∧ ∃ u', ({ c0 with mode := u } : Frame) :: cs = { c0 with mode := u' } :: cs ∧ ∃ v, (results fn a.tmps).run P w = .ok v w ∧ R (.returned v) u' w := by
    intro h
    cases d with
    | cons p d => exact h.elim
    | nil =>
      have hd : a.defers = [] := by
        have := r.defs
        cases hd : a.defers with
        | nil => rfl
        | cons c l => rw [hd] at this; exact this.elim
      obtain ⟨xs, vs, h1, h2, h3⟩ := resultsK_inv (M := M) hT hG r h
      obtain ⟨y, H', E', own', k1, k2, k3, k4, k5⟩ := endK_inv (M := M) hE r g h2 h1
      rw [hres] at h3
      exact ⟨hd, u, rfl, _, results_run h3, hR k1 k2 k3 k5⟩
  cases e with
  | normal => cases x <;> first | exact hx.elim | exact key h
  | ret => cases x <;> first | exact hx.elim | exact key h
  | exit i => exact h.elim
  | panic y => exact h.elim
/-- A deferred call of a function comes to what its body comes to. -/
theorem runD_of_body (hm : P.follows .mixedOrders = true) {f : Nat} {fi : FI} (ok : FnOk P G f fi) {xs : List AV} {H : Heap} {cur : Option AV} {K : Heap → Option AV → Prop}
    (h : bodyD (propSig M) fi.X fi.code xs H cur K) : RunD P G f xs H cur K := by
  unfold bodyD at h
  cases hc : recovers fi.code with
  | none => rw [hc] at h; exact h.elim
  | some p =>
    obtain ⟨rt, st, rest⟩ := p
    rw [hc] at h
    obtain ⟨id, ops, o1, o2, hcode, hops, hd1, hd2, hr1, hr2, hg1, hg2⟩ := recovers_inv hc
    unfold RunD
    intro E w own cs u r0 hok hglob hthere hx hmode
    obtain ⟨fn, hf, hb, hres, hname, hco⟩ := ok.fn
    have hrun : (callFunc f cs.toArray).run P w = .ok (.enter f cs.toArray) w := by
      unfold callFunc
      simp only [Sem.run_bind, run_program, Result.andThen_ok, hf]
      rw [if_neg (by simp [hname])]
      simp [hb]
    refine ⟨hrun, ?_⟩
    have h : layOutK H fun H' => forceRegs (numberedA 0 xs) fun ρ => codeK (propSig M) fi.X H.length rest 0 (endD (propSig M) fi.X H.length K) (.cons st (recAV cur) (.cons rt (recAV cur) ρ)) H' [] := h
    rw [layOutK_eq, forceRegs_eq] at h
    obtain ⟨E1, own1, r1, g1, l1, _⟩ := layOut_rel (G := G) (w := w) ⟨r0, hok, hglob⟩
    have hE : Entry E H.length := fun k => ⟨lt_of_there r0, hthere k⟩
    rw [hcode] at hco
    have hco : (ops.toList.all (dstFits fn.ntmps) && codeOk fi.X fn.ntmps rest) = true := hco
    rw [hops] at hco
    simp only [Bool.and_eq_true, List.all_cons, List.all_nil, Bool.and_true] at hco
    obtain ⟨⟨hf1, hf2⟩, hco⟩ := hco
    refine callsD_of_wpS hf hb fun c0 csx hu => ?_
    rw [hcode, hops]
    refine wpS_seq (wpS_region ?_)
    have hw1 : Region.wanted o1 (yielded #[o1, o2] (cs.toArray ++ Array.replicate (fn.ntmps - cs.toArray.size) undef)) = true := by simp [Region.wanted, hg1]
    have hsz : fn.ntmps ≤ (cs.toArray ++ Array.replicate (fn.ntmps - cs.toArray.size) undef).size := by simp; omega
    have rel0 : Rel G (fun _ => True) E1 own1 (numberedA 0 xs) (layOut H) [] ⟨cs.toArray ++ Array.replicate (fn.ntmps - cs.toArray.size) undef, []⟩ w := by
      refine ⟨fun r _ => ?_, r1.heap, r1.ok, r1.glob, trivial, l1⟩
      have := numberedA_rep (E := E1) 0 (fn.ntmps - cs.toArray.size) r (hx.mono g1.le) (Nat.zero_le _)
      simpa [Array.getD_eq_getD_getElem?, ← Array.getElem?_toList] using this
    obtain ⟨v, u', hv, hset, hstep⟩ : ∃ v u', RepV E1 (recAV cur) v ∧ settle u' = .returning ∧ ∀ {ops : Array Oper} {Q : Exit → Act → List Frame → World → Prop} {l : List Nat} {a : Act},
        wpOpsS P ops Q l (a.put o1.dst v) ({ c0 with mode := u' } :: csx) w →
        (match recoverD (c0 :: csx) with
          | some (v, cs') => wpOpsS P ops Q l (a.put o1.dst v) cs' w
          | none => wpOpsS P ops Q l (a.put o1.dst .nilIface) (c0 :: csx) w) := by
      cases cur with
      | none =>
        have hmode : u = .returning := hmode
        subst hmode
        refine ⟨.nilIface, .returning, ⟨rfl, rfl⟩, rfl, fun h => ?_⟩
        have : recoverD (c0 :: csx) = none := by simp [recoverD, hu]
        rw [this]
        have e : ({ c0 with mode := .returning } : Frame) = c0 := by rw [← hu]
        rw [e] at h
        exact h
      | some x =>
        obtain ⟨v, rfl, hv⟩ := hmode
        refine ⟨v, .panicking [{ v, recovered := true }], hv.mono g1.le, rfl, fun h => ?_⟩
        have : recoverD (c0 :: csx) = some (v, { c0 with mode := .panicking [{ v, recovered := true }] } :: csx) := by simp [recoverD, hu]
        rw [this]
        exact h
    have hd0 : ∀ s, o1.dst = some s → s < (cs.toArray ++ Array.replicate (fn.ntmps - cs.toArray.size) undef).size := dstFits_lt (a := ⟨_, []⟩) hf1 hsz
    have rel1 := rel0.put (dst := o1.dst) (x := recAV cur) (v := v) hd0 hv
    have hsz1 : fn.ntmps ≤ ((⟨cs.toArray ++ Array.replicate (fn.ntmps - cs.toArray.size) undef, []⟩ : Act).put o1.dst v).tmps.size := by rw [put_size]; exact hsz
    have hget : ((⟨cs.toArray ++ Array.replicate (fn.ntmps - cs.toArray.size) undef, []⟩ : Act).put o1.dst v).tmps.getD rt undef = v := by
      rw [put_tmps _ _ _ _ hd0, if_pos hd1]
    have rel2 := rel1.put (dst := o2.dst) (x := recAV cur) (v := v) (dstFits_lt hf2 hsz1) hv
    have hsz2 : fn.ntmps ≤ (((⟨cs.toArray ++ Array.replicate (fn.ntmps - cs.toArray.size) undef, []⟩ : Act).put o1.dst v).put o2.dst v).tmps.size := by rw [put_size]; exact hsz1
    show wpOpsS P #[o1, o2] _ [0, 1] _ _ _
    refine wpOpsS_recover (o := o1) (by simp) hg1 (recover_run hr1 w) (hstep ?_)
    refine wpOpsS_value (o := o2) (by simp) hg2 (copy_run hr2 w) ?_
    rw [hget]
    refine wpS_of_wp ?_
    refine code_sound hE ok.agree ok.glob hm rest 0 (n := fn.ntmps) hco (K := endD (propSig M) fi.X H.length K) (fun {e z ρ H' d E' own a w'} k r g _ hx => ?_) h (own := own1) ?_ g1 hsz2
    · exact endD_inv hE ok.agree ok.glob hres (fun {v E2 own2 H2 w2} k1 k2 k3 k5 => ⟨none, H2, E2, own2, ⟨_, rfl⟩, k1, k2, hset, k3.heap, k3.ok, k5⟩) k r g hx
    · have e1 : o1.dst = some rt := hd1
      have e2 : o2.dst = some st := hd2
      have := rel2
      rw [e1, e2] at this ⊢
      exact this
end
end Am
end Go.Proofs.YtbdnfkmcfencdaaGreatDoor
/- The abstract machine: tables. No condition. -/
namespace Go.Proofs.YtbdnfkmcfencdaaGreatDoor
namespace Am
open Go

section
variable {P : Program} {G : Nat → Option (List Value)}
/-! ### Tables -/
def Tr.toL {α : Type} : Tr α → List (Nat × α)
  | .leaf => []
  | .node l k x r => l.toL ++ (k, x) :: r.toL
theorem Tr.get_mem {α : Type} : ∀ {t : Tr α} {n : Nat} {x : α}, t.get n = some x → (n, x) ∈ t.toL
  | .leaf, n, x, h => by cases h
  | .node l k y r, n, x, h => by
    have h : Bool.rec (Bool.rec (r.get n) (l.get n) (Nat.ble n k)) (some y) (Nat.beq n k) = some x := h
    simp only [Tr.toL, List.mem_append, List.mem_cons]
    cases hb : Nat.beq n k with
    | true => rw [hb] at h; cases h; exact .inr (.inl (by rw [Nat.eq_of_beq_eq_true hb]))
    | false =>
      rw [hb] at h
      cases hc : Nat.ble n k with
      | true => rw [hc] at h; exact .inl (Tr.get_mem h)
      | false => rw [hc] at h; exact .inr (.inr (Tr.get_mem h))
theorem agree_of {t : Tr TI} (h : (t.toL.map fun p => tiOf P p.1) = t.toL.map fun p => some p.2) : Agree P t.get := fun n i e => by
  have hm := Tr.get_mem e
  obtain ⟨j, hj⟩ := List.getElem?_of_mem hm
  have := congrArg (·[j]?) h
  simp only [List.getElem?_map, hj, Option.map_some, Option.some.injEq] at this
  exact ⟨i.flat, by rw [this], .inr rfl⟩
/-- All of a list. -/
def AllL {α : Type} (p : α → Prop) : List α → Prop
  | [] => True
  | x :: l => p x ∧ AllL p l
theorem AllL.mem {α : Type} {p : α → Prop} : ∀ {l : List α}, AllL p l → ∀ x ∈ l, p x
  | y :: l, h, x, hx => by
    rcases List.mem_cons.1 hx with rfl | hx
    · exact h.1
    · exact AllL.mem h.2 x hx
end
end Am
end Go.Proofs.YtbdnfkmcfencdaaGreatDoor
