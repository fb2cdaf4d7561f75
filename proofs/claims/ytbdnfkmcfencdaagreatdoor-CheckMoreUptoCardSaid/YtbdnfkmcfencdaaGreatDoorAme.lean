/- The abstract machine is sound: code in a round of a range over a function; code behind one. No condition. -/
import Derived.Test.YtbdnfkmcfencdaaGreatDoorAmd
import Derived.TacticsIn
import Derived.OrdersIn
import Derived.RangeFuncCalls
import Derived.RangeFuncLeaves
import Derived.Test.YtbdnfkmcfencdaaGreatDoorTab
import Derived.Shelf.Lays
import Derived.Shelf.Strings.Search2
import Derived.RangeFuncNested
import Derived.RangeFuncBound
import Derived.Shelf.Abstract
import Derived.Shelf.RegionOpen
import Derived.WalkKit
import Derived.OwnWalkIn
import Derived.TacticsInMore
import Derived.LoopNIn
import Derived.LoopIn
namespace Go.Proofs.YtbdnfkmcfencdaaGreatDoor
namespace Am
open Go

def notDefer (o : Oper) : Bool := match o.op with | .defer _ => false | _ => true
/-- Code without loops, without defer statements. -/
noncomputable def codeX (c : Code) : Bool :=
  Code.rec (motive := fun _ => Bool) true (fun _ ops _ => ops.toList.all notDefer)
    (fun _ _ a b => a && b) (fun _ _ _ a b => a && b) (fun _ _ a => a) (fun _ _ => false) (fun _ _ _ _ _ _ => false) (fun _ => true) (fun _ _ => false) (fun _ => true) (fun _ => false) true (fun _ => false) c
/-- A way to walk code. -/
structure Lg (P : Program) where
  W : Code → (Exit → Act → World → Prop) → Act → World → Prop
  skip : ∀ {Q a w}, Q .normal a w → W .skip Q a w
  ret : ∀ {Q a w}, Q .ret a w → W .ret Q a w
  exit : ∀ {id Q a w}, Q (.exit id) a w → W (.exit id) Q a w
  label : ∀ {l Q a w}, Q .normal a w → W (.label l) Q a w
  list : ∀ {id ops Q a w}, ops.toList.all notDefer = true → ¬ LetsOut Q → wpList P ops Q ops.toList a w → W (.region id ops false) Q a w
  any : ∀ {id ops Q a w}, ops.toList.all notDefer = true → ¬ LetsOut Q → wpAny P .any ops Q ops.size (Array.replicate ops.size false) a { w with drawn := w.drawn + 1 } → W (.region id ops true) Q a w
  seq : ∀ {x y Q a w}, W x (Exit.then (W y Q) Q) a w → W (.seq x y) Q a w
  cond : ∀ {c x y t Q a w}, a.eval c = .bool t → W (if t then x else y) Q a w → W (.cond c x y) Q a w
  block : ∀ {id c Q a w}, W c (Exit.inBlock id Q) a w → W (.block id c) Q a w

section
variable {P : Program}
theorem out_then {K : Act → World → Prop} {Q : Exit → Act → World → Prop} (h : ¬ LetsOut Q) : ¬ LetsOut (Exit.then K Q) := h
theorem out_block {id : Nat} {Q : Exit → Act → World → Prop} (h : ¬ LetsOut Q) : ¬ LetsOut (Exit.inBlock id Q) := h
theorem not_defer {o : Oper} (h : notDefer o = true) : ∀ c, o.op ≠ .defer c := fun c e => by
  unfold notDefer at h; rw [e] at h; cases h
/-! ### In a round -/
theorem roundCalls {l n f : Nat} {args : Array Value} {w : World} {R : Ending → World → Prop} (h : Calls P f args w R) : CallsIn (Fence.wide.inRound l) n P f args w R := CallsIn.inRound l (callsIn_wide.2 h)
theorem roundRows {l n : Nat} {row : String} {args : Array Value} {w : World} {R : Value → World → Prop} (h : Rows P row args w R) : RowsIn (Fence.wide.inRound l) n P row args w R :=
  fun c cs _ => let ⟨v, w', r, s⟩ := h c cs; ⟨v, w', r, stepsIn_wide.2 s⟩
theorem uponIn_of_upon {l n : Nat} {o : Oper} {a : Act} {next next' : Act → World → Prop} {Q : Exit → Act → World → Prop} {r : Result Next} (hn : ∀ a w, next a w → next' a w) (h : o.upon P a next Q r) : o.uponIn (Fence.wide.inRound l) n P a next' Q r := by
  unfold Oper.upon at h
  split at h
  · exact hn _ _ h
  · exact hn _ _ h
  · exact hn _ _ h
  · refine ⟨fun e => (by simp [Fence.wide] at e), roundCalls (h.mono fun e w he => ?_)⟩
    cases e with
    | returned v => exact hn _ _ he
    | panicked c => exact he
    | outgrown => exact he
  · exact ⟨fun e => (by simp [Fence.wide] at e), roundRows (h.mono fun v w he => hn _ _ he)⟩
  · exact h
  · exact h.elim
theorem wpIn_of_wpO {l n : Nat} {o : Oper} (ho : notDefer o = true) {a : Act} {w : World} {next next' : Act → World → Prop} {Q : Exit → Act → World → Prop} (hn : ∀ a w, next a w → next' a w) (h : o.wp P a w next Q) : o.wpIn (Fence.wide.inRound l) n P a w next' Q := by
  refine ⟨fun _ _ => trivial, ?_⟩
  rw [Fence.inRound_round, Oper.semAt_some _ _ _ (not_defer ho)]
  exact uponIn_of_upon hn h
theorem wpListIn_of {l n : Nat} {ops : Array Oper} {Q : Exit → Act → World → Prop} (hQ : ¬ LetsOut Q) : ∀ {os : List Oper} {a : Act} {w : World}, os.all notDefer = true → wpList P ops Q os a w → wpListIn (Fence.wide.inRound l) n P ops Q os a w
  | [], a, w, _, h => h
  | o :: os, a, w, hd, h => by
    simp only [List.all_cons, Bool.and_eq_true] at hd
    unfold wpList at h
    unfold wpListIn
    split
    · rename_i hw
      rw [if_pos hw] at h
      exact wpIn_of_wpO hd.1 (fun a w h => wpListIn_of hQ hd.2 h) (h.resolve_right fun h => hQ h.2)
    · rename_i hw
      rw [if_neg hw] at h
      exact ⟨fun _ _ => trivial, wpListIn_of hQ hd.2 h⟩
theorem wpAnyIn_of {l n : Nat} {ops : Array Oper} {Q : Exit → Act → World → Prop} (hQ : ¬ LetsOut Q) (hd : ops.toList.all notDefer = true) : ∀ {fuel : Nat} {ls : Array Bool} {a : Act} {w : World}, wpAny P .any ops Q fuel ls a w → wpAnyIn (Fence.wide.inRound l) n P .any ops Q fuel ls a w
  | 0, ls, a, w, h => h
  | fuel + 1, ls, a, w, h => by
    refine ⟨h.1, fun i hi => ?_⟩
    have h := h.2 i hi
    unfold wpOp at h
    unfold wpOpIn
    cases ho : ops[i]? with
    | none => rw [ho] at h; exact wpAnyIn_of hQ hd h
    | some o =>
      rw [ho] at h
      simp only at h ⊢
      have hdo : notDefer o = true := List.all_eq_true.1 hd o (by
        have : ops.toList[i]? = some o := by rw [Array.getElem?_toList]; exact ho
        exact List.mem_of_getElem? this)
      split
      · rename_i hw
        rw [if_pos hw] at h
        exact wpIn_of_wpO hdo (fun a w h => wpAnyIn_of hQ hd h) (h.resolve_right fun h => hQ h.2)
      · rename_i hw
        rw [if_neg hw] at h
        exact ⟨fun _ _ => trivial, wpAnyIn_of hQ hd h⟩
def lgRound (hm : P.follows .mixedOrders = true) (l n : Nat) : Lg P where
  W c Q a w := c.wpIn (Fence.wide.inRound l) n P Q a w
  skip h := wpIn_skip h
  ret h := wpIn_ret h
  exit h := wpIn_exit h
  label h := wpIn_label h
  list hd hQ h := wpIn_region_list (wpListIn_of hQ hd h)
  any hd hQ h := wpIn_region_any hm (wpAnyIn_of hQ hd h)
  seq h := wpIn_seq h
  cond hc h := wpIn_cond hc h
  block h := wpIn_block h
/-! ### With deferred calls behind -/
def suf (ds : List Deferred) (a : Act) : Act := { a with defers := a.defers ++ ds }
def sufQ (ds : List Deferred) (Q : Exit → Act → World → Prop) : Exit → Act → World → Prop := fun e a' w' => ∃ a0, a' = suf ds a0 ∧ Q e a0 w'
theorem suf_put (ds : List Deferred) (a : Act) (dst : Option Nat) (v : Value) : (suf ds a).put dst v = suf ds (a.put dst v) := by
  cases dst <;> rfl
theorem suf_eval (ds : List Deferred) (a : Act) : (suf ds a).eval = a.eval := by
  funext x; cases x <;> rfl
theorem sufOut {ds : List Deferred} {Q : Exit → Act → World → Prop} (h : LetsOut Q) : LetsOut (sufQ ds Q) := by
  obtain ⟨a, w, h⟩ := h
  exact ⟨_, w, a, rfl, h⟩
theorem upon_suf {ds : List Deferred} {o : Oper} {a : Act} {next next' : Act → World → Prop} {Q : Exit → Act → World → Prop} {r : Result Next} (hn : ∀ a w, next a w → next' (suf ds a) w) (h : o.upon P a next Q r) : o.upon P (suf ds a) next' (sufQ ds Q) r := by
  unfold Oper.upon at h
  split at h
  · simp only [Oper.upon]; rw [suf_put]; exact hn _ _ h
  · simp only [Oper.upon]; rw [suf_put]; exact hn _ _ h
  · rename_i d w'
    show next' ((suf ds { a with defers := d :: a.defers }).put o.dst undef) w'
    rw [suf_put]; exact hn _ _ h
  · simp only [Oper.upon]
    refine h.mono fun e w he => ?_
    cases e with
    | returned v =>
      show next' ((suf ds a).put o.dst v) w
      rw [suf_put]; exact hn _ _ he
    | panicked c => exact ⟨_, rfl, he⟩
    | outgrown => exact sufOut he
  · simp only [Oper.upon]
    refine h.mono fun v w he => ?_
    rw [suf_put]; exact hn _ _ he
  · exact ⟨_, rfl, h⟩
  · exact h.elim
theorem wpO_suf {ds : List Deferred} {o : Oper} {a : Act} {w : World} {next next' : Act → World → Prop} {Q : Exit → Act → World → Prop} (hn : ∀ a w, next a w → next' (suf ds a) w) (h : o.wp P a w next Q ∨ (o.asks P a w ∧ LetsOut Q)) : o.wp P (suf ds a) w next' (sufQ ds Q) ∨ (o.asks P (suf ds a) w ∧ LetsOut (sufQ ds Q)) := by
  unfold Oper.wp Oper.asks at *
  rw [suf_eval]
  exact h.imp (upon_suf hn) fun h => ⟨h.1, sufOut h.2⟩
theorem wpList_suf {ds : List Deferred} {ops : Array Oper} {Q : Exit → Act → World → Prop} : ∀ {os : List Oper} {a : Act} {w : World}, wpList P ops Q os a w → wpList P ops (sufQ ds Q) os (suf ds a) w
  | [], a, w, h => ⟨a, rfl, h⟩
  | o :: os, a, w, h => by
    unfold wpList at h ⊢
    have : (suf ds a).tmps = a.tmps := rfl
    rw [this]
    split
    · rename_i hw
      rw [if_pos hw] at h
      exact wpO_suf (fun a w h => wpList_suf h) h
    · rename_i hw
      rw [if_neg hw] at h
      rw [suf_put]; exact wpList_suf h
theorem wpAny_suf {ds : List Deferred} {ops : Array Oper} {Q : Exit → Act → World → Prop} : ∀ {fuel : Nat} {ls : Array Bool} {a : Act} {w : World}, wpAny P .any ops Q fuel ls a w → wpAny P .any ops (sufQ ds Q) fuel ls (suf ds a) w
  | 0, ls, a, w, h => ⟨h.1, a, rfl, h.2⟩
  | fuel + 1, ls, a, w, h => by
    refine ⟨fun hr => ⟨a, rfl, h.1 hr⟩, fun i hi => ?_⟩
    have h := h.2 i hi
    unfold wpOp at h ⊢
    have : (suf ds a).tmps = a.tmps := rfl
    rw [this]
    cases ho : ops[i]? with
    | none => rw [ho] at h; exact wpAny_suf h
    | some o =>
      rw [ho] at h
      simp only at h ⊢
      split
      · rename_i hw
        rw [if_pos hw] at h
        exact wpO_suf (fun a w h => wpAny_suf h) h
      · rename_i hw
        rw [if_neg hw] at h
        rw [suf_put]; exact wpAny_suf h
def lgSuf (hm : P.follows .mixedOrders = true) (ds : List Deferred) : Lg P where
  W c Q a w := c.wp P (sufQ ds Q) (suf ds a) w
  skip h := wp_skip ⟨_, rfl, h⟩
  ret h := wp_ret ⟨_, rfl, h⟩
  exit h := wp_exit ⟨_, rfl, h⟩
  label h := wp_label ⟨_, rfl, h⟩
  list _ _ h := wp_region_list (wpList_suf h)
  any _ _ h := wp_region_any hm (wpAny_suf h)
  seq h := wp_seq (Code.wp_mono (fun e a w ⟨a0, e1, h⟩ => by
    cases e with
    | normal => rw [e1]; exact h
    | _ => exact ⟨a0, e1, h⟩) h)
  cond hc h := wp_cond (by rw [suf_eval]; exact hc) h
  block {id c Q a w} h := wp_block (Code.wp_mono (fun e a w ⟨a0, e1, h⟩ => by
    cases e with
    | exit j =>
      simp only [Exit.inBlock] at h ⊢
      split
      · rename_i hj; rw [if_pos hj] at h; exact ⟨a0, e1, h⟩
      · rename_i hj; rw [if_neg hj] at h; exact ⟨a0, e1, h⟩
    | _ => exact ⟨a0, e1, h⟩) h)
end
end Am
end Go.Proofs.YtbdnfkmcfencdaaGreatDoor
/- The abstract machine is sound: code without loops, however it is walked. No condition. -/
namespace Go.Proofs.YtbdnfkmcfencdaaGreatDoor
namespace Am
open Go

section
variable {P : Program} {G : Nat → Option (List Value)} {M : Md P G} {X : Ctx} {E E0 : Env} {own : Nat → List Nat} {ρ : Regs} {H : Heap} {d : Dx} {a : Act} {w w0 : World} {foot n : Nat}
theorem codeX_sound (lg : Lg P) (hT : Agree P X.T) (hG : SubG X.G G) : ∀ (c : Code) (at_ : Nat) {K : EK Prop} {Q : Exit → Act → World → Prop} {ρ : Regs} {H : Heap} {d : Dx} {E : Env} {own : Nat → List Nat} {a : Act} {w : World},
    codeX c = true → codeOk X n c = true → ¬ LetsOut Q → Good G E0 w0 n K Q → codeK (propSig M) X foot c at_ K ρ H d → Rel G (fun _ => True) E own ρ H d a w → Goes E0 w0 E w → n ≤ a.tmps.size → lg.W c Q a w
  | .skip, _, K, Q, ρ, H, d, E, own, a, w, _, _, _, hQ, h, r, g, ha => lg.skip (hQ (e := .normal) h r g ha trivial)
  | .region id ops draw, _, K, Q, ρ, H, d, E, own, a, w, hX, hok, ho, hQ, h, r, g, ha => by
    have h : regionK (propSig M) X id ops.toList draw K ρ H d := h
    unfold regionK at h
    cases draw with
    | false =>
      have hok : ops.toList.all (dstFits n) = true := hok
      exact lg.list hX ho (ops_sound hT hG hQ (List.all_eq_true.1 hok) h r g ha)
    | true =>
      have hok : (match X.ord id with | some p => drawOk ops.toList n p.1 p.2 | none => false) = true := hok
      simp only [cond_true] at h
      cases hor : X.ord id with
      | none => rw [hor] at hok; cases hok
      | some ord =>
        rw [hor] at h hok
        exact lg.any hX ho (draw_any hT hG hok hQ r g ha h)
  | .seq x y, at_, K, Q, ρ, H, d, E, own, a, w, hX, hok, ho, hQ, h, r, g, ha => by
    have hX : (codeX x && codeX y) = true := hX
    have hok : (codeOk X n x && codeOk X n y) = true := hok
    simp only [Bool.and_eq_true] at hok hX
    have h : codeK (propSig M) X foot x at_ (seqK (codeK (propSig M) X foot y at_ K) K) ρ H d := h
    refine lg.seq (codeX_sound lg hT hG x at_ hX.1 hok.1 (out_then ho) (fun {e z ρ H d E own a w} k r g ha hx => ?_) h r g ha)
    cases e with
    | normal => cases z <;> first | exact hx.elim | exact codeX_sound lg hT hG y at_ hX.2 hok.2 ho hQ k r g ha
    | exit i => cases z <;> first | exact hx.elim | exact hQ k r g ha hx
    | ret => cases z <;> first | exact hx.elim | exact hQ k r g ha hx
    | panic v => cases z <;> first | exact hx.elim | exact hQ k r g ha hx
  | .cond c x y, at_, K, Q, ρ, H, d, E, own, a, w, hX, hok, ho, hQ, h, r, g, ha => by
    have hX2 : (codeX x && codeX y) = true := hX
    have hok2 : (codeOk X n x && codeOk X n y) = true := hok
    simp only [Bool.and_eq_true] at hok2 hX2
    have h : condK (propSig M) c (codeK (propSig M) X foot x at_ K) (codeK (propSig M) X foot y at_ K) ρ H d := h
    unfold condK at h
    obtain ⟨u, h1, hu⟩ := evalK_inv r (x := c) (by cases c <;> trivial) h
    split at h1
    · rename_i b
      obtain ⟨_, he⟩ := hu
      have two : ∀ {ρ1 ρ2 : Regs}, Rel G (fun _ => True) E own ρ1 H d a w → Rel G (fun _ => True) E own ρ2 H d a w → cond b (codeK (propSig M) X foot x at_ K ρ1 H d) (codeK (propSig M) X foot y at_ K ρ2 H d) → lg.W (Code.cond c x y) Q a w := by
        intro ρ1 ρ2 r1 r2 h
        refine lg.cond he ?_
        cases b
        · exact codeX_sound lg hT hG y at_ hX2.2 hok2.2 ho hQ h r2 g ha
        · exact codeX_sound lg hT hG x at_ hX2.1 hok2.1 ho hQ h r1 g ha
      cases c with
      | tmp s =>
        have h1 : cond b (codeK (propSig M) X foot x at_ K (.cons s (.v (.bool true)) ρ) H d) (codeK (propSig M) X foot y at_ K (.cons s (.v (.bool false)) ρ) H d) := h1
        cases b
        · exact lg.cond he (codeX_sound lg hT hG y at_ hX2.2 hok2.2 ho hQ h1 (r.refine (s := s) (by have he : a.tmps.getD s undef = .bool false := he; rw [he]; exact ⟨rfl, rfl⟩)) g ha)
        · exact lg.cond he (codeX_sound lg hT hG x at_ hX2.1 hok2.1 ho hQ h1 (r.refine (s := s) (by have he : a.tmps.getD s undef = .bool true := he; rw [he]; exact ⟨rfl, rfl⟩)) g ha)
      | _ => exact two r r h1
    · exact h1.elim
  | .block id c, _, K, Q, ρ, H, d, E, own, a, w, hX, hok, ho, hQ, h, r, g, ha => by
    have h : codeK (propSig M) X foot c id (blockK id K) ρ H d := h
    refine lg.block (codeX_sound lg hT hG c id hX hok (out_block ho) (fun {e z ρ H d E own a w} k r g ha hx => ?_) h r g ha)
    cases e with
    | normal => cases z <;> first | exact hx.elim | exact hQ k r g ha hx
    | exit i =>
      cases z with
      | exit j =>
        obtain rfl : i = j := hx
        have k : cond (Nat.beq i id) (K .normal ρ H d) (K (.exit i) ρ H d) := k
        cases hb : Nat.beq i id with
        | true =>
          rw [hb] at k
          simp only [Exit.inBlock, Nat.eq_of_beq_eq_true hb, if_true]
          exact hQ k r g ha trivial
        | false =>
          rw [hb] at k
          have : i ≠ id := fun e => by rw [e, Nat.beq_refl] at hb; cases hb
          simp only [Exit.inBlock, this, if_false]
          exact hQ (e := .exit i) k r g ha rfl
      | _ => exact hx.elim
    | ret => cases z <;> first | exact hx.elim | exact hQ k r g ha hx
    | panic v => cases z <;> first | exact hx.elim | exact hQ k r g ha hx
  | .exit id, _, K, Q, ρ, H, d, E, own, a, w, _, _, _, hQ, h, r, g, ha => lg.exit (hQ (e := .exit id) h r g ha rfl)
  | .label l, _, K, Q, ρ, H, d, E, own, a, w, _, _, _, hQ, h, r, g, ha => lg.label (hQ (e := .normal) h r g ha trivial)
  | .ret, _, K, Q, ρ, H, d, E, own, a, w, _, _, _, hQ, h, r, g, ha => lg.ret (hQ (e := .ret) h r g ha trivial)
  | .loop _, _, K, Q, ρ, H, d, E, own, a, w, hX, _, _, _, _, _, _, _ => by cases hX
  | .rangeFunc .., _, K, Q, ρ, H, d, E, own, a, w, _, _, _, _, h, _, _, _ => h.elim
  | .scope _, _, K, Q, ρ, H, d, E, own, a, w, _, _, _, _, h, _, _, _ => h.elim
  | .goto _, _, K, Q, ρ, H, d, E, own, a, w, _, _, _, _, h, _, _, _ => h.elim
  | .refuse _, _, K, Q, ρ, H, d, E, own, a, w, _, _, _, _, h, _, _, _ => h.elim
end
end Am
end Go.Proofs.YtbdnfkmcfencdaaGreatDoor
/- The abstract machine: functions known by the library's contracts. No condition. -/
namespace Go.Proofs.YtbdnfkmcfencdaaGreatDoor
open Go.Shelf
def lays219_ren : Ren where
  f x := match x with
    | 219 => 176
    | 217 => 123
    | 225 => 198
    | 224 => 199
    | 267 => 200
    | 266 => 139
    | 314 => 207
    | n => n
  t x := match x with
    | 9 => 9
    | 3 => 3
    | 4 => 4
    | 5 => 5
    | 46 => 154
    | 146 => 270
    | 51 => 232
    | n => n
  g x := match x with
    | 1 => 0
    | n => n
theorem lays219 : Lays.n219 Tryz.prog lays219_ren where
  mixed := by kernel_rfl
  f217 := by kernel_rfl
  f219 := by kernel_rfl
  f224 := by kernel_rfl
  f225 := by kernel_rfl
  f266 := by kernel_rfl
  f267 := by kernel_rfl
  f314 := by kernel_rfl
  t3 := Tryz.underlying3
  a3 := Tryz.isAgg3
  z3 := Tryz.sizeOf3
  v3 := Tryz.zeroValue3
  t4 := Tryz.underlying4
  a4 := Tryz.isAgg4
  z4 := Tryz.sizeOf4
  v4 := Tryz.zeroValue4
  t5 := Tryz.underlying5
  a5 := Tryz.isAgg5
  z5 := Tryz.sizeOf5
  v5 := Tryz.zeroValue5
  t9 := Tryz.underlying9
  a9 := Tryz.isAgg9
  z9 := Tryz.sizeOf9
  v9 := Tryz.zeroValue9
  t46 := Tryz.underlying154
  a46 := Tryz.isAgg154
  z46 := Tryz.sizeOf154
  v46 := Tryz.zeroValue154
  t51 := Tryz.underlying232
  a51 := Tryz.isAgg232
  z51 := Tryz.sizeOf232
  v51 := Tryz.zeroValue232
  t146 := Tryz.underlying270
  a146 := Tryz.isAgg270
  z146 := Tryz.sizeOf270
  v146 := Tryz.zeroValue270
  g1 := by kernel_rfl
namespace Am
open Go

/-- What is known of the package-level variables, and of one: a number. -/
def GGm (m : Int) (g : Nat) : Option (List Value) := if g = 0 then some [.int .i64 m] else GG g
theorem subG (m : Int) : SubG GG (GGm m) := fun g vs e => by
  unfold GGm
  split
  · rename_i h; subst h; exact absurd e (by rw [show GG 0 = none by kernel_rfl]; nofun)
  · exact e
section
variable {P : Program} {G : Nat → Option (List Value)}
/-- A call that comes to a value, in the world as it is. -/
theorem run_same {f : Nat} {xs : List AV} {x : AV} {H : Heap} (h : ∀ (E : Env) (w : World) (cs : List Value), E.Ok w → Globals E G → RepVs E xs cs → ∃ v, RepV E x v ∧ Called P f cs.toArray w fun e w' => e = .returned v ∧ w' = w) :
    ∀ K : Out → Heap → Prop, K (.ret x) H → Run P G f xs H K := by
  intro K k
  unfold Run
  intro E w own cs r hok hg _ hx
  obtain ⟨v, hv, hc⟩ := h E w cs hok hg hx
  exact hc.mono fun e w' ⟨he, hw⟩ => by subst he hw; exact ⟨.ret x, H, E, own, k, Nat.le_refl _, hv, r, hok, .refl _ _⟩
theorem called_enter {f : Nat} {args : Array Value} {w : World} {R : Ending → World → Prop} (h : (callFunc f args).run P w = .ok (.enter f args) w) (k : Calls P f args w R) : Called P f args w R := by
  unfold Called; rw [h]; exact k
theorem called_value {f : Nat} {args : Array Value} {w : World} {v : Value} (h : (callFunc f args).run P w = .ok (.value v) w) : Called P f args w fun e w' => e = .returned v ∧ w' = w := by
  unfold Called; rw [h]; exact ⟨rfl, rfl⟩
end
/-- The place of a byte. -/
def indexByteA : List UInt8 → Nat → Nat → Int
  | [], _, _ => -1
  | b :: l, c, i => cond (Nat.beq b.toNat c) (Int.ofNat i) (indexByteA l c (i + 1))
def indexByteP : List AV → Option AV
  | [.v (.string b), .v (.int .u8 (Int.ofNat c))] => cond (Nat.blt c 256) (some (.v (.int .i64 (indexByteA b.data.toList c 0)))) none
  | _ => none
def prefixA : List UInt8 → List UInt8 → Bool
  | [], _ => true
  | _ :: _, [] => false
  | a :: l, b :: r => cond (Nat.beq a.toNat b.toNat) (prefixA l r) false
def indexA (p : List UInt8) : List UInt8 → Nat → Int
  | [], i => cond (prefixA p []) (Int.ofNat i) (-1)
  | b :: l, i => cond (prefixA p (b :: l)) (Int.ofNat i) (indexA p l (i + 1))
def indexP : List AV → Option AV
  | [.v (.string b), .v (.string p)] => cond (Nat.blt b.data.toList.length 1000000) (some (.v (.int .i64 (indexA p.data.toList b.data.toList 0)))) none
  | _ => none
theorem indexByteA_eq {c : Nat} (hc : c < 256) : ∀ (l : List UInt8) (i : Nat), indexByteA l c i = if Lib.indexByte l c.toUInt8 = -1 then -1 else Lib.indexByte l c.toUInt8 + i
  | [], i => by simp [indexByteA, Lib.indexByte]
  | b :: l, i => by
    have hb : (b == c.toUInt8) = Nat.beq b.toNat c := by
      rw [Bool.eq_iff_iff, beq_iff_eq, Nat.beq_eq, ← UInt8.toNat_inj]
      simp [Nat.mod_eq_of_lt hc]
    have h := Lib.indexByte_ge l c.toUInt8
    simp only [indexByteA, Lib.indexByte, hb]
    cases Nat.beq b.toNat c with
    | true => simp
    | false =>
      simp only [cond_false, indexByteA_eq hc l (i + 1), Bool.false_eq_true, if_false, beq_iff_eq]
      split
      · rfl
      · rw [if_neg (by omega)]; push_cast; omega
theorem prefixA_eq : ∀ (a b : List UInt8), prefixA a b = a.isPrefixOf b
  | [], b => by cases b <;> rfl
  | _ :: _, [] => rfl
  | a :: l, b :: r => by
    have hb : (a == b) = Nat.beq a.toNat b.toNat := by
      rw [Bool.eq_iff_iff, beq_iff_eq, Nat.beq_eq, ← UInt8.toNat_inj]
    simp only [prefixA, List.isPrefixOf, hb, prefixA_eq l r]
    cases Nat.beq a.toNat b.toNat <;> rfl
theorem indexA_eq (p : List UInt8) : ∀ (l : List UInt8) (i : Nat), indexA p l i = if Lib.index l p = -1 then -1 else Lib.index l p + i
  | [], i => by
    simp only [indexA, Lib.index, prefixA_eq]
    cases p <;> simp
  | b :: l, i => by
    have h := Lib.index_ge l p
    simp only [indexA, Lib.index, prefixA_eq]
    by_cases hp : p.isPrefixOf (b :: l) = true
    · simp [hp]
    · simp only [Bool.not_eq_true] at hp
      simp only [hp, cond_false, indexA_eq p l (i + 1), Bool.false_eq_true, if_false, beq_iff_eq]
      split
      · rfl
      · rw [if_neg (by omega)]; push_cast; omega
def primT (f : Nat) (xs : List AV) : Option AV :=
  cond (Nat.beq f 139) (indexByteP xs) (cond (Nat.beq f 176) (indexP xs) none)
theorem at_lib {l : List UInt8} {f : List UInt8 → Int} (hf : -1 ≤ f l) : (if f l = -1 then -1 else f l + ((0 : Nat) : Int)) = f l := by
  split <;> simp_all
set_option maxRecDepth 100000 in
theorem indexByte_run {xs : List AV} {x : AV} (h : indexByteP xs = some x) {m : Int} {H : Heap} : ∀ K : Out → Heap → Prop, K (.ret x) H → Run Tryz.prog (GGm m) 139 xs H K := by
  unfold indexByteP at h
  split at h
  · rename_i b c
    cases hc : Nat.blt c 256 with
    | false => rw [hc] at h; cases h
    | true =>
      rw [hc] at h
      obtain rfl := (Option.some.inj h).symm
      have hc' : c < 256 := by simpa [Nat.blt_eq] using hc
      refine run_same fun E w cs _ _ hx => ?_
      obtain ⟨v1, v2, rfl⟩ : ∃ v1 v2, cs = [v1, v2] := by
        match cs, hx with
        | [v1, v2], _ => exact ⟨v1, v2, rfl⟩
        | [], h => simp [RepVs] at h
        | [_], h => simp [RepVs] at h
        | _ :: _ :: _ :: _, h => simp [RepVs] at h
      obtain ⟨⟨_, rfl⟩, ⟨_, rfl⟩, _⟩ := hx
      refine ⟨_, ⟨rfl, rfl⟩, called_value ?_⟩
      have e : (callFunc 139 [Value.string b, .int .u8 (Int.ofNat c)].toArray).run Tryz.prog w = _ := run_callFunc_extern (P := Tryz.prog) (f := 139) (fn := Tryz.f139) Tryz.func139 (by kernel_rfl) (by kernel_rfl) (by kernel_rfl) (e := Extern.BytealgIndexByte.indexByte) (by kernel_rfl) _ w
      rw [e, Lib.run_indexByteString]
      rw [indexByteA_eq hc', at_lib (f := fun l => Lib.indexByte l c.toUInt8) (Lib.indexByte_ge _ _)]
      rfl
  · cases h
set_option maxRecDepth 100000 in
theorem index_run {xs : List AV} {x : AV} (h : indexP xs = some x) {m : Int} {H : Heap} : ∀ K : Out → Heap → Prop, K (.ret x) H → Run Tryz.prog (GGm m) 176 xs H K := by
  unfold indexP at h
  split at h
  · rename_i b p
    cases hc : Nat.blt b.data.toList.length 1000000 with
    | false => rw [hc] at h; cases h
    | true =>
      rw [hc] at h
      obtain rfl := (Option.some.inj h).symm
      have hc' : b.size < 1000000 := by
        have : b.data.toList.length < 1000000 := by simpa [Nat.blt_eq] using hc
        simpa using this
      refine run_same fun E w cs hok hg hx => ?_
      obtain ⟨v1, v2, rfl⟩ : ∃ v1 v2, cs = [v1, v2] := by
        match cs, hx with
        | [v1, v2], _ => exact ⟨v1, v2, rfl⟩
        | [], h => simp [RepVs] at h
        | [_], h => simp [RepVs] at h
        | _ :: _ :: _ :: _, h => simp [RepVs] at h
      obtain ⟨⟨_, rfl⟩, ⟨_, rfl⟩, _⟩ := hx
      refine ⟨_, ⟨rfl, rfl⟩, called_enter (enters_of (fn := Tryz.f176) (c := fi176.code) Tryz.func176 (by kernel_rfl) (by kernel_rfl) _ w) ?_⟩
      obtain ⟨_, arr, T, fr, h1, h2⟩ := hg 0 [.int .i64 m] (by simp [GGm])
      have hm : w.cell? ⟨0, 0, none⟩ = some (.int .i64 m) := by
        have h3 := hok.mem _ _ h1
        have h4 : arr[0]? = some (.int .i64 m) := by rw [← Array.getElem?_toList, h2]; rfl
        simp [World.cell?, World.cells?, h3, h4]
      have := Any.stringslite_Index lays219 b p m w (by omega) hm
      refine Calls.mono this fun e w' ⟨he, hw⟩ => ⟨?_, hw⟩
      rw [he, indexA_eq, at_lib (f := fun l => Lib.index l p.data.toList) (Lib.index_ge _ _)]
  · cases h
theorem primT_run {f : Nat} {xs : List AV} {x : AV} (h : primT f xs = some x) {m : Int} {H : Heap} : ∀ K : Out → Heap → Prop, K (.ret x) H → Run Tryz.prog (GGm m) f xs H K := by
  unfold primT at h
  cases h1 : Nat.beq f 139 with
  | true => rw [h1] at h; rw [Nat.eq_of_beq_eq_true h1]; exact indexByte_run h
  | false =>
    rw [h1] at h
    cases h2 : Nat.beq f 176 with
    | true => rw [h2] at h; rw [Nat.eq_of_beq_eq_true h2]; exact index_run h
    | false => rw [h2] at h; cases h
end Am
end Go.Proofs.YtbdnfkmcfencdaaGreatDoor
/- slices.Backward's iterator. No condition. -/
namespace Go.Proofs.YtbdnfkmcfencdaaGreatDoor
open Go.RowKit Go.Shelf
attribute [local go_sem] Oper.semAt_some
set_option maxRecDepth 100000
set_option maxHeartbeats 2000000
theorem ntmps210 : Tryz.f210.ntmps = 19 := by kernel_rfl
theorem back1 (F : Fence) (n : Nat) (hF : F.fn 210) (hro : F.round = none) (hn : 1 ≤ n) (l Bs len cap : Nat) (a : Option Addr) (v : Nat → Int) (hreach : len < 1000000000) (J : Nat → World → Prop)
    (hJ : ∀ k W, J k W → W.cell? ⟨Bs, 0, none⟩ = some (.slice a len cap) ∧ ∀ j, j < len → ∃ b off, a = some ⟨b, off, none⟩ ∧ W.cell? ⟨b, off + j, none⟩ = some (.int .u32 (v j)))
    (hY : ∀ k W, J (k + 1) W → k < len → YieldAt F (n - 1) Tryz.prog l #[.int .i64 (k : Int), .int .u32 (v k)] W fun e W' => e = .returned (.bool true) ∧ J k W')
    (W : World) (h0 : J len W) :
    CallsIn F n Tryz.prog 210 #[.func (.yield l) #[] #[], .pointer (some ⟨Bs, 0, none⟩)] W fun e W' => (∃ v, e = .returned v) ∧ J 0 W' := by
  refine callsIn_of_wp Tryz.func210 rfl hF ?_ hro
  simp only [ntmps210, List.size_toArray, List.length_cons, List.length_nil, Nat.reduceAdd, Nat.reduceSub, Array.replicate_succ, Array.replicate_zero, List.push_toArray, List.append_toArray, List.nil_append, List.cons_append]
  have hB := (hJ _ _ h0).1
  gi_wp2
  gi_loopw [3] (fun i wr => ∃ k : Nat, k ≤ len ∧ i = .int .i64 ((k : Int) - 1) ∧ J k wr)
    (fun i _ => (intOf i + 1).toNat)
  case atStart => exact ⟨len, Nat.le_refl _, rfl, h0⟩
  case round =>
    obtain ⟨k, hk, rfl, hJs⟩ := hrel
    obtain ⟨hB', hc⟩ := hJ _ _ hJs
    cases k with
    | zero =>
      gi_wp2
      go_end0
      exact ⟨⟨_, rfl⟩, hJs⟩
    | succ k =>
      obtain ⟨b, off, rfl, hcx⟩ := hc k hk
      obtain ⟨fn, tmps, assign, body, hy, hR⟩ := hY _ _ hJs hk
      have e : ((k + 1 : Nat) : Int) - 1 = k := by omega
      rw [e]
      gi_wp2
      refine hR.mono ?_
      rintro e W3 ⟨rfl, hJ3⟩
      gi_wp2
      go_roundw
      case rel => exact ⟨k, by omega, rfl, hJ3⟩
      case measure => simp [intOf]
end Go.Proofs.YtbdnfkmcfencdaaGreatDoor
/- The abstract machine: a range over slices.Backward. No condition. -/
namespace Go.Proofs.YtbdnfkmcfencdaaGreatDoor
namespace Am
open Go

section
variable {G : Nat → Option (List Value)} {L : Nat → Prop} {E : Env} {own : Nat → List Nat} {ρ : Regs} {H : Heap} {d : Dx} {a : Act} {w : World}
/-- The world moves where nobody looks. -/
theorem Rel.elsewhere {w' : World} (r : Rel G L E own ρ H d a w) (hs : w.heap.size ≤ w'.heap.size) (h1 : ∀ k b, b ∈ own k → w'.heap[b]? = w.heap[b]?) (h2 : ∀ b, E.Γ b ≠ none → w'.heap[b]? = w.heap[b]?) :
    Rel G L E own ρ H d a w' :=
  ⟨r.regs, ⟨fun k o e => (r.heap.obj k o e).frame' (.refl E) id (h1 k), r.heap.beyond, r.heap.nodup, r.heap.apart, fun k b h => ⟨(r.heap.free k b h).1, Nat.lt_of_lt_of_le (r.heap.free k b h).2 hs⟩⟩, r.ok.world h2, r.glob, r.defs, r.laid⟩
/-- A record turns. -/
theorem Rel.record (r : Rel G L E own ρ H d a w) {l : Nat} {o o' : Obj} (h : w.heap[l]? = some o) (hr : isRec o = true) : Rel G L E own ρ H d a (w.putObj l o') := by
  have ne : ∀ {b : Nat}, b ≠ l → (w.putObj l o').heap[b]? = w.heap[b]? := fun hb => World.putObj_heap_other hb
  refine r.elsewhere (by simp [World.putObj]) (fun k b hb => ne fun e => ?_) (fun b hb => ne fun e => ?_)
  · subst e
    have := r.heap.notRec hb o h
    rw [this] at hr; cases hr
  · subst e
    cases hΓ : E.Γ b with
    | none => exact hb hΓ
    | some o2 =>
      have h1 := r.ok.mem b o2 hΓ
      rw [h] at h1; cases h1
      rw [r.ok.norec b o hΓ] at hr; cases hr
/-- A block that is nobody's is held. -/
theorem Rel.protect (r : Rel G L E own ρ H d a w) {b : Nat} {arr : Array Value} {T : TypeId} {fr : Nat × Nat} (h0 : E.Γ b = none) (hb : ∀ k, b ∉ own k) (hw : w.heap[b]? = some (.cells arr T fr)) :
    ∃ E', Rel G L E' own ρ H d a w ∧ Goes E w E' w ∧ E'.Γ b = some (.cells arr T fr) := by
  let E' : Env := { E with Γ := fun c => if c = b then some (.cells arr T fr) else E.Γ c }
  have hle : E.Le E' := ⟨fun c o hc => by
    have : c ≠ b := fun e => by rw [e, h0] at hc; cases hc
    simp [E', this, hc], fun c hc => hc, fun _ _ => ⟨rfl, rfl, rfl, rfl⟩⟩
  refine ⟨E', r.env hle ⟨fun k o e => (r.heap.obj k o e).frame' hle (fun h => h) fun _ _ => rfl, r.heap.beyond, r.heap.nodup, r.heap.apart, fun k c hc => ⟨?_, (r.heap.free k c hc).2⟩⟩ ⟨fun c o hc => ?_, fun c hc => ?_, fun c o hc => ?_⟩ r.laid, ⟨hle, fun c hc => .inl hc, .refl w⟩, by simp [E']⟩
  · have : c ≠ b := fun e => hb k (e ▸ hc)
    simp only [E', this, if_false]
    exact (r.heap.free k c hc).1
  · by_cases e : c = b
    · subst e; simp [E'] at hc; subst hc; exact hw
    · simp [E', e] at hc; exact r.ok.mem c o hc
  · by_cases e : c = b
    · subst e; simp [E']
    · have hc' : E.im c := hc
      simp only [E', e, if_false]
      exact r.ok.im c hc'
  · by_cases e : c = b
    · subst e; simp [E'] at hc; subst hc; rfl
    · simp [E', e] at hc; exact r.ok.norec c o hc
end

/-! ### What is run -/
def digitOf : List AV → Option Nat
  | [.v (.int .u32 (Int.ofNat n))] => some n
  | _ => none
def digitsOk : List (List AV) → Bool
  | [] => true
  | e :: l => match digitOf e with
    | some _ => digitsOk l
    | none => false
section
variable {β : Type} (σ : Sig β) (X : Ctx)
/-- One round. -/
noncomputable def roundK (foot : Nat) (assign body : Code) (p q : Nat) (ρ1 : Regs) (at_ : Nat) (i : Nat) (x : AV) (K : Heap → β) (H : Heap) : β :=
  codeK σ X foot assign at_ (fun e => match e with
    | .normal => codeK σ X foot body at_ (fun e => match e with
      | .normal => fun _ H d => match d with
        | [] => K H
        | _ => σ.fail
      | _ => fun _ _ _ => σ.fail)
    | _ => fun _ _ _ => σ.fail) (.cons q x (.cons p (.v (.int .i64 (Int.ofNat i))) ρ1)) H []
/-- The rounds, from the last element to the first. -/
noncomputable def roundsK (foot : Nat) (assign body : Code) (p q : Nat) (ρ1 : Regs) (at_ : Nat) (es : List (List AV)) : Nat → (Heap → β) → Heap → β :=
  List.rec (motive := fun _ => Nat → (Heap → β) → Heap → β) (fun _ K H => K H)
    (fun e _ ih i K H => ih (i + 1) (roundK σ X foot assign body p q ρ1 at_ i (e.headD .undef) K) H) es
noncomputable def backwardK (foot : Nat) (g : Operand) (ps : Array Nat) (assign body : Code) (at_ : Nat) (K : EK β) : SK β := fun ρ H d => match d with
  | [] => match ps.toList with
    | [p, q] => evalK σ ρ g fun gv => match gv with
      | .fn f [.ref k 0] => cond (Nat.beq f 210) (boxK σ H k fun cs => match cs with
        | [.imm 1 es] => cond (digitsOk es && Nat.blt es.length 1000000000) (setK H k .dead fun H' => roundsK σ X foot assign body p q ρ at_ es 0 (fun H => K .normal ρ H []) H') σ.fail
        | _ => σ.fail) σ.fail
      | _ => σ.fail
    | _ => σ.fail
  | _ => σ.fail
end
theorem roundsK_snoc {β : Type} (σ : Sig β) (X : Ctx) (foot : Nat) (assign body : Code) (p q : Nat) (ρ1 : Regs) (at_ : Nat) (e : List AV) : ∀ (l : List (List AV)) (i : Nat) (K : Heap → β) (H : Heap),
    roundsK σ X foot assign body p q ρ1 at_ (l ++ [e]) i K H = roundK σ X foot assign body p q ρ1 at_ (i + l.length) (e.headD .undef) (roundsK σ X foot assign body p q ρ1 at_ l i K) H
  | [], i, K, H => rfl
  | a :: l, i, K, H => by
    have := roundsK_snoc σ X foot assign body p q ρ1 at_ e l (i + 1) (roundK σ X foot assign body p q ρ1 at_ i (a.headD .undef) K) H
    rw [show i + 1 + l.length = i + (a :: l).length by simp; omega] at this
    exact this
theorem digitsOk_mem : ∀ {l : List (List AV)}, digitsOk l = true → ∀ (j : Nat) (e : List AV), l[j]? = some e → ∃ n : Nat, e = [.v (.int .u32 (n : Int))]
  | [], _, j, e, h => by simp at h
  | x :: l, hd, j, e, h => by
    unfold digitsOk at hd
    split at hd
    · rename_i n hn
      cases j with
      | zero =>
        simp at h; subst h
        unfold digitOf at hn
        split at hn
        · rename_i m; exact ⟨m, rfl⟩
        · cases hn
      | succ j => exact digitsOk_mem hd j e (by simpa using h)
    · cases hd
def digitAt (es : List (List AV)) (j : Nat) : Int := (((es[j]?).bind digitOf).getD 0 : Nat)
theorem digitAt_eq {es : List (List AV)} (h : digitsOk es = true) {j : Nat} (hj : j < es.length) : es[j]? = some [.v (.int .u32 (digitAt es j))] := by
  have e := List.getElem?_eq_getElem hj
  obtain ⟨n, hn⟩ := digitsOk_mem h j _ e
  unfold digitAt
  rw [e, hn]; rfl
theorem beside_put {w W : World} (h : Beside w W) {l : Nat} (hl : w.heap.size ≤ l) (o : Obj) : Beside w (W.putObj l o) :=
  ⟨h.os, h.tape, h.output, by simp only [World.putObj, Array.size_setIfInBounds]; exact h.size, fun b ob e i => by
    rw [World.putObj_heap_other (by have := lt_size e; omega)]
    exact h.recs b ob e i⟩
theorem Goes.put {E E' : Env} {w W : World} (g : Goes E w E' W) {l : Nat} (hl : w.heap.size ≤ l) (o : Obj) : Goes E w E' (W.putObj l o) := ⟨g.le, g.new, beside_put g.beside hl o⟩
abbrev markOf (D : Nat) : Deferred := { target := .collected D, args := #[] }
noncomputable def rfOk (X : Ctx) (n : Nat) (ps : Array Nat) (assign body : Code) : Bool := match ps.toList with
  | [p, q] => Nat.blt p n && Nat.blt q n && codeX assign && codeX body && codeOk X n assign && codeOk X n body
  | _ => false

section
variable {G : Nat → Option (List Value)} {M : Md Tryz.prog G} {X : Ctx} {E E0 : Env} {own : Nat → List Nat} {ρ : Regs} {H : Heap} {d : Dx} {a : Act} {w w0 : World} {foot n : Nat}
/-- A round. -/
theorem round_sound (hm : Tryz.prog.follows .mixedOrders = true) (hT : Agree Tryz.prog X.T) (hG : SubG X.G G) {assign body : Code} {p q at_ i : Nat} {x : AV} {v1 v2 : Value} {Kf : Heap → Prop} (hok : rfOk X n #[p, q] assign body = true)
    (h : roundK (propSig M) X foot assign body p q ρ at_ i x Kf H) (ha : n ≤ a.tmps.size) (hd : a.defers = []) {l D : Nat} {rec : LoopState → Option Code → Loop} (hrec : ∀ st pe st' pe', { rec st pe with state := st', pending := pe' } = rec st' pe')
    (hst : ∀ st pe, (rec st pe).state = st) (hDl : D ≠ l)
    {W : World} (r : Rel G (fun _ => True) E own ρ H [] a W) (hv1 : v1 = .int .i64 (i : Int)) (hv2 : RepV E x v2) (hl : W.heap[l]? = some (.loop (rec .ready none))) (hD : W.heap[D]? = some (.deferred (some []))) {m f : Nat} :
    RoundIn Fence.wide m Tryz.prog l f ((a.tmps.setIfInBounds p v1).setIfInBounds q v2) assign body W fun e W' => e = .returned (.bool true) ∧
      ∃ E' own' H', Kf H' ∧ Rel G (fun _ => True) E' own' ρ H' [] a W' ∧ E.Le E' ∧ (∀ {Ea wa}, Goes Ea wa E W → wa.heap.size ≤ l → Goes Ea wa E' W') ∧ W'.heap[l]? = some (.loop (rec .ready none)) ∧ W'.heap[D]? = some (.deferred (some [])) := by
  simp only [rfOk, Bool.and_eq_true] at hok
  obtain ⟨⟨⟨⟨⟨hp, hq⟩, hX1⟩, hX2⟩, hO1⟩, hO2⟩ := hok
  have hp : p < n := by simpa [Nat.blt_eq] using hp
  have hq : q < n := by simpa [Nat.blt_eq] using hq
  have r1 := r.put (dst := some p) (x := .v (.int .i64 (Int.ofNat i))) (v := v1) (fun s e => by cases e; omega) ⟨rfl, hv1⟩
  have r2 := r1.put (dst := some q) (x := x) (v := v2) (fun s e => by cases e; rw [put_size]; omega) hv2
  have hact : ((a.put (some p) v1).put (some q) v2) = { tmps := (a.tmps.setIfInBounds p v1).setIfInBounds q v2, defers := [] } := by
    simp only [Act.put, hd]
  have hsz : n ≤ ((a.put (some p) v1).put (some q) v2).tmps.size := by rw [put_size, put_size]; exact ha
  rw [hact] at r2 hsz
  refine roundIn_of_wpIn trivial ?_
  refine codeX_sound (lgRound hm l m) hT hG (E0 := E) (w0 := W) assign at_ hX1 hO1 (fun ⟨_, _, hx⟩ => hx) (fun {e z ρ' H' d' E' own' a' w'} k r3 g3 ha3 hx => ?_) h r2 (.refl E W) hsz
  cases e with
  | exit j => exact k.elim
  | ret => exact k.elim
  | panic y => exact k.elim
  | normal =>
    cases z <;> first | exact hx.elim | skip
    have hl1 := g3.beside.recs _ _ hl rfl
    have hD1 := g3.beside.recs _ _ hD rfl
    refine ⟨_, run_beginRound hl1 (hst _ _), ?_⟩
    have r4 := r3.record (o' := .loop { rec .ready none with state := .busy }) hl1 rfl
    refine codeX_sound (lgRound hm l m) hT hG (E0 := E') (w0 := w'.putObj l (.loop { rec .ready none with state := .busy })) body at_ hX2 hO2 (fun ⟨_, _, hx⟩ => hx) (fun {e z ρ2 H2 d2 E2 own2 a2 w2} k2 r5 g5 ha5 hx2 => ?_) k r4 (.refl _ _) ha3
    cases e with
    | exit j => exact k2.elim
    | ret => exact k2.elim
    | panic y => exact k2.elim
    | normal =>
      cases z <;> first | exact hx2.elim | skip
      cases d2 with
      | cons p d2 => exact k2.elim
      | nil =>
        have hl2 := g5.beside.recs l _ (World.putObj_heap_same (lt_size hl1)) rfl
        have hD2 := g5.beside.recs D _ ((World.putObj_heap_other hDl).trans hD1) rfl
        have hend := run_endRound (P := Tryz.prog) none hl2
        have hrr : ({ ({ rec .ready none with state := .busy } : Loop) with state := if (none : Option Code).isNone then .ready else .done, pending := none } : Loop) = rec .ready none := hrec .ready none .ready none
        rw [hrr] at hend
        have hle := g3.le.trans g5.le
        have r6 := r5.record (o' := .loop (rec .ready none)) hl2 rfl
        exact ⟨_, _, hend, rfl, E2, own2, H2, k2, ⟨fun j hj => (r.regs j hj).mono hle, r6.heap, r6.ok, r6.glob, by rw [hd]; trivial, r6.laid⟩, hle,
          fun ga hla => (((ga.trans g3).put hla _).trans g5).put hla _, World.putObj_heap_same (lt_size hl2), (World.putObj_heap_other hDl).trans hD2⟩
/-- A range over slices.Backward. -/
theorem backward_sound (hm : Tryz.prog.follows .mixedOrders = true) (hT : Agree Tryz.prog X.T) (hG : SubG X.G G) {g : Operand} {ps : Array Nat} {assign body : Code} {at_ : Nat} {K : EK Prop} {Q : Exit → Act → World → Prop} (hok : rfOk X n ps assign body = true)
    (hK : ∀ {ρ H E own a w D}, K .normal ρ H [] → Rel G (fun _ => True) E own ρ H [] a w → Goes E0 w0 E w → n ≤ a.tmps.size → w0.heap.size ≤ D → w.heap[D]? = some (.deferred (some [])) → Q .normal (suf [markOf D] a) w)
    (h : backwardK (propSig M) X foot g ps assign body at_ K ρ H d) (r : Rel G (fun _ => True) E own ρ H d a w) (gs : Goes E0 w0 E w) (ha : n ≤ a.tmps.size) : (Code.rangeFunc g ps assign body).wp Tryz.prog Q a w := by
  unfold backwardK at h
  cases d with
  | cons p d => exact h.elim
  | nil =>
  have hd : a.defers = [] := by
    have := r.defs
    cases hd : a.defers with
    | nil => rfl
    | cons c l => rw [hd] at this; exact this.elim
  simp only at h
  split at h
  case h_2 => exact h.elim
  rename_i p q hps
  obtain rfl : ps = #[p, q] := by rw [← Array.toArray_toList (xs := ps), hps]
  obtain ⟨gv, h, hgv⟩ := evalK_inv r (x := g) (by cases g <;> trivial) h
  split at h
  case h_2 => exact h.elim
  rename_i f k
  obtain ⟨hf, h⟩ := condF h
  obtain rfl := Nat.eq_of_beq_eq_true hf
  obtain ⟨xs, hg, hxs⟩ := hgv
  obtain ⟨c, xs', rfl, hc, hx'⟩ := hxs.cons_inv
  obtain rfl := hx'.nil_inv
  obtain ⟨B, hB, rfl⟩ := hc
  obtain ⟨cs, hk, h⟩ := boxK_inv h
  split at h
  case h_2 => exact h.elim
  rename_i es
  obtain ⟨hde, h⟩ := condF h
  simp only [Bool.and_eq_true] at hde
  obtain ⟨hdig, hlen⟩ := hde
  have hlen : es.length < 1000000000 := by simpa [Nat.blt_eq] using hlen
  rw [setK_eq] at h
  obtain ⟨arr, T, hown, hw, _, hcs⟩ := r.box hk hB
  obtain ⟨c0, r0, hca, hc0, hr0⟩ := hcs.cons_inv
  obtain rfl := hr0.nil_inv
  obtain ⟨ad, cap, rfl, _, hes⟩ := hc0
  have r1 := r.dead k
  have hBk : B ∈ own k := by rw [hown]; simp
  obtain ⟨E1, r2, g2, hΓB⟩ := r1.protect (b := B) (arr := arr) (T := T) (fr := (0, 0)) (r.heap.free k B hBk).1 (fun j hb => by
    by_cases hj : j = k
    · simp [hj] at hb
    · simp only [hj, if_false] at hb
      exact r.heap.apart j k B hj hb hBk) hw
  have gs1 : Goes E0 w0 E1 w := gs.trans g2
  refine (wpIn_wide (n := 5)).1 (wpIn_rangeFunc fun fn hfn => ?_)
  obtain ⟨rec, hrec⟩ : ∃ rec : LoopState → Option Code → Loop, rec = fun st pe => { state := st, pending := pe, fn, tmps := a.tmps, params := #[p, q], assign, body, defers := w.heap.size } := ⟨_, rfl⟩
  obtain ⟨W1, hW1⟩ : ∃ W1, (w.alloc (.deferred (some []))).alloc (.loop (rec .ready none)) = W1 := ⟨_, rfl⟩
  have hL1 : W1.heap[w.heap.size + 1]? = some (.loop (rec .ready none)) := by
    rw [← hW1]; have := World.alloc_heap_new (w.alloc (.deferred (some []))) (.loop (rec .ready none)); rwa [World.size_alloc] at this
  have hold : ∀ (v : World) (o : Obj) (b : Nat), b < v.heap.size → (v.alloc o).heap[b]? = v.heap[b]? := fun v o b hb => push_old v o b hb
  have hK1 : W1.heap[w.heap.size]? = some (.deferred (some [])) := by
    rw [← hW1, hold _ _ _ (by rw [World.size_alloc]; omega)]; exact World.alloc_heap_new w _
  have hb1 : Beside w W1 := by rw [← hW1]; exact (beside_push w _).trans (beside_push _ _)
  have rW1 := r2.world hb1 fun b hb => by rw [← hW1, hold _ _ _ (by rw [World.size_alloc]; omega), hold _ _ _ hb]
  have h1 : ∀ args w, (callFunc 210 args).run Tryz.prog w = .ok (.enter 210 args) w := enters_of (fn := Tryz.f210) (c := fi210.code) Tryz.func210 (by kernel_rfl) (by kernel_rfl)
  refine ⟨w.heap.size + 1, [{ target := .collected w.heap.size, args := #[] }], W1, { target := .fn (.func 210) #[.pointer (some ⟨B, 0, none⟩)], args := #[.func (.yield (w.heap.size + 1)) #[] #[]] }, W1, 210,
    #[.func (.yield (w.heap.size + 1)) #[] #[], .pointer (some ⟨B, 0, none⟩)], W1, ?_, ?_, fun _ _ => trivial, ?_, fun e => (by simp [Fence.wide] at e), ?_⟩
  · rw [← hW1, hrec]; exact run_enterLoop_outer _ _ _ _ _
  · simp only [resolve, hg]
    simp [go_sem]
  · simp [invoke, go_sem, h1]
  · refine (back1 Fence.wide 4 trivial rfl (by omega) (w.heap.size + 1) B es.length cap ad (digitAt es) hlen
      (fun k W => ∃ E' own' H', roundsK (propSig M) X foot assign body p q ρ at_ (es.take k) 0 (fun H => K .normal ρ H []) H' ∧ Rel G (fun _ => True) E' own' ρ H' [] a W ∧ Goes E1 w E' W ∧ W.heap[w.heap.size + 1]? = some (.loop (rec .ready none)) ∧ W.heap[w.heap.size]? = some (.deferred (some [])))
      (fun k W ⟨E', own', H', _, rr, gg, _, _⟩ => ⟨?_, fun j hj => ?_⟩) (fun k W ⟨E', own', H', kk, rr, gg, hl, hD⟩ hk => ?_) W1 ⟨E1, _, _, ?_, rW1, ⟨.refl E1, fun _ h => .inl h, hb1⟩, hL1, hK1⟩).mono ?_
    · have hb := rr.ok.mem B _ (gg.le.Γ _ _ hΓB)
      have ha0 : arr[0]? = some (.slice ad es.length cap) := by rw [← Array.getElem?_toList, hca]; rfl
      simp [World.cell?, hb, ha0]
    · rcases hes with rfl | ⟨b, off, arr2, T2, fr2, rfl, _, hΓ, _, hre⟩
      · simp at hj
      · refine ⟨b, off, rfl, ?_⟩
        have hb := rr.ok.mem b _ (gg.le.Γ _ _ (g2.le.Γ _ _ hΓ))
        obtain ⟨_, hv⟩ := RepEs.get hre (digitAt_eq hdig hj)
        obtain ⟨y, l, hy, ⟨_, rfl⟩, hl⟩ := hv.cons_inv
        have h2 := getElem?_part (l := arr2.toList.drop off) (o := j * 1) (n := 1) (j := 0) (v := .int .u32 (digitAt es j)) (by rw [hy]; rfl)
        rw [List.getElem?_drop, Array.getElem?_toList] at h2
        have h3 : arr2[off + j]? = some (.int .u32 (digitAt es j)) := by simpa using h2
        simp [World.cell?, hb, h3]
    · have hy := run_yield (P := Tryz.prog) (args := #[.int .i64 (k : Int), .int .u32 (digitAt es k)]) hl (by rw [hrec]; rfl)
      rw [List.take_add_one, digitAt_eq hdig hk, Option.toList_some, roundsK_snoc, List.length_take, Nat.zero_add, Nat.min_eq_left (Nat.le_of_lt hk)] at kk
      refine ⟨fn, (a.tmps.setIfInBounds p (.int .i64 (k : Int))).setIfInBounds q (.int .u32 (digitAt es k)), assign, body, by rw [hy, hrec]; simp, ?_⟩
      refine (round_sound (D := w.heap.size) (rec := rec) hm hT hG hok kk ha hd (fun st pe st' pe' => by rw [hrec]) (fun st pe => by rw [hrec]) (by omega) rr (v1 := .int .i64 (k : Int)) (v2 := .int .u32 (digitAt es k)) rfl ⟨rfl, rfl⟩ hl hD).mono ?_
      rintro e W' ⟨he, E2, own2, H2, k2, r2', hle2, hg2, hl2, hD2⟩
      exact ⟨he, E2, own2, H2, k2, r2', hg2 gg (by omega), hl2, hD2⟩
    · rw [List.take_length]; exact h
    · rintro e W2 ⟨⟨v, rfl⟩, E', own', H', kk, rr, gg, hl, hD⟩
      have hend := run_endLoop (P := Tryz.prog) hl (by rw [hrec]; simp)
      have r3 := rr.record (o' := .loop { rec .ready none with state := .exhausted }) hl rfl
      have := hK (D := w.heap.size) kk r3 (gs1.trans (gg.put (by omega) _)) ha gs.beside.size ((World.putObj_heap_other (by omega)).trans hD)
      have e2 : suf [markOf w.heap.size] a = { a with defers := [{ target := .collected w.heap.size, args := #[] }] ++ a.defers } := by
        simp [suf, hd]
      rw [e2] at this
      subst hrec
      exact ⟨none, _, hend, this⟩
end
end Am
end Go.Proofs.YtbdnfkmcfencdaaGreatDoor
/- The abstract machine: functions that range over slices.Backward. No condition. -/
namespace Go.Proofs.YtbdnfkmcfencdaaGreatDoor
namespace Am
open Go

noncomputable def hasR (c : Code) : Bool :=
  Code.rec (motive := fun _ => Bool) false (fun _ _ _ => false)
    (fun _ _ a b => a || b) (fun _ _ _ a b => a || b) (fun _ _ a => a) (fun _ a => a) (fun _ _ _ _ _ _ => true) (fun _ => false) (fun _ _ => false) (fun _ => false) (fun _ => false) false (fun _ => false) c
noncomputable def rangedOk (X : Ctx) (n : Nat) (c : Code) : Bool :=
  Code.rec (motive := fun _ => Bool) false (fun _ _ _ => false)
    (fun x y a b => cond (hasR x) (a && codeX y && codeOk X n y) (codeOk X n x && b)) (fun _ _ _ _ _ => false) (fun _ _ a => a) (fun _ _ => false) (fun _ ps assign body _ _ => rfOk X n ps assign body) (fun _ => false) (fun _ _ => false) (fun _ => false) (fun _ => false) false (fun _ => false) c
section
variable {β : Type} (σ : Sig β) (X : Ctx)
noncomputable def onlyK (K : SK β) : EK β := fun e => match e with
  | .normal => K
  | _ => fun _ _ _ => σ.fail
noncomputable def rangedK (foot : Nat) (c : Code) : Nat → EK β → SK β :=
  Code.rec (motive := fun _ => Nat → EK β → SK β)
    (fun _ _ _ _ _ => σ.fail)
    (fun _ _ _ _ _ _ _ _ => σ.fail)
    (fun x y ihx ihy n K => cond (hasR x) (ihx n (seqK (codeK σ X foot y n K) K)) (codeK σ X foot x n (onlyK σ (ihy n K))))
    (fun _ _ _ _ _ _ _ _ _ _ => σ.fail)
    (fun id _ ih _ K => ih id (blockK id K))
    (fun _ _ _ _ _ _ _ => σ.fail)
    (fun g ps assign body _ _ n K => backwardK σ X foot g ps assign body n K)
    (fun _ _ _ _ _ _ => σ.fail)
    (fun _ _ _ _ _ _ _ => σ.fail)
    (fun _ _ _ _ _ _ => σ.fail)
    (fun _ _ _ _ _ _ => σ.fail)
    (fun _ _ _ _ _ => σ.fail)
    (fun _ _ _ _ _ _ => σ.fail) c
noncomputable def endR (keep : Bool) (foot : Nat) (K : Out → Heap → β) : SK β := fun ρ H d => match d with
  | [] => resultsK σ X ρ H X.results fun vs => endK σ keep foot vs ρ H fun x H => K (.ret x) H
  | _ => σ.fail
noncomputable def exitR (keep : Bool) (foot : Nat) (K : Out → Heap → β) : EK β := fun e => match e with
  | .normal => endR σ X keep foot K
  | .ret => endR σ X keep foot K
  | _ => fun _ _ _ => σ.fail
noncomputable def bodyR (keep : Bool) (c : Code) (args : List AV) (H : Heap) (K : Out → Heap → β) : β :=
  layOutK H fun H' => forceRegs (numberedA 0 args) fun ρ => rangedK σ X H.length c 0 (exitR σ X keep H.length K) ρ H' []
end

section
variable {G : Nat → Option (List Value)} {M : Md Tryz.prog G} {X : Ctx} {E E0 : Env} {own : Nat → List Nat} {ρ : Regs} {H : Heap} {d : Dx} {a : Act} {w w0 : World} {foot n : Nat}
/-- What code behind a range comes to. -/
def After (G : Nat → Option (List Value)) (E0 : Env) (w0 : World) (n : Nat) (K : EK Prop) (Q : Exit → Act → World → Prop) : Prop :=
  ∀ {e x ρ H d E own a w D}, K e ρ H d → Rel G (fun _ => True) E own ρ H d a w → Goes E0 w0 E w → n ≤ a.tmps.size → RepEx E e x → w0.heap.size ≤ D → w.heap[D]? = some (.deferred (some [])) → Q x (suf [markOf D] a) w
theorem after_code (hm : Tryz.prog.follows .mixedOrders = true) (hT : Agree Tryz.prog X.T) (hG : SubG X.G G) {c : Code} {at_ : Nat} {K : EK Prop} {Q : Exit → Act → World → Prop} {D : Nat} (h1 : codeX c = true) (h2 : codeOk X n c = true) (ho : ¬ LetsOut Q) (hQ : After G E0 w0 n K Q)
    (h : codeK (propSig M) X foot c at_ K ρ H d) (r : Rel G (fun _ => True) E own ρ H d a w) (g : Goes E0 w0 E w) (ha : n ≤ a.tmps.size) (hD : w0.heap.size ≤ D) (hw : w.heap[D]? = some (.deferred (some []))) : c.wp Tryz.prog Q (suf [markOf D] a) w := by
  have := codeX_sound (lgSuf hm [markOf D]) hT hG (E0 := E0) (w0 := w) c at_ (Q := fun e a w => Q e (suf [markOf D] a) w) h1 h2 (fun ⟨_, _, hx⟩ => ho ⟨_, _, hx⟩) (fun {e x ρ' H' d' E' own' a' w'} k r2 g2 ha2 hx =>
    hQ k r2 ⟨g2.le, g2.new, g.beside.trans g2.beside⟩ ha2 hx hD (g2.beside.recs _ _ hw rfl)) h r ⟨g.le, g.new, .refl w⟩ ha
  exact Code.wp_mono (fun e a' w' ⟨a0, e1, hq⟩ => by rw [e1]; exact hq) this
theorem ranged_sound (hE : Entry E0 foot) (hm : Tryz.prog.follows .mixedOrders = true) (hT : Agree Tryz.prog X.T) (hG : SubG X.G G) : ∀ (c : Code) (at_ : Nat) {K : EK Prop} {Q : Exit → Act → World → Prop} {ρ : Regs} {H : Heap} {d : Dx} {E : Env} {own : Nat → List Nat} {a : Act} {w : World},
    rangedOk X n c = true → ¬ LetsOut Q → After G E0 w0 n K Q → rangedK (propSig M) X foot c at_ K ρ H d → Rel G (fun _ => True) E own ρ H d a w → Goes E0 w0 E w → n ≤ a.tmps.size → c.wp Tryz.prog Q a w
  | .seq x y, at_, K, Q, ρ, H, d, E, own, a, w, hok, ho, hQ, h, r, g, ha => by
    have hok : cond (hasR x) (rangedOk X n x && codeX y && codeOk X n y) (codeOk X n x && rangedOk X n y) = true := hok
    have h : cond (hasR x) (rangedK (propSig M) X foot x at_ (seqK (codeK (propSig M) X foot y at_ K) K)) (codeK (propSig M) X foot x at_ (onlyK (propSig M) (rangedK (propSig M) X foot y at_ K))) ρ H d := h
    cases hx : hasR x with
    | true =>
      rw [hx] at hok h
      simp only [cond_true, Bool.and_eq_true] at hok
      refine wp_seq (ranged_sound hE hm hT hG x at_ hok.1.1 (out_then ho) (fun {e z ρ H d E own a w D} k r g ha hx hD hw => ?_) h r g ha)
      cases e with
      | normal => cases z <;> first | exact hx.elim | exact after_code hm hT hG hok.1.2 hok.2 ho hQ k r g ha hD hw
      | exit i => cases z <;> first | exact hx.elim | exact hQ k r g ha hx hD hw
      | ret => cases z <;> first | exact hx.elim | exact hQ k r g ha hx hD hw
      | panic v => cases z <;> first | exact hx.elim | exact hQ k r g ha hx hD hw
    | false =>
      rw [hx] at hok h
      simp only [cond_false, Bool.and_eq_true] at hok
      refine wp_seq (code_sound hE hT hG hm x at_ hok.1 (fun {e z ρ H d E own a w} k r g ha hx => ?_) h r g ha)
      cases e with
      | normal => cases z <;> first | exact hx.elim | exact ranged_sound hE hm hT hG y at_ hok.2 ho hQ k r g ha
      | _ => exact k.elim
  | .block id c, _, K, Q, ρ, H, d, E, own, a, w, hok, ho, hQ, h, r, g, ha => by
    have h : rangedK (propSig M) X foot c id (blockK id K) ρ H d := h
    refine wp_block (ranged_sound hE hm hT hG c id hok (out_block ho) (fun {e z ρ H d E own a w D} k r g ha hx hD hw => ?_) h r g ha)
    cases e with
    | normal => cases z <;> first | exact hx.elim | exact hQ k r g ha hx hD hw
    | exit i =>
      cases z with
      | exit j =>
        obtain rfl : i = j := hx
        have k : cond (Nat.beq i id) (K .normal ρ H d) (K (.exit i) ρ H d) := k
        cases hb : Nat.beq i id with
        | true =>
          rw [hb] at k
          simp only [Exit.inBlock, Nat.eq_of_beq_eq_true hb, if_true]
          exact hQ k r g ha trivial hD hw
        | false =>
          rw [hb] at k
          have : i ≠ id := fun e => by rw [e, Nat.beq_refl] at hb; cases hb
          simp only [Exit.inBlock, this, if_false]
          exact hQ (e := .exit i) k r g ha rfl hD hw
      | _ => exact hx.elim
    | ret => cases z <;> first | exact hx.elim | exact hQ k r g ha hx hD hw
    | panic v => cases z <;> first | exact hx.elim | exact hQ k r g ha hx hD hw
  | .rangeFunc gg ps assign body, at_, K, Q, ρ, H, d, E, own, a, w, hok, ho, hQ, h, r, g, ha =>
    backward_sound hm hT hG hok (fun k r g ha hD hw => hQ (e := .normal) k r g ha trivial hD hw) h r g ha
  | .skip, _, K, Q, ρ, H, d, E, own, a, w, hok, _, _, _, _, _, _ => by cases hok
  | .region .., _, K, Q, ρ, H, d, E, own, a, w, hok, _, _, _, _, _, _ => by cases hok
  | .cond .., _, K, Q, ρ, H, d, E, own, a, w, hok, _, _, _, _, _, _ => by cases hok
  | .loop _, _, K, Q, ρ, H, d, E, own, a, w, hok, _, _, _, _, _, _ => by cases hok
  | .exit _, _, K, Q, ρ, H, d, E, own, a, w, hok, _, _, _, _, _, _ => by cases hok
  | .label _, _, K, Q, ρ, H, d, E, own, a, w, hok, _, _, _, _, _, _ => by cases hok
  | .ret, _, K, Q, ρ, H, d, E, own, a, w, hok, _, _, _, _, _, _ => by cases hok
  | .scope _, _, K, Q, ρ, H, d, E, own, a, w, hok, _, _, _, _, _, _ => by cases hok
  | .goto _, _, K, Q, ρ, H, d, E, own, a, w, hok, _, _, _, _, _, _ => by cases hok
  | .refuse _, _, K, Q, ρ, H, d, E, own, a, w, hok, _, _, _, _, _, _ => by cases hok
/-- What is checked, once, of a function that ranges over a function. -/
structure FnOkR (G : Nat → Option (List Value)) (f : Nat) (fi : FI) : Prop where
  fn : ∃ fn, Tryz.prog.funcs[f]? = some fn ∧ fn.body = some fi.code ∧ fi.X.results = fn.results.toList ∧ (fn.name == "runtime.NumGoroutine") = false ∧ rangedOk fi.X fn.ntmps fi.code = true
  agree : Agree Tryz.prog fi.X.T
  glob : SubG fi.X.G G
set_option maxRecDepth 100000 in
theorem run_of_ranged (hm : Tryz.prog.follows .mixedOrders = true) {f : Nat} {fi : FI} (ok : FnOkR G f fi) {xs : List AV} {H : Heap} {K : Out → Heap → Prop} (h : bodyR (propSig M) fi.X fi.keep fi.code xs H K) : Run Tryz.prog G f xs H K := by
  unfold Run
  intro E w own cs r0 hok hglob hthere hx
  obtain ⟨fn, hf, hb, hres, hname, hcode⟩ := ok.fn
  have hrun : (callFunc f cs.toArray).run Tryz.prog w = .ok (.enter f cs.toArray) w := by
    unfold callFunc
    simp only [Sem.run_bind, run_program, Result.andThen_ok, hf]
    rw [if_neg (by simp [hname])]
    simp [hb]
  refine called_enter hrun ?_
  have h : layOutK H fun H' => forceRegs (numberedA 0 xs) fun ρ => rangedK (propSig M) fi.X H.length fi.code 0 (exitR (propSig M) fi.X fi.keep H.length K) ρ H' [] := h
  rw [layOutK_eq, forceRegs_eq] at h
  obtain ⟨E1, own1, r1, g1, l1, _⟩ := layOut_rel (G := G) (w := w) ⟨r0, hok, hglob⟩
  have hE : Entry E H.length := fun k => ⟨lt_of_there r0, hthere k⟩
  refine (callsIn_wide (n := 5)).1 (callsIn_of_wp_marks hf hb trivial ((wpIn_wide (n := 5)).2 (ranged_sound hE hm ok.agree ok.glob fi.code 0 (n := fn.ntmps) (K := exitR (propSig M) fi.X fi.keep H.length K) hcode (fun ⟨_, _, hx⟩ => ?_) (fun {e z ρ' H' d' E' own' a' w' D} k r g ha hx hD hw => ?_) h ⟨fun r _ => ?_, r1.heap, r1.ok, r1.glob, trivial, l1⟩ g1 ?_)))
  · obtain ⟨o, H', E', own', _, _, k3, _⟩ := hx
    cases o <;> exact k3.elim
  · have key : endR (propSig M) fi.X fi.keep H.length K ρ' H' d' → LeavesInM Fence.wide 5 Tryz.prog fn (suf [markOf D] a').tmps (fun e w' => ∃ o H' E' own', K o H' ∧ H.length ≤ H'.length ∧ RepOut E' o e ∧ RepH E' w' H' own' ∧ E'.Ok w' ∧ Goes E w E' w') (suf [markOf D] a').defers .returning w' := by
      intro k
      unfold endR at k
      cases d' with
      | cons p d' => exact k.elim
      | nil =>
        have hd : a'.defers = [] := by
          have := r.defs
          cases hd : a'.defers with
          | nil => rfl
          | cons c l => rw [hd] at this; exact this.elim
        have e1 : (suf [markOf D] a').defers = [markOf D] := by simp [suf, hd]
        rw [e1]
        have r2 := r.record (o' := .deferred none) hw rfl
        have g2 := g.put hD (.deferred none)
        obtain ⟨xs, vs, h1, h2, h3⟩ := resultsK_inv (M := M) ok.agree ok.glob r2 k
        obtain ⟨y, H2, E2, own2, k1, k2, k3, k4, k5⟩ := endK_inv (M := M) hE r2 g2 h2 h1
        rw [hres] at h3
        exact ⟨by simp, .inl ⟨D, _, rfl, run_takeDeferred hw, _, results_run h3, .ret y, H2, E2, own2, k1, k2, k4, k3.heap, k3.ok, k5⟩⟩
    cases e with
    | normal => cases z <;> first | exact hx.elim | exact key k
    | ret => cases z <;> first | exact hx.elim | exact key k
    | exit i => exact k.elim
    | panic y => exact k.elim
  · have := numberedA_rep (E := E1) 0 (fn.ntmps - cs.toArray.size) r (hx.mono g1.le) (Nat.zero_le _)
    simpa [Array.getD_eq_getD_getElem?, ← Array.getElem?_toList] using this
  · simp; omega
end
end Am
end Go.Proofs.YtbdnfkmcfencdaaGreatDoor
/- The abstract machine: closed runs. No condition. -/
namespace Go.Proofs.YtbdnfkmcfencdaaGreatDoor
namespace Am
open Go

/-- What is known of a program: functions' codes; functions whose answers are told. -/
structure Known (P : Program) (G : Nat → Option (List Value)) where
  F : Nat → Option FI
  prim : Nat → List AV → Heap → Option (Out × Heap)
  ok : ∀ f fi, F f = some fi → FnOk P G f fi
  prim_run : ∀ f xs H r, prim f xs H = some r → ∀ K, K r.1 r.2 → Run P G f xs H K
  ranged : Nat → Option FI
  ranged_run : ∀ f fi, ranged f = some fi → ∀ (M : Md P G) xs H K, bodyR (propSig M) fi.X fi.keep fi.code xs H K → Run P G f xs H K
  mixed : P.follows .mixedOrders = true
section
variable {P : Program} {G : Nat → Option (List Value)}
theorem numO_eq {β : Type} (n : Int) (K : Int → β) : numO n K = K n := by
  unfold numO
  split <;> rfl
theorem loop_fixed (rounds : Nat) (body : EK Prop → SK Prop) (head : SK Prop → SK Prop) (K : EK Prop) (ρ : Regs) (H : Heap) (d : Dx) (h : loopN False body head K rounds ρ H d) : LoopP body head K ρ H d := by
  unfold LoopP
  exact .inl ⟨rounds, h⟩
noncomputable def deferC (Kn : Known P G) (M : Md P G) (f : Nat) (xs : List AV) (H : Heap) (cur : Option AV) (K : Heap → Option AV → Prop) : Prop :=
  match Kn.F f with
  | some fi => bodyD (propSig M) fi.X fi.code xs H cur K
  | none => False
theorem deferC_run (Kn : Known P G) (M : Md P G) (f : Nat) (xs : List AV) (H : Heap) (cur : Option AV) (K : Heap → Option AV → Prop) (h : deferC Kn M f xs H cur K) : RunD P G f xs H cur K := by
  unfold deferC at h
  split at h
  · rename_i fi e; exact runD_of_body Kn.mixed (Kn.ok f fi e) h
  · exact h.elim
noncomputable def callC (Kn : Known P G) (M : Md P G) (f : Nat) (xs : List AV) (H : Heap) (K : Out → Heap → Prop) : Prop :=
  match Kn.prim f xs H with
  | some r => K r.1 r.2
  | none => match Kn.F f with
    | some fi => bodyK (propSig M) fi.X fi.keep fi.code xs H K
    | none => match Kn.ranged f with
      | some fi => bodyR (propSig M) fi.X fi.keep fi.code xs H K
      | none => False
theorem callC_run (Kn : Known P G) (M : Md P G) (f : Nat) (xs : List AV) (H : Heap) (K : Out → Heap → Prop) (h : callC Kn M f xs H K) : Run P G f xs H K := by
  unfold callC at h
  split at h
  · rename_i x e; exact Kn.prim_run f xs H x e K h
  · split at h
    · rename_i fi e; exact run_of_body Kn.mixed (Kn.ok f fi e) h
    · split at h
      · rename_i fi e; exact Kn.ranged_run f fi e M xs H K h
      · exact h.elim
/-- Closed runs: calls so deep, loops so long. -/
noncomputable def closedMd (Kn : Known P G) (rounds : Nat) (n : Nat) : Md P G :=
  Nat.rec (motive := fun _ => Md P G)
    { num := numO, elem := fun es n K => getK es n False K, elem_iff := getK_iff, call := fun _ _ _ _ => False, defer := fun _ _ _ _ _ => False, loop := fun body head K => loopN False body head K rounds, num_eq := numO_eq, call_run := fun _ _ _ _ h => h.elim, defer_run := fun _ _ _ _ _ h => h.elim, loop_run := loop_fixed rounds }
    (fun _ M => { num := numO, elem := fun es n K => getK es n False K, elem_iff := getK_iff, call := callC Kn M, defer := deferC Kn M, loop := fun body head K => loopN False body head K rounds, num_eq := numO_eq, call_run := callC_run Kn M, defer_run := deferC_run Kn M, loop_run := loop_fixed rounds }) n
theorem run_closed (Kn : Known P G) {rounds n f : Nat} {xs : List AV} {H : Heap} {r : Out × Heap} (h : (closedMd Kn rounds n).call f xs H (fun o H' => (o, H') = r) = (r = r)) : Run P G f xs H fun o H' => (o, H') = r :=
  (closedMd Kn rounds n).call_run _ _ _ _ (h ▸ rfl)
end
end Am
end Go.Proofs.YtbdnfkmcfencdaaGreatDoor
/- The abstract machine: what is known of the program; runs kept. No condition. -/
namespace Go.Proofs.YtbdnfkmcfencdaaGreatDoor
namespace Am
open Go
theorem fi189_ok {G : Nat → Option (List Value)} (hG : SubG GG G) : FnOkR G 189 fi189 := ⟨⟨Tryz.f189, Tryz.func189, by kernel_rfl, by kernel_rfl, by kernel_rfl, by kernel_rfl⟩, TT_agree, hG⟩
def eqBytes : List UInt8 → List UInt8 → Bool
  | [], [] => true
  | a :: l, b :: m => cond (Nat.beq a.toNat b.toNat) (eqBytes l m) false
  | _, _ => false
theorem eqBytes_eq : ∀ {l m : List UInt8}, eqBytes l m = true → l = m
  | [], [], _ => rfl
  | a :: l, b :: m, h => by
    have h : cond (Nat.beq a.toNat b.toNat) (eqBytes l m) false = true := h
    cases hb : Nat.beq a.toNat b.toNat with
    | false => rw [hb] at h; cases h
    | true =>
      rw [hb] at h
      rw [UInt8.toNat_inj.1 (Nat.eq_of_beq_eq_true hb), eqBytes_eq h]
  | [], _ :: _, h => by cases h
  | _ :: _, [], h => by cases h
/-- What is known ahead of all runs. 'm': what internal/bytealg.MaxLen holds. -/
noncomputable def kn0 (m : Int) : Known Tryz.prog (GGm m) where
  F := FF.get
  prim f xs H := match primT f xs with
    | some x => some (.ret x, H)
    | none => none
  ok := FF_ok (subG m)
  prim_run f xs H r h K k := by
    split at h
    · rename_i x e
      cases h
      exact primT_run e K k
    · cases h
  ranged f := cond (Nat.beq f 189) (some fi189) none
  ranged_run f fi h M xs H K k := by
    cases hb : Nat.beq f 189 with
    | false => rw [hb] at h; cases h
    | true =>
      rw [hb] at h; cases h
      rw [Nat.eq_of_beq_eq_true hb]
      exact run_of_ranged mixed (fi189_ok (subG m)) k
  mixed := mixed
section
variable {P : Program} {G : Nat → Option (List Value)}
def memoP (f0 : Nat) (b0 : ByteArray) (r : Out × Heap) (f : Nat) (xs : List AV) (H : Heap) : Option (Out × Heap) :=
  cond (Nat.beq f f0) (match xs, H with
    | [.v (.string b)], [] => cond (eqBytes b.data.toList b0.data.toList) (some r) none
    | _, _ => none) none
theorem memoP_eq {f0 : Nat} {b0 : ByteArray} {r : Out × Heap} {f : Nat} {xs : List AV} {H : Heap} {r' : Out × Heap} (h : memoP f0 b0 r f xs H = some r') : f = f0 ∧ xs = [.v (.string b0)] ∧ H = [] ∧ r' = r := by
  unfold memoP at h
  cases hb : Nat.beq f f0 with
  | false => rw [hb] at h; cases h
  | true =>
    rw [hb] at h
    simp only [cond_true] at h
    split at h
    · rename_i b
      cases hc : eqBytes b.data.toList b0.data.toList with
      | false => rw [hc] at h; cases h
      | true =>
        rw [hc] at h; cases h
        refine ⟨Nat.eq_of_beq_eq_true hb, ?_, rfl, rfl⟩
        have := eqBytes_eq hc
        congr 3
        cases b with
        | mk a => cases b0 with
          | mk a0 =>
            congr 1
            cases a; cases a0
            simpa using this
    · cases h
theorem Run.weaken {f : Nat} {xs : List AV} {H : Heap} {r : Out × Heap} (h : Run P G f xs H fun o H' => (o, H') = r) {K : Out → Heap → Prop} (k : K r.1 r.2) : Run P G f xs H K := by
  unfold Run at *
  intro E w own cs h1 h2 h3 h4 h5
  refine (h E w own cs h1 h2 h3 h4 h5).mono fun e w' ⟨o, H', E', own', k1, k2⟩ => ⟨o, H', E', own', ?_, k2⟩
  rw [← k1] at k; exact k
/-- A run of one string, kept. -/
noncomputable def memoS (kn : Known P G) (f0 : Nat) (b0 : ByteArray) (r : Out × Heap) (h : Run P G f0 [.v (.string b0)] [] fun o H' => (o, H') = r) : Known P G where
  F := kn.F
  prim f xs H := match memoP f0 b0 r f xs H with
    | some r => some r
    | none => kn.prim f xs H
  ok := kn.ok
  prim_run f xs H r' e K k := by
    split at e
    · rename_i r2 e2
      cases e
      obtain ⟨rfl, rfl, rfl, rfl⟩ := memoP_eq e2
      exact h.weaken k
    · exact kn.prim_run f xs H r' e K k
  ranged := kn.ranged
  ranged_run := kn.ranged_run
  mixed := kn.mixed
end
end Am
end Go.Proofs.YtbdnfkmcfencdaaGreatDoor
