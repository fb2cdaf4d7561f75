/- Law 12: names (lex.IsName). No condition. -/
import Derived.Test.YtbdnfkmcfencdaaGreatDoorCka
import Derived.Laws.RangeAny
import Derived.Test.YtbdnfkmcfencdaaGreatDoorCkb
namespace Go.Proofs.YtbdnfkmcfencdaaGreatDoor
namespace Am
open Go
set_option maxRecDepth 100000
set_option maxHeartbeats 1000000

theorem brute {n : Nat} {f g : Nat → Prop} (h : (List.range n).map f = (List.range n).map g) {i : Nat} (hi : i < n) : f i = g i := by
  have := congrArg (·[i]?) h
  simpa [hi] using this
/-- May a byte begin a name? -/
def letterB (c : Nat) : Bool := (Nat.ble 65 c && Nat.ble c 90) || (Nat.ble 97 c && Nat.ble c 122) || Nat.beq c 95
def digitB (c : Nat) : Bool := Nat.ble 48 c && Nat.ble c 57
def innerB (c : Nat) : Bool := letterB c || digitB c
theorem letter_all (m : Int) : (List.range 256).map (fun i => (closedMd (kn0 m) 5 5).call 31 [.v (.int .u8 (Int.ofNat i))] [] fun o H => (o, H) = (.ret (.v (.bool (letterB i))), [])) = (List.range 256).map (fun i => ((Out.ret (.v (.bool (letterB i))), ([] : Heap)) = (Out.ret (.v (.bool (letterB i))), []))) := by kernel_rfl
theorem inner_all (m : Int) : (List.range 256).map (fun i => (closedMd (kn0 m) 5 5).call 30 [.v (.int .u8 (Int.ofNat i))] [] fun o H => (o, H) = (.ret (.v (.bool (innerB i))), [])) = (List.range 256).map (fun i => ((Out.ret (.v (.bool (innerB i))), ([] : Heap)) = (Out.ret (.v (.bool (innerB i))), []))) := by kernel_rfl
theorem letter_run (m : Int) {c : Nat} (hc : c < 256) : Run Tryz.prog (GGm m) 31 [.v (.int .u8 c)] [] fun o H => o = .ret (.v (.bool (letterB c))) ∧ H = [] :=
  Run.mono (fun _ _ h => Prod.mk.inj h) (run_closed (kn0 m) (brute (letter_all m) hc))
theorem inner_run (m : Int) {c : Nat} (hc : c < 256) : Run Tryz.prog (GGm m) 30 [.v (.int .u8 c)] [] fun o H => o = .ret (.v (.bool (innerB c))) ∧ H = [] :=
  Run.mono (fun _ _ h => Prod.mk.inj h) (run_closed (kn0 m) (brute (inner_all m) hc))
def wordsL : List ByteArray := [⟨#[116, 105, 99, 107, 115]⟩, ⟨#[105, 110, 112, 117, 116]⟩, ⟨#[118, 97, 114]⟩, ⟨#[105, 110, 105, 116]⟩, ⟨#[115, 116, 101, 112]⟩, ⟨#[105, 102]⟩, ⟨#[101, 108, 115, 101]⟩, ⟨#[102, 111, 114]⟩, ⟨#[116, 114, 117, 101]⟩, ⟨#[102, 97, 108, 115, 101]⟩, ⟨#[105, 110, 116]⟩, ⟨#[102, 108, 111, 97, 116]⟩, ⟨#[98, 111, 111, 108]⟩, ⟨#[97, 98, 115]⟩, ⟨#[105, 110]⟩]
/-- Is it a word of the language? -/
def wordB (s : ByteArray) : Bool := wordsL.any fun w => sameBytes s.data.toList w.data.toList
def wordsKv : List (Value × AV) := [(.string ⟨#[116, 105, 99, 107, 115]⟩, .v (.int .i64 1)), (.string ⟨#[105, 110, 112, 117, 116]⟩, .v (.int .i64 2)), (.string ⟨#[118, 97, 114]⟩, .v (.int .i64 3)), (.string ⟨#[105, 110, 105, 116]⟩, .v (.int .i64 4)), (.string ⟨#[115, 116, 101, 112]⟩, .v (.int .i64 5)), (.string ⟨#[105, 102]⟩, .v (.int .i64 6)), (.string ⟨#[101, 108, 115, 101]⟩, .v (.int .i64 7)), (.string ⟨#[102, 111, 114]⟩, .v (.int .i64 8)), (.string ⟨#[116, 114, 117, 101]⟩, .v (.int .i64 9)), (.string ⟨#[102, 97, 108, 115, 101]⟩, .v (.int .i64 10)), (.string ⟨#[105, 110, 116]⟩, .v (.int .i64 11)), (.string ⟨#[102, 108, 111, 97, 116]⟩, .v (.int .i64 12)), (.string ⟨#[98, 111, 111, 108]⟩, .v (.int .i64 13)), (.string ⟨#[97, 98, 115]⟩, .v (.int .i64 14)), (.string ⟨#[105, 110]⟩, .v (.int .i64 15))]
theorem words_run (m : Int) : Run Tryz.prog (GGm m) 53 [] [] fun o H => o = .ret (.mp 0) ∧ H = [.map wordsKv] :=
  Run.mono (fun _ _ h => Prod.mk.inj h) (run_closed (kn0 m) (rounds := 5) (n := 5) (f := 53) (xs := []) (H := []) (r := (.ret (.mp 0), [.map wordsKv])) (by kernel_rfl))
theorem word_run (m : Int) (s : ByteArray) : Run Tryz.prog (GGm m) 32 [.v (.string s)] [] fun o H => o = .ret (.v (.bool (wordB s))) ∧ H = [] := by
  refine run_of_body (M := symMd _ _) mixed (FF_ok (subG m) 32 fi32 (by kernel_rfl)) ?_
  conv => whnf
  refine Run.mono (fun o P h => ?_) (words_run m)
  obtain ⟨rfl, rfl⟩ := h
  conv => whnf
  repeat' first
    | (refine ⟨?_, rfl⟩; simp only [wordB, wordsL, List.any_cons, List.any_nil, *]; rfl)
    | (refine condI (fun _ => ?_) (fun _ => ?_) <;> (conv => whnf))
theorem byte_lt (b : UInt8) : b.toNat < 256 := b.toNat_lt
/-- Is it a name? -/
def nameB (s : ByteArray) : Bool := s.data.toList.all (fun b => innerB b.toNat) && !(sameBytes s.data.toList (ByteArray.mk #[]).data.toList) && decide ((s.size : Int) ≤ 32) && letterB (s.get! 0).toNat && !wordB s
theorem get_byte {s : ByteArray} {i : Nat} (h : i < s.size) : s.data.toList[i]? = some (s[i]'h) := by
  rw [Array.getElem?_toList, Array.getElem?_eq_getElem h]; rfl
theorem isName_run (m : Int) (s : ByteArray) (hs : s.size < 2097152) : Run Tryz.prog (GGm m) 14 [.v (.string s)] [] fun o H => o = .ret (.v (.bool (nameB s))) ∧ H = [] := by
  have hsz : s.data.toList.length = s.size := by cases s; simp [ByteArray.size]
  refine run_of_body (M := symMd _ _) mixed (FF_ok (subG m) 14 fi14 (by kernel_rfl)) ?_
  conv => whnf
  refine LoopP.inv (fun k ρ H => ∃ i : Nat, i + k = s.size ∧ (s.data.toList.take i).all (fun b => innerB b.toNat) = true ∧ ρ = .cons 0 (.v (.string s)) (.cons 6 (.it 0) .nil) ∧ H = [.siter s i]) s.size ?_ ?_
  · conv => whnf
    exact ⟨rfl, 0, by simp, by simp, rfl, rfl⟩
  · rintro k ρ H ⟨i, hi, hall, rfl, rfl⟩
    conv => whnf
    refine condI (fun h => ?_) (fun h => ?_)
    · have hlt : i < s.size := by simpa using h
      have hd : ((s[i]'hlt).toNat < 128 ∧ Utf8.decode s i = ((s[i]'hlt).toNat, 1)) ∨ (128 ≤ (s[i]'hlt).toNat ∧ 128 ≤ (Utf8.decode s i).1) := by
        by_cases hb : (s[i]'hlt).toNat < 128
        · exact .inl ⟨hb, decode_ascii s i hlt hb⟩
        · exact .inr ⟨by omega, (decode_high s i hlt (by omega)).1⟩
      have hget := get_byte hlt
      have hin : 128 ≤ (s[i]'hlt).toNat → innerB (s[i]'hlt).toNat = false := by
        intro h
        simp only [innerB, letterB, digitB]
        have e1 : Nat.ble (s[i]'hlt).toNat 90 = false := by rw [← Bool.not_eq_true, Nat.ble_eq]; omega
        have e2 : Nat.ble (s[i]'hlt).toNat 122 = false := by rw [← Bool.not_eq_true, Nat.ble_eq]; omega
        have e3 : Nat.ble (s[i]'hlt).toNat 57 = false := by rw [← Bool.not_eq_true, Nat.ble_eq]; omega
        have e4 : Nat.beq (s[i]'hlt).toNat 95 = false := by rw [← Bool.not_eq_true, Nat.beq_eq]; omega
        simp [e1, e2, e3, e4]
      have hbad : innerB (s[i]'hlt).toNat = false → nameB s = false := by
        intro h
        have : s.data.toList.all (fun b => innerB b.toNat) = false := by
          rw [List.all_eq_false]
          exact ⟨s[i]'hlt, List.mem_of_getElem? hget, by simp [h]⟩
        simp [nameB, this]
      have hnext : innerB (s[i]'hlt).toNat = true → (s.data.toList.take (i + 1)).all (fun b => innerB b.toNat) = true := by
        intro h
        rw [List.take_add_one, hget, List.all_append, hall]
        simp [h]
      have hbyte := byte_lt (s[i]'hlt)
      generalize s[i]'hlt = b at *
      rcases hd with ⟨h128, hd⟩ | ⟨h128, hd⟩
      · rw [hd]
        conv => whnf
        refine condI (fun h => ?_) (fun h => ?_) <;> conv => whnf
        · exfalso
          simp at h
          omega
        · rw [fwrap_nat (k := .u8) (n := b.toNat) (by simp only [topOf]; omega)]
          refine Run.mono (fun o P h => ?_) (inner_run m hbyte)
          obtain ⟨rfl, rfl⟩ := h
          conv => whnf
          refine condI (fun h => ?_) (fun h => ?_) <;> conv => whnf
          · have hin : innerB b.toNat = false := by simpa using h
            rw [hbad hin]
            exact ⟨rfl, rfl⟩
          · have hin : innerB b.toNat = true := by simpa using h
            exact ⟨rfl, k - 1, by omega, i + 1, by omega, hnext hin, rfl, rfl⟩
      · generalize Utf8.decode s i = d at *
        conv => whnf
        refine condI (fun h => ?_) (fun h => ?_) <;> conv => whnf
        · rw [hbad (hin h128)]
          exact ⟨rfl, rfl⟩
        · exfalso
          simp at h
          omega
    · have hge : s.size ≤ i := by simpa using h
      rw [List.take_of_length_le (by omega)] at hall
      have hpos : sameBytes s.data.toList (ByteArray.mk #[]).data.toList = false → 0 < s.size := by
        intro h
        rw [nameEq_dec, decide_eq_false_iff_not] at h
        rcases Nat.eq_zero_or_pos s.size with e | e
        · exfalso; apply h
          cases s with | mk a =>
          congr 1
          exact Array.eq_empty_of_size_eq_zero e
        · exact e
      have hlet := letter_run m (byte_lt (s.get! 0))
      conv => whnf
      repeat' first
        | (refine ⟨?_, rfl⟩; simp_all [nameB]; done)
        | (refine ⟨?_, rfl⟩; simp_all [nameB]; omega)
        | (refine condI (fun _ => ?_) (fun _ => ?_) <;> (conv => whnf))
        | (refine needI (hpos (by simp_all)) ?_; conv => whnf)
        | (refine Run.mono (fun o P h => ?_) hlet; obtain ⟨rfl, rfl⟩ := h; conv => whnf)
        | (refine Run.mono (fun o P h => ?_) (word_run m s); obtain ⟨rfl, rfl⟩ := h; conv => whnf)
end Am
end Go.Proofs.YtbdnfkmcfencdaaGreatDoor
/- Whole numbers as floats, in the program (conv.FromInt). No condition. -/
namespace Go.Proofs.YtbdnfkmcfencdaaGreatDoor
namespace Am
open Go
set_option maxRecDepth 100000
set_option maxHeartbeats 1000000

/-- How many bits a number has. -/
def blen (m : Nat) : Nat := if m = 0 then 0 else Nat.log2 m + 1
theorem blen_le {m : Nat} (h : 0 < m) : 2 ^ (blen m - 1) ≤ m := by
  unfold blen
  rw [if_neg (by omega), Nat.add_sub_cancel]
  exact Nat.log2_self_le (by omega)
theorem blen_lt (m : Nat) : m < 2 ^ blen m := by
  unfold blen
  split
  · rename_i h; subst h; decide
  · exact Nat.lt_log2_self
theorem blen_pos {m : Nat} (h : 0 < m) : 0 < blen m := by unfold blen; rw [if_neg (by omega)]; omega
theorem blen_eq {m k : Nat} (h1 : 2 ^ k ≤ m) (h2 : m < 2 ^ (k + 1)) : blen m = k + 1 := by
  have hm : 0 < m := Nat.lt_of_lt_of_le (Nat.two_pow_pos k) h1
  have a := blen_le hm
  have b := blen_lt m
  have c := blen_pos hm
  have d : k < blen m := by
    apply Nat.lt_of_not_le
    intro h
    have := Nat.pow_le_pow_right (show 0 < 2 by omega) h
    omega
  have e : blen m - 1 < k + 1 := by
    apply Nat.lt_of_not_le
    intro h
    have := Nat.pow_le_pow_right (show 0 < 2 by omega) h
    omega
  omega
theorem blen_shift {m j : Nat} (h : 2 ^ j ≤ m) : blen m = blen (m / 2 ^ j) + j := by
  have hp := Nat.two_pow_pos j
  have hq : 0 < m / 2 ^ j := Nat.div_pos h hp
  have a := blen_le hq
  have b := blen_lt (m / 2 ^ j)
  have c := blen_pos hq
  have e1 : 2 ^ (blen (m / 2 ^ j) - 1 + j) ≤ m := by
    rw [Nat.pow_add]
    exact Nat.le_trans (Nat.mul_le_mul_right _ a) (Nat.div_mul_le_self m _)
  have e2 : m < 2 ^ (blen (m / 2 ^ j) - 1 + j + 1) := by
    rw [show blen (m / 2 ^ j) - 1 + j + 1 = blen (m / 2 ^ j) + j by omega, Nat.pow_add]
    exact (Nat.div_lt_iff_lt_mul hp).1 b
  rw [blen_eq e1 e2]
  omega
theorem blen_mono {m n : Nat} (h : m ≤ n) : blen m ≤ blen n := by
  by_cases hm : m = 0
  · subst hm; simp [blen]
  · apply Nat.le_of_not_lt
    intro k
    have a := blen_le (show 0 < m by omega)
    have b := blen_lt n
    have := Nat.pow_le_pow_right (show 0 < 2 by omega) (show blen n ≤ blen m - 1 by omega)
    omega
theorem blen_le_of {m k : Nat} (h : m < 2 ^ k) : blen m ≤ k := by
  by_cases hm : m = 0
  · subst hm; simp [blen]
  · apply Nat.le_of_not_lt
    intro c
    have a := blen_le (show 0 < m by omega)
    have := Nat.pow_le_pow_right (show 0 < 2 by omega) (show k ≤ blen m - 1 by omega)
    omega
theorem shr_nat (n k : Nat) (hk : k ≤ 64) : (n : Int).fdiv (Int.ofNat (2 ^ min (Int.toNat (k : Int)) IntKind.u64.bits)) = ((n / 2 ^ k : Nat) : Int) := by
  rw [show min (Int.toNat (k : Int)) IntKind.u64.bits = k from Nat.min_eq_left hk]
  exact fdiv_nat n (2 ^ k)
def tabB : ByteArray := ⟨#[0, 1, 2, 2, 3, 3, 3, 3, 4, 4, 4, 4, 4, 4, 4, 4, 5, 5, 5, 5, 5, 5, 5, 5, 5, 5, 5, 5, 5, 5, 5, 5, 6, 6, 6, 6, 6, 6, 6, 6, 6, 6, 6, 6, 6, 6, 6, 6, 6, 6, 6, 6, 6, 6, 6, 6, 6, 6, 6, 6, 6, 6, 6, 6, 7, 7, 7, 7, 7, 7, 7, 7, 7, 7, 7, 7, 7, 7, 7, 7, 7, 7, 7, 7, 7, 7, 7, 7, 7, 7, 7, 7, 7, 7, 7, 7, 7, 7, 7, 7, 7, 7, 7, 7, 7, 7, 7, 7, 7, 7, 7, 7, 7, 7, 7, 7, 7, 7, 7, 7, 7, 7, 7, 7, 7, 7, 7, 7, 8, 8, 8, 8, 8, 8, 8, 8, 8, 8, 8, 8, 8, 8, 8, 8, 8, 8, 8, 8, 8, 8, 8, 8, 8, 8, 8, 8, 8, 8, 8, 8, 8, 8, 8, 8, 8, 8, 8, 8, 8, 8, 8, 8, 8, 8, 8, 8, 8, 8, 8, 8, 8, 8, 8, 8, 8, 8, 8, 8, 8, 8, 8, 8, 8, 8, 8, 8, 8, 8, 8, 8, 8, 8, 8, 8, 8, 8, 8, 8, 8, 8, 8, 8, 8, 8, 8, 8, 8, 8, 8, 8, 8, 8, 8, 8, 8, 8, 8, 8, 8, 8, 8, 8, 8, 8, 8, 8, 8, 8, 8, 8, 8, 8, 8, 8, 8, 8, 8, 8, 8, 8, 8, 8, 8, 8, 8, 8]⟩
theorem tab_all : (List.range 256).map (fun n => (tabB.get! n).toNat) = (List.range 256).map blen := by kernel_rfl
theorem tab_at {n : Nat} (h : n < 256) : (tabB.get! n).toNat = blen n := by
  have := congrArg (·[n]?) tab_all
  simpa [h] using this
theorem blen_byte {n : Nat} (h : n < 256) : blen n ≤ 8 := blen_le_of (k := 8) h
theorem len64_run (m : Int) {n : Nat} (hn : n < 18446744073709551616) : Run Tryz.prog (GGm m) 116 [.v (.int .u64 n)] [] fun o H => o = .ret (.v (.int .i64 (blen n))) ∧ H = [] := by
  refine run_of_body (M := symMd _ _) mixed (FF_ok (subG m) 116 fi116 (by kernel_rfl)) ?_
  conv => whnf
  refine condI (fun h => ?_) (fun h => ?_) <;> conv => whnf
  · rw [show (n : Int).fdiv (Int.ofNat (2 ^ min (Int.toNat 32) IntKind.u64.bits)) = ((n / 4294967296 : Nat) : Int) from shr_nat n 32 (by omega)]
    have e := blen_shift (m := n) (j := 32) (by simp at h; omega)
    have hn : n / 4294967296 < 4294967296 := by omega
    rw [e]
    simp only [Nat.reducePow]
    generalize n / 4294967296 = n at *
    refine condI (fun h => ?_) (fun h => ?_) <;> conv => whnf
    · rw [show (n : Int).fdiv (Int.ofNat (2 ^ min (Int.toNat 16) IntKind.u64.bits)) = ((n / 65536 : Nat) : Int) from shr_nat n 16 (by omega)]
      have e := blen_shift (m := n) (j := 16) (by simp at h; omega)
      have hn : n / 65536 < 65536 := by omega
      rw [e]
      simp only [Nat.reducePow]
      generalize n / 65536 = n at *
      refine condI (fun h => ?_) (fun h => ?_) <;> conv => whnf
      · rw [show (n : Int).fdiv (Int.ofNat (2 ^ min (Int.toNat 8) IntKind.u64.bits)) = ((n / 256 : Nat) : Int) from shr_nat n 8 (by omega)]
        have e := blen_shift (m := n) (j := 8) (by simp at h; omega)
        have hn : n / 256 < 256 := by omega
        rw [e]
        simp only [Nat.reducePow]
        generalize n / 256 = n at *
        have h8 := blen_byte hn
        have hfw : fwrap .u8 (n : Int) = n := fwrap_nat (by simp only [topOf]; omega)
        rw [hfw]
        refine needI (show (n : Int).toNat < 256 by omega) ?_
        conv => whnf
        have hA : fwrap .i64 (fwrap .i64 (fwrap .i64 (32 + 16) + 8) + fwrap .i64 ((tabB.get! n).toNat : Int)) = ((blen n + 8 + 16 + 32 : Nat) : Int) := by
          rw [tab_at hn, fwrap_nat (by simp only [topOf]; omega), show (fwrap .i64 (fwrap .i64 (32 + 16) + 8) : Int) = 56 from rfl]
          exact (fwrap64 (by omega) (by omega)).trans (by omega)
        exact ⟨congrArg (fun z => Out.ret (.v (.int .i64 z))) hA, rfl⟩
      · have hn : n < 256 := by simp at h; omega
        have h8 := blen_byte hn
        have hfw : fwrap .u8 (n : Int) = n := fwrap_nat (by simp only [topOf]; omega)
        rw [hfw]
        refine needI (show (n : Int).toNat < 256 by omega) ?_
        conv => whnf
        have hA : fwrap .i64 (fwrap .i64 (32 + 16) + fwrap .i64 ((tabB.get! n).toNat : Int)) = ((blen n + 16 + 32 : Nat) : Int) := by
          rw [tab_at hn, fwrap_nat (by simp only [topOf]; omega), show (fwrap .i64 (32 + 16) : Int) = 48 from rfl]
          exact (fwrap64 (by omega) (by omega)).trans (by omega)
        exact ⟨congrArg (fun z => Out.ret (.v (.int .i64 z))) hA, rfl⟩
    · have hn : n < 65536 := by simp at h; omega
      refine condI (fun h => ?_) (fun h => ?_) <;> conv => whnf
      · rw [show (n : Int).fdiv (Int.ofNat (2 ^ min (Int.toNat 8) IntKind.u64.bits)) = ((n / 256 : Nat) : Int) from shr_nat n 8 (by omega)]
        have e := blen_shift (m := n) (j := 8) (by simp at h; omega)
        have hn : n / 256 < 256 := by omega
        rw [e]
        simp only [Nat.reducePow]
        generalize n / 256 = n at *
        have h8 := blen_byte hn
        have hfw : fwrap .u8 (n : Int) = n := fwrap_nat (by simp only [topOf]; omega)
        rw [hfw]
        refine needI (show (n : Int).toNat < 256 by omega) ?_
        conv => whnf
        have hA : fwrap .i64 (fwrap .i64 (32 + 8) + fwrap .i64 ((tabB.get! n).toNat : Int)) = ((blen n + 8 + 32 : Nat) : Int) := by
          rw [tab_at hn, fwrap_nat (by simp only [topOf]; omega), show (fwrap .i64 (32 + 8) : Int) = 40 from rfl]
          exact (fwrap64 (by omega) (by omega)).trans (by omega)
        exact ⟨congrArg (fun z => Out.ret (.v (.int .i64 z))) hA, rfl⟩
      · have hn : n < 256 := by simp at h; omega
        have h8 := blen_byte hn
        have hfw : fwrap .u8 (n : Int) = n := fwrap_nat (by simp only [topOf]; omega)
        rw [hfw]
        refine needI (show (n : Int).toNat < 256 by omega) ?_
        conv => whnf
        have hA : fwrap .i64 (32 + fwrap .i64 ((tabB.get! n).toNat : Int)) = ((blen n + 32 : Nat) : Int) := by
          rw [tab_at hn, fwrap_nat (by simp only [topOf]; omega), show (32 : Int) = 32 from rfl]
          exact (fwrap64 (by omega) (by omega)).trans (by omega)
        exact ⟨congrArg (fun z => Out.ret (.v (.int .i64 z))) hA, rfl⟩
  · have hn : n < 4294967296 := by simp at h; omega
    refine condI (fun h => ?_) (fun h => ?_) <;> conv => whnf
    · rw [show (n : Int).fdiv (Int.ofNat (2 ^ min (Int.toNat 16) IntKind.u64.bits)) = ((n / 65536 : Nat) : Int) from shr_nat n 16 (by omega)]
      have e := blen_shift (m := n) (j := 16) (by simp at h; omega)
      have hn : n / 65536 < 65536 := by omega
      rw [e]
      simp only [Nat.reducePow]
      generalize n / 65536 = n at *
      refine condI (fun h => ?_) (fun h => ?_) <;> conv => whnf
      · rw [show (n : Int).fdiv (Int.ofNat (2 ^ min (Int.toNat 8) IntKind.u64.bits)) = ((n / 256 : Nat) : Int) from shr_nat n 8 (by omega)]
        have e := blen_shift (m := n) (j := 8) (by simp at h; omega)
        have hn : n / 256 < 256 := by omega
        rw [e]
        simp only [Nat.reducePow]
        generalize n / 256 = n at *
        have h8 := blen_byte hn
        have hfw : fwrap .u8 (n : Int) = n := fwrap_nat (by simp only [topOf]; omega)
        rw [hfw]
        refine needI (show (n : Int).toNat < 256 by omega) ?_
        conv => whnf
        have hA : fwrap .i64 (fwrap .i64 (fwrap .i64 (0 + 16) + 8) + fwrap .i64 ((tabB.get! n).toNat : Int)) = ((blen n + 8 + 16 : Nat) : Int) := by
          rw [tab_at hn, fwrap_nat (by simp only [topOf]; omega), show (fwrap .i64 (fwrap .i64 (0 + 16) + 8) : Int) = 24 from rfl]
          exact (fwrap64 (by omega) (by omega)).trans (by omega)
        exact ⟨congrArg (fun z => Out.ret (.v (.int .i64 z))) hA, rfl⟩
      · have hn : n < 256 := by simp at h; omega
        have h8 := blen_byte hn
        have hfw : fwrap .u8 (n : Int) = n := fwrap_nat (by simp only [topOf]; omega)
        rw [hfw]
        refine needI (show (n : Int).toNat < 256 by omega) ?_
        conv => whnf
        have hA : fwrap .i64 (fwrap .i64 (0 + 16) + fwrap .i64 ((tabB.get! n).toNat : Int)) = ((blen n + 16 : Nat) : Int) := by
          rw [tab_at hn, fwrap_nat (by simp only [topOf]; omega), show (fwrap .i64 (0 + 16) : Int) = 16 from rfl]
          exact (fwrap64 (by omega) (by omega)).trans (by omega)
        exact ⟨congrArg (fun z => Out.ret (.v (.int .i64 z))) hA, rfl⟩
    · have hn : n < 65536 := by simp at h; omega
      refine condI (fun h => ?_) (fun h => ?_) <;> conv => whnf
      · rw [show (n : Int).fdiv (Int.ofNat (2 ^ min (Int.toNat 8) IntKind.u64.bits)) = ((n / 256 : Nat) : Int) from shr_nat n 8 (by omega)]
        have e := blen_shift (m := n) (j := 8) (by simp at h; omega)
        have hn : n / 256 < 256 := by omega
        rw [e]
        simp only [Nat.reducePow]
        generalize n / 256 = n at *
        have h8 := blen_byte hn
        have hfw : fwrap .u8 (n : Int) = n := fwrap_nat (by simp only [topOf]; omega)
        rw [hfw]
        refine needI (show (n : Int).toNat < 256 by omega) ?_
        conv => whnf
        have hA : fwrap .i64 (fwrap .i64 (0 + 8) + fwrap .i64 ((tabB.get! n).toNat : Int)) = ((blen n + 8 : Nat) : Int) := by
          rw [tab_at hn, fwrap_nat (by simp only [topOf]; omega), show (fwrap .i64 (0 + 8) : Int) = 8 from rfl]
          exact (fwrap64 (by omega) (by omega)).trans (by omega)
        exact ⟨congrArg (fun z => Out.ret (.v (.int .i64 z))) hA, rfl⟩
      · have hn : n < 256 := by simp at h; omega
        have h8 := blen_byte hn
        have hfw : fwrap .u8 (n : Int) = n := fwrap_nat (by simp only [topOf]; omega)
        rw [hfw]
        refine needI (show (n : Int).toNat < 256 by omega) ?_
        conv => whnf
        have hA : fwrap .i64 (0 + fwrap .i64 ((tabB.get! n).toNat : Int)) = ((blen n : Nat) : Int) := by
          rw [tab_at hn, fwrap_nat (by simp only [topOf]; omega), show (0 : Int) = 0 from rfl]
          exact (fwrap64 (by omega) (by omega)).trans (by omega)
        exact ⟨congrArg (fun z => Out.ret (.v (.int .i64 z))) hA, rfl⟩
end Am
end Go.Proofs.YtbdnfkmcfencdaaGreatDoor
/- Whole numbers as floats, in the program (conv.FromInt, round, wide). No condition. -/
namespace Go.Proofs.YtbdnfkmcfencdaaGreatDoor
namespace Am
open Go
set_option maxRecDepth 100000
set_option maxHeartbeats 1000000

theorem or_add {a f k : Nat} (hf : f < 2 ^ k) (h : a * 2 ^ k + f < 18446744073709551616) : (BitVec.ofInt 64 ((a * 2 ^ k : Nat) : Int) ||| BitVec.ofInt 64 ((f : Nat) : Int)).toNat = a * 2 ^ k + f := by
  rw [ofInt_nat, ofInt_nat, BitVec.toNat_or, BitVec.toNat_ofNat, BitVec.toNat_ofNat, Nat.mod_eq_of_lt (by omega), Nat.mod_eq_of_lt (by omega), Nat.mul_comm, ← Nat.two_pow_add_eq_or_of_lt hf]
theorem or_add' {a f k : Nat} (hf : f < 2 ^ k) (h : a * 2 ^ k + f < 18446744073709551616) : (BitVec.ofInt 64 ((f : Nat) : Int) ||| BitVec.ofInt 64 ((a * 2 ^ k : Nat) : Int)).toNat = a * 2 ^ k + f := by
  rw [BitVec.or_comm]; exact or_add hf h
theorem fwrap_u64 (n : Nat) : fwrap .u64 (n : Int) = ((n % 18446744073709551616 : Nat) : Int) := by
  rw [fwrap_eq]
  simp only [IntKind.wrap, IntKind.bits, IntKind.signed]
  simp
theorem fwrap_u64i (n : Int) : fwrap .u64 n = n % 18446744073709551616 := by
  rw [fwrap_eq]
  simp only [IntKind.wrap, IntKind.bits, IntKind.signed]
  simp
def u128 (hi lo : Nat) : List AV := [.v (.int .u64 hi), .v (.int .u64 lo)]
theorem len128_run (m : Int) {hi lo : Nat} (h1 : hi < 18446744073709551616) (h2 : lo < 18446744073709551616) : Run Tryz.prog (GGm m) 101 [.agg (u128 hi lo)] [] fun o H => o = .ret (.v (.int .i64 (if 0 < hi then 64 + blen hi else blen lo : Nat))) ∧ H = [] := by
  have b1 := blen_le_of (k := 64) h1
  refine run_of_body (M := symMd _ _) mixed (FF_ok (subG m) 101 fi101 (by kernel_rfl)) ?_
  conv => whnf
  refine condI (fun h => ?_) (fun h => ?_) <;> conv => whnf
  · have h : 0 < hi := by simp at h; omega
    refine Run.mono (fun o P h => ?_) (len64_run m h1)
    obtain ⟨rfl, rfl⟩ := h
    conv => whnf
    rw [if_pos h, fwrap64 (by omega) (by omega)]
    exact ⟨rfl, rfl⟩
  · have h : ¬ 0 < hi := by simp at h; omega
    refine Run.mono (fun o P h => ?_) (len64_run m h2)
    obtain ⟨rfl, rfl⟩ := h
    conv => whnf
    rw [if_neg h]
    exact ⟨rfl, rfl⟩
theorem shl128_run (m : Int) {hi lo k : Nat} (h2 : lo < 18446744073709551616) (hk : k < 64) : Run Tryz.prog (GGm m) 118 [.agg (u128 hi lo), .v (.int .i64 k)] [] fun o H => (∃ n : Int, o = .ret (.agg [.v (.int .u64 n), .v (.int .u64 (lo * 2 ^ k % 18446744073709551616 : Nat))])) ∧ H = [] := by
  refine run_of_body (M := symMd _ _) mixed (FF_ok (subG m) 118 fi118 (by kernel_rfl)) ?_
  conv => whnf
  refine LoopP.rounds 1 ?_
  conv => whnf
  refine condI (fun h => ?_) (fun _ => ?_) <;> conv => whnf
  · exfalso; simp at h; omega
  · refine condI (fun h => ?_) (fun h => ?_) <;> conv => whnf
    · obtain rfl : k = 0 := by simp at h; omega
      rw [Nat.pow_zero, Nat.mul_one, Nat.mod_eq_of_lt h2]
      exact ⟨⟨_, rfl⟩, rfl⟩
    · have hk0 : 0 < k := by simp at h; omega
      have e64 : fwrap .i64 (64 - (k : Int)) = 64 - (k : Int) := fwrap64 (by omega) (by omega)
      refine needI (by omega) ?_
      conv => whnf
      have e : fwrap .u64 ((lo : Int) * Int.ofNat (2 ^ min (k : Int).toNat IntKind.u64.bits)) = ((lo * 2 ^ k % 18446744073709551616 : Nat) : Int) := by
        rw [show min (k : Int).toNat IntKind.u64.bits = k from Nat.min_eq_left (by simp only [IntKind.bits]; omega)]
        exact fwrap_u64 (lo * 2 ^ k)
      rw [e]
      exact ⟨⟨_, rfl⟩, rfl⟩
/-- A number that is to be a float. -/
def numAV (neg : Bool) (lo : Nat) : AV := .agg [.v (.bool neg), .v (.int .u64 0), .v (.int .u64 lo), .v (.int .i64 0), .v (.bool false)]
theorem away_run (m : Int) (neg : Bool) (lo : Nat) : Run Tryz.prog (GGm m) 131 [numAV neg lo, .v (.int .u8 0)] [] fun o H => o = .ret (.v (.bool false)) ∧ H = [] := by
  refine run_of_body (M := symMd _ _) mixed (FF_ok (subG m) 131 fi131 (by kernel_rfl)) ?_
  conv => whnf
  exact ⟨rfl, rfl⟩
theorem towards_run (m : Int) (neg : Bool) (lo : Nat) : Run Tryz.prog (GGm m) 132 [numAV neg lo, .v (.int .u8 0)] [] fun o H => o = .ret (.v (.bool false)) ∧ H = [] := by
  refine run_of_body (M := symMd _ _) mixed (FF_ok (subG m) 132 fi132 (by kernel_rfl)) ?_
  conv => whnf
  exact ⟨rfl, rfl⟩
theorem up_run (m : Int) (neg : Bool) (lo : Nat) (odd : Bool) : Run Tryz.prog (GGm m) 119 [numAV neg lo, .v (.int .u8 0), .v (.bool odd), .v (.bool false), .v (.bool false)] [] fun o H => o = .ret (.v (.bool false)) ∧ H = [] := by
  refine run_of_body (M := symMd _ _) mixed (FF_ok (subG m) 119 fi119 (by kernel_rfl)) ?_
  conv => whnf
  refine Run.mono (fun o P h => ?_) (away_run m neg lo)
  obtain ⟨rfl, rfl⟩ := h
  conv => whnf
  refine Run.mono (fun o P h => ?_) (towards_run m neg lo)
  obtain ⟨rfl, rfl⟩ := h
  conv => whnf
  exact ⟨rfl, rfl⟩
/-- A float of its parts. -/
def makeF (neg : Bool) (e f : Nat) : Nat := (if neg = true then 9223372036854775808 else 0) + e * 4503599627370496 + f
theorem make_run (m : Int) (neg : Bool) {e f : Nat} (he : e < 2048) (hf : f < 4503599627370496) : Run Tryz.prog (GGm m) 102 [.v (.bool neg), .v (.int .i64 e), .v (.int .u64 f)] [] fun o H => o = .ret (.tup [.v (.int .u64 (makeF neg e f)), .v (.int .i64 0)]) ∧ H = [] := by
  refine run_of_body (M := symMd _ _) mixed (FF_ok (subG m) 102 fi102 (by kernel_rfl)) ?_
  conv => whnf
  have e1 : fwrap .u64 (fwrap .u64 (e : Int) * Int.ofNat (2 ^ min (Int.toNat 52) IntKind.u64.bits)) = ((e * 2 ^ 52 : Nat) : Int) := by
    rw [fwrap_nat (k := .u64) (n := e) (by simp only [topOf]; omega)]
    exact fwrap_nat (k := .u64) (n := e * 2 ^ 52) (by simp only [topOf]; omega)
  have e2 : fwrap .u64 ((BitVec.ofInt IntKind.u64.bits ((e * 2 ^ 52 : Nat) : Int) ||| BitVec.ofInt IntKind.u64.bits (f : Int)).toNat : Int) = ((e * 2 ^ 52 + f : Nat) : Int) := by
    rw [show (BitVec.ofInt IntKind.u64.bits ((e * 2 ^ 52 : Nat) : Int) ||| BitVec.ofInt IntKind.u64.bits (f : Int)).toNat = e * 2 ^ 52 + f from or_add hf (by omega)]
    exact fwrap_nat (by simp only [topOf]; omega)
  have e3 : fwrap .u64 ((BitVec.ofInt IntKind.u64.bits ((e * 2 ^ 52 + f : Nat) : Int) ||| BitVec.ofInt IntKind.u64.bits 9223372036854775808).toNat : Int) = ((9223372036854775808 + (e * 2 ^ 52 + f) : Nat) : Int) := by
    rw [show (BitVec.ofInt IntKind.u64.bits ((e * 2 ^ 52 + f : Nat) : Int) ||| BitVec.ofInt IntKind.u64.bits 9223372036854775808).toNat = 1 * 2 ^ 63 + (e * 2 ^ 52 + f) from or_add' (a := 1) (k := 63) (f := e * 2 ^ 52 + f) (by omega) (by omega)]
    exact fwrap_nat (k := .u64) (n := 9223372036854775808 + (e * 2 ^ 52 + f)) (by simp only [topOf]; omega)
  repeat' first
    | (exfalso; simp_all; omega)
    | (refine condI (fun _ => ?_) (fun _ => ?_) <;> (conv => whnf))
  · rename_i hneg
    rw [e1, e2, e3]
    refine ⟨?_, rfl⟩
    rw [makeF, if_pos hneg, Nat.add_assoc]
  · rename_i hneg
    rw [e1, e2]
    refine ⟨?_, rfl⟩
    rw [makeF, if_neg (by rw [hneg]; nofun), Nat.zero_add]
/-- A whole number as a float. -/
def floatOf (neg : Bool) (lo : Nat) : Nat := if lo = 0 then makeF neg 0 0 else makeF neg (blen lo + 1022) (lo * 2 ^ (53 - blen lo) - 4503599627370496)
theorem float_run (m : Int) (neg : Bool) {lo : Nat} (h0 : 0 < lo) (hlo : lo < 9007199254740992) : Run Tryz.prog (GGm m) 103 [numAV neg lo, .v (.int .u8 0)] [] fun o H => o = .ret (.tup [.v (.int .u64 (floatOf neg lo)), .v (.int .u8 0)]) ∧ H = [] := by
  have hb := blen_le_of (k := 53) hlo
  have hp := blen_pos h0
  have hlow := blen_le h0
  have hhigh := blen_lt lo
  have hlen := len128_run m (hi := 0) (lo := lo) (by omega) (by omega)
  rw [if_neg (by omega)] at hlen
  have hshl := shl128_run m (hi := 0) (lo := lo) (k := 53 - blen lo) (by omega) (by omega)
  have hw1 : 4503599627370496 ≤ lo * 2 ^ (53 - blen lo) := by
    have := Nat.mul_le_mul_right (2 ^ (53 - blen lo)) hlow
    rwa [← Nat.pow_add, show blen lo - 1 + (53 - blen lo) = 52 by omega] at this
  have hw2 : lo * 2 ^ (53 - blen lo) < 9007199254740992 := by
    have := Nat.mul_lt_mul_of_pos_right hhigh (Nat.two_pow_pos (53 - blen lo))
    rwa [← Nat.pow_add, show blen lo + (53 - blen lo) = 53 by omega] at this
  rw [Nat.mod_eq_of_lt (by omega)] at hshl
  have hmake := make_run m neg (e := blen lo + 1022) (f := lo * 2 ^ (53 - blen lo) - 4503599627370496) (by omega) (by omega)
  have hfl : floatOf neg lo = makeF neg (blen lo + 1022) (lo * 2 ^ (53 - blen lo) - 4503599627370496) := if_neg (by omega)
  rw [← hfl] at hmake
  generalize lo * 2 ^ (53 - blen lo) = w at *
  refine run_of_body (M := symMd _ _) mixed (FF_ok (subG m) 103 fi103 (by kernel_rfl)) ?_
  conv => whnf
  refine Run.mono (fun o P h => ?_) hlen
  obtain ⟨rfl, rfl⟩ := h
  conv => whnf
  have eq1 : pickInt true (fwrap .i64 (fwrap .i64 ((blen lo : Int) - 53) + 0)) (-1074) = (blen lo : Int) - 53 := by
    rw [fwrap64 (n := (blen lo : Int) - 53) (by omega) (by omega), Int.add_zero, fwrap64 (by omega) (by omega)]
    unfold pickInt
    simp only [cond_true]
    rw [if_neg (by omega)]
  rw [eq1]
  have eq2 : fwrap .i64 ((blen lo : Int) - 53 - 0) = (blen lo : Int) - 53 := by rw [Int.sub_zero]; exact fwrap64 (by omega) (by omega)
  rw [eq2]
  refine condI (fun h => ?_) (fun h => ?_)
  · exfalso; simp at h; omega
  · conv => whnf
    have eq3 : fwrap .i64 (0 - ((blen lo : Int) - 53)) = ((53 - blen lo : Nat) : Int) := by rw [fwrap64 (by omega) (by omega)]; omega
    rw [eq3]
    refine Run.mono (fun o P h => ?_) hshl
    obtain ⟨⟨hi, rfl⟩, rfl⟩ := h
    conv => whnf
    refine Run.mono (fun o P h => ?_) (up_run m neg lo _)
    obtain ⟨rfl, rfl⟩ := h
    conv => whnf
    refine condI (fun h => ?_) (fun h => ?_) <;> conv => whnf
    · exfalso; simp at h; omega
    refine condI (fun h => ?_) (fun h => ?_) <;> conv => whnf
    · exfalso; simp at h; omega
    have eq4 : (w : Int).fdiv (Int.ofNat (2 ^ min (Int.toNat 52) IntKind.u64.bits)) = ((w / 2 ^ 52 : Nat) : Int) := shr_nat w 52 (by omega)
    rw [eq4]
    refine condI (fun h => ?_) (fun h => ?_)
    · conv => whnf
      have eq5 : fwrap .i64 (fwrap .i64 ((blen lo : Int) - 53 - (-1074)) + 1) = ((blen lo + 1022 : Nat) : Int) := by
        rw [fwrap64 (n := (blen lo : Int) - 53 - (-1074)) (by omega) (by omega), fwrap64 (by omega) (by omega)]; omega
      have eq6 : fwrap .u64 ((BitVec.ofInt IntKind.u64.bits (w : Int) &&& BitVec.ofInt IntKind.u64.bits 4503599627370495).toNat : Int) = ((w - 4503599627370496 : Nat) : Int) := by
        rw [show (BitVec.ofInt IntKind.u64.bits (w : Int) &&& BitVec.ofInt IntKind.u64.bits 4503599627370495).toNat = w % 2 ^ 52 from and_mask 64 w 52 (by omega) (by omega)]
        rw [fwrap_nat (by simp only [topOf]; omega)]
        omega
      rw [eq5, eq6]
      refine Run.mono (fun o P h => ?_) hmake
      obtain ⟨rfl, rfl⟩ := h
      conv => whnf
      exact ⟨rfl, rfl⟩
    · exfalso; simp at h; omega
theorem round_run (m : Int) (neg : Bool) {lo : Nat} (hlo : lo < 9007199254740992) : Run Tryz.prog (GGm m) 91 [.v (.bool neg), .agg (u128 0 lo), .v (.int .i64 0), .v (.bool false), .v (.int .u8 0)] [] fun o H => o = .ret (.tup [.v (.int .u64 (floatOf neg lo)), .v (.int .u8 0)]) ∧ H = [] := by
  have hlen := len128_run m (hi := 0) (lo := lo) (by omega) (by omega)
  rw [if_neg (by omega)] at hlen
  refine run_of_body (M := symMd _ _) mixed (FF_ok (subG m) 91 fi91 (by kernel_rfl)) ?_
  conv => whnf
  refine Run.mono (fun o P h => ?_) hlen
  obtain ⟨rfl, rfl⟩ := h
  conv => whnf
  refine condI (fun h => ?_) (fun h => ?_) <;> conv => whnf
  · have h0 : lo = 0 := by
      apply Nat.eq_zero_of_not_pos
      intro hp
      have := blen_pos hp
      simp at h; omega
    refine Run.mono (fun o P h => ?_) (make_run m neg (e := 0) (f := 0) (by omega) (by omega))
    obtain ⟨rfl, rfl⟩ := h
    conv => whnf
    rw [floatOf, if_pos h0]
    exact ⟨rfl, rfl⟩
  · have h0 : 0 < lo := by
      rcases Nat.eq_zero_or_pos lo with e | e
      · subst e; simp [blen] at h
      · exact e
    refine Run.mono (fun o P h => ?_) (float_run m neg h0 hlo)
    obtain ⟨rfl, rfl⟩ := h
    conv => whnf
    exact ⟨rfl, rfl⟩
/-- An integer as a float. -/
def intF (x : Int) : Nat := floatOf (decide (x < 0)) x.natAbs
theorem fromInt_run (m : Int) {x : Int} (h1 : -9007199254740992 < x) (h2 : x < 9007199254740992) : Run Tryz.prog (GGm m) 71 [.v (.int .i64 x), .v (.int .u8 0)] [] fun o H => o = .ret (.tup [.v (.int .u64 (intF x)), .v (.int .u8 0)]) ∧ H = [] := by
  have hr := round_run m (decide (x < 0)) (lo := x.natAbs) (by omega)
  refine run_of_body (M := symMd _ _) mixed (FF_ok (subG m) 71 fi71 (by kernel_rfl)) ?_
  conv => whnf
  refine condI (fun h => ?_) (fun h => ?_) <;> conv => whnf
  · have hx : x < 0 := by simpa using h
    rw [show fwrap .u64 (0 - fwrap .u64 x) = (x.natAbs : Int) by rw [fwrap_u64i, fwrap_u64i]; omega]
    refine Run.mono (fun o P h => ?_) hr
    obtain ⟨rfl, rfl⟩ := h
    conv => whnf
    exact ⟨rfl, rfl⟩
  · have hx : ¬ x < 0 := by simpa using h
    rw [show fwrap .u64 x = (x.natAbs : Int) by rw [fwrap_u64i]; omega]
    refine Run.mono (fun o P h => ?_) hr
    obtain ⟨rfl, rfl⟩ := h
    conv => whnf
    exact ⟨rfl, rfl⟩
end Am
end Go.Proofs.YtbdnfkmcfencdaaGreatDoor
/- Law 12: floats compared; declarations, in the program. No condition. -/
namespace Go.Proofs.YtbdnfkmcfencdaaGreatDoor
namespace Am
open Go
set_option maxRecDepth 100000
set_option maxHeartbeats 1000000

/-- A float's place among all. -/
def keyF (n : Nat) : Int := if negF n = true then -((n % 9223372036854775808 : Nat) : Int) else ((n % 9223372036854775808 : Nat) : Int)
theorem key_run (m : Int) {n : Nat} (hn : n < 18446744073709551616) : Run Tryz.prog (GGm m) 90 [.v (.int .u64 n)] [] fun o H => o = .ret (.v (.int .i64 (keyF n))) ∧ H = [] := by
  have e1 : fwrap .u64 ((BitVec.ofInt IntKind.u64.bits (n : Int) &&& ~~~ BitVec.ofInt IntKind.u64.bits 9223372036854775808).toNat : Int) = ((n % 9223372036854775808 : Nat) : Int) := by
    have e0 : (BitVec.ofInt IntKind.u64.bits (n : Int) &&& ~~~ BitVec.ofInt IntKind.u64.bits 9223372036854775808).toNat = n % 9223372036854775808 := by
      have e : (~~~ BitVec.ofInt 64 9223372036854775808 : BitVec 64) = BitVec.ofInt 64 ((2 ^ 63 - 1 : Nat) : Int) := rfl
      show (BitVec.ofInt 64 (n : Int) &&& ~~~ BitVec.ofInt 64 9223372036854775808).toNat = _
      rw [e]
      exact and_mask 64 n 63 (by omega) (by omega)
    rw [e0]
    exact fwrap_nat (by simp only [topOf]; omega)
  have e2 : fwrap .i64 ((n % 9223372036854775808 : Nat) : Int) = ((n % 9223372036854775808 : Nat) : Int) := fwrap_nat (by simp only [topOf]; omega)
  have e3 : (n : Int).fdiv (Int.ofNat (2 ^ min (Int.toNat 63) IntKind.u64.bits)) = ((n / 2 ^ 63 : Nat) : Int) := shr_nat n 63 (by omega)
  have e5 : (((n / 2 ^ 63 : Nat) : Int) == 1) = negF n := by
    unfold negF
    rw [Bool.eq_iff_iff, beq_iff_eq, Nat.ble_eq]
    omega
  refine run_of_body (M := symMd _ _) mixed (FF_ok (subG m) 90 fi90 (by kernel_rfl)) ?_
  conv => whnf
  rw [e1, e2, e3, e5]
  refine condI (fun h => ?_) (fun h => ?_) <;> conv => whnf
  · refine ⟨?_, rfl⟩
    rw [keyF, if_pos h, fwrap64 (by omega) (by omega), Int.zero_sub]
  · refine ⟨?_, rfl⟩
    rw [keyF, if_neg (by rw [h]; nofun)]
theorem nan_run (m : Int) {n : Nat} (hn : n < 18446744073709551616) : Run Tryz.prog (GGm m) 89 [.v (.int .u64 n)] [] fun o H => o = .ret (.v (.bool (classF n == 4))) ∧ H = [] := by
  refine run_of_body (M := symMd _ _) mixed (FF_ok (subG m) 89 fi89 (by kernel_rfl)) ?_
  conv => whnf
  refine Run.mono (fun o P h => ?_) (class_run m hn)
  obtain ⟨rfl, rfl⟩ := h
  conv => whnf
  exact ⟨rfl, rfl⟩
/-- Two floats against each other: -1, 0 or 1; and can they be compared? -/
def cmpF (a b : Nat) : Int × Bool := if (classF a == 4 || classF b == 4) = true then (0, false) else if keyF a < keyF b then (-1, true) else if keyF b < keyF a then (1, true) else (0, true)
theorem cmp_run (m : Int) {a b : Nat} (ha : a < 18446744073709551616) (hb : b < 18446744073709551616) : Run Tryz.prog (GGm m) 70 [.v (.int .u64 a), .v (.int .u64 b)] [] fun o H => o = .ret (.tup [.v (.int .i64 (cmpF a b).1), .v (.bool (cmpF a b).2)]) ∧ H = [] := by
  refine run_of_body (M := symMd _ _) mixed (FF_ok (subG m) 70 fi70 (by kernel_rfl)) ?_
  conv => whnf
  repeat' first
    | (refine ⟨?_, rfl⟩; simp_all [cmpF]; done)
    | (refine ⟨?_, rfl⟩; simp only [cmpF]; (repeat' split) <;> simp_all <;> omega)
    | (refine Run.mono (fun o P h => ?_) (nan_run m ha); obtain ⟨rfl, rfl⟩ := h; conv => whnf)
    | (refine Run.mono (fun o P h => ?_) (nan_run m hb); obtain ⟨rfl, rfl⟩ := h; conv => whnf)
    | (refine Run.mono (fun o P h => ?_) (key_run m ha); obtain ⟨rfl, rfl⟩ := h; conv => whnf)
    | (refine Run.mono (fun o P h => ?_) (key_run m hb); obtain ⟨rfl, rfl⟩ := h; conv => whnf)
    | (refine condI (fun _ => ?_) (fun _ => ?_) <;> (conv => whnf))
def lessF (a b : Nat) : Bool := (cmpF a b).2 && decide ((cmpF a b).1 < 0)
theorem less_run (m : Int) {a b : Nat} (ha : a < 18446744073709551616) (hb : b < 18446744073709551616) : Run Tryz.prog (GGm m) 41 [.v (.int .u64 a), .v (.int .u64 b)] [] fun o H => o = .ret (.v (.bool (lessF a b))) ∧ H = [] := by
  refine run_of_body (M := symMd _ _) mixed (FF_ok (subG m) 41 fi41 (by kernel_rfl)) ?_
  conv => whnf
  refine Run.mono (fun o P h => ?_) (cmp_run m ha hb)
  obtain ⟨rfl, rfl⟩ := h
  conv => whnf
  repeat' first
    | (refine ⟨?_, rfl⟩; simp_all [lessF]; done)
    | (refine condI (fun _ => ?_) (fun _ => ?_) <;> (conv => whnf))
def Xp.op : Xp → Int | .mk op .. => op
def Xp.i : Xp → Int | .mk _ _ _ i .. => i
def Xp.f : Xp → Nat | .mk _ _ _ _ f .. => f
/-- One of a range's ends, of a declaration of a type. -/
def endF (t : Int) (e : Xp) : Option Nat := if e.op = 2 then some (intF e.i) else if e.op = 3 ∧ t = 3 ∧ finiteF e.f = true then some e.f else none
theorem end_run (m : Int) (d : De) (e : Xp) (he : e.Ok) : Run Tryz.prog (GGm m) 42 [.agg e.row, .agg d.row] [] fun o H => o = (match endF d.type e with | some f => .ret (.v (.int .u64 f)) | none => .panic (.iface 88 (wrAV (3, d.pl)))) ∧ H = [] := by
  rcases e with ⟨op, pl, b, i, f, name, args⟩
  rw [Xp.Ok] at he
  rcases d with ⟨dpl, dinput, dname, dtype, dlen, drange, ⟨lop, lpl, lb, li, lf, ln, la⟩, ⟨hop, hpl, hb, hi, hf, hn, ha⟩⟩
  refine run_of_body (M := symMd _ _) mixed (FF_ok (subG m) 42 fi42 (by kernel_rfl)) ?_
  conv => whnf
  refine condI (fun h => ?_) (fun h => ?_) <;> conv => whnf
  · have hop : op = 2 := by simpa using h
    rw [fwrap64 (by omega) (by omega)]
    refine Run.mono (fun o P h => ?_) (fromInt_run m (x := i) (by omega) (by omega))
    obtain ⟨rfl, rfl⟩ := h
    conv => whnf
    refine ⟨?_, rfl⟩
    simp [endF, Xp.op, hop, Xp.i]
  · have hop : ¬ op = 2 := by simpa using h
    repeat' first
      | (refine ⟨?_, rfl⟩; simp_all [endF, Xp.op, Xp.f, wrAV, renAV, renAVs]; done)
      | (refine condI (fun _ => ?_) (fun _ => ?_) <;> (conv => whnf))
      | (refine Run.mono (fun o P h => ?_) (finite_run m he.2.2.2.1); obtain ⟨rfl, rfl⟩ := h; conv => whnf)
      | (refine Run.mono (fun o P h => ?_) (fail_run m _ _); obtain ⟨rfl, rfl⟩ := h; conv => whnf)
/-- Is a declaration bad as it is? -/
def badD (d : De) : Bool := if d.input = true then (decide (d.len ≠ 0) || (d.range != (d.type != 1))) else (d.range || decide (d.len < 0) || decide (16 < d.len))
/-- Is its range bad? -/
def rangeBad (d : De) : Bool := match endF d.type d.hi, endF d.type d.lo with
  | some a, some b => lessF a b
  | _, _ => true
/-- What is wrong with a declaration, where some names stand ahead; else its cells. -/
def declC (twice : Bool) (d : De) : TR :=
  if nameB d.name = false then .error (0, d.pl) else if twice = true then .error (1, d.pl) else if d.type < 1 ∨ 3 < d.type then .error (2, d.pl)
  else if badD d = true then .error (3, d.pl) else if (d.input && d.range && rangeBad d) = true then .error (3, d.pl) else .ok (max d.len 1)
theorem endF_lt {t : Int} {e : Xp} (he : e.Ok) {f : Nat} (h : endF t e = some f) : f < 18446744073709551616 := by
  rcases e with ⟨op, pl, b, i, f0, name, args⟩
  rw [Xp.Ok] at he
  replace h : (if op = 2 then some (intF i) else if op = 3 ∧ t = 3 ∧ finiteF f0 = true then some f0 else none) = some f := h
  by_cases h1 : op = 2
  · rw [if_pos h1] at h
    cases h
    unfold intF floatOf makeF
    have hb := blen_le_of (m := i.natAbs) (k := 53) (by omega)
    have hhigh := blen_lt i.natAbs
    have hw2 : i.natAbs * 2 ^ (53 - blen i.natAbs) < 9007199254740992 := by
      have := Nat.mul_lt_mul_of_pos_right hhigh (Nat.two_pow_pos (53 - blen i.natAbs))
      rwa [← Nat.pow_add, show blen i.natAbs + (53 - blen i.natAbs) = 53 by omega] at this
    split
    · split <;> omega
    · split <;> omega
  · rw [if_neg h1] at h
    by_cases h2 : op = 3 ∧ t = 3 ∧ finiteF f0 = true
    · rw [if_pos h2] at h; cases h; exact he.2.2.2.1
    · rw [if_neg h2] at h; cases h
def declO : TR → Out
  | .ok n => .ret (.v (.int .i64 n))
  | .error w => .panic (.iface 88 (wrAV w))
def declK (d : De) (kv : KV) : TR → KV
  | .ok _ => putT d.name ⟨d.type, d.len, d.input, false⟩ kv
  | .error _ => kv
theorem pickInt_max (a b : Int) : pickInt true a b = max a b := by
  unfold pickInt
  simp only [cond_true]
  split <;> omega
theorem decl_run (m : Int) (kv : KV) (init : Bool) (loops : Int) (d : De) (hd : d.Ok) : Run Tryz.prog (GGm m) 24 [.ref 0 0, .agg d.row] (ckH init loops kv) fun o H =>
    o = declO (declC (lookK d.name kv).isSome d) ∧ H = ckH init loops (declK d kv (declC (lookK d.name kv).isSome d)) := by
  have hname := isName_run m d.name hd.name
  have hhi := end_run m d d.hi hd.hi
  have hlo := end_run m d d.lo hd.lo
  have hlt : ∀ a b, endF d.type d.hi = some a → endF d.type d.lo = some b → Run Tryz.prog (GGm m) 41 [.v (.int .u64 a), .v (.int .u64 b)] [] fun o H => o = .ret (.v (.bool (lessF a b))) ∧ H = [] :=
    fun a b h1 h2 => less_run m (endF_lt hd.hi h1) (endF_lt hd.lo h2)
  rcases d with ⟨dpl, dinput, dname, dtype, dlen, drange, ⟨lop, lpl, lb, li, lf, ln, la⟩, ⟨hop, hpl, hb, hi, hf, hn, ha⟩⟩
  unfold declC badD rangeBad
  dsimp only at hname hhi hlo hlt ⊢
  generalize endF dtype (Xp.mk lop lpl lb li lf ln la) = elo at *
  generalize endF dtype (Xp.mk hop hpl hb hi hf hn ha) = ehi at *
  refine run_of_body (M := symMd _ _) mixed (FF_ok (subG m) 24 fi24 (by kernel_rfl)) ?_
  conv => whnf
  refine recKV (name := dname) (fun k t l ih hne h => condN hne h) ?_
  generalize hl : lookK dname kv = th
  cases th with
  | none =>
    conv => whnf
    repeat' first
      | (refine ⟨?_, ?_⟩ <;> simp_all [pickInt_max, declO, declK, wrAV, renAV, renAVs, ckH, -Int.not_lt, -Int.not_le]; done)
      | (refine condI (fun _ => ?_) (fun _ => ?_) <;> (conv => whnf))
      | (refine Run.mono (fun o P h => ?_) hname; obtain ⟨rfl, rfl⟩ := h; conv => whnf)
      | (refine Run.mono (fun o P h => ?_) (fail_run m _ _); obtain ⟨rfl, rfl⟩ := h; conv => whnf)
      | (refine putKeyK_kv (t := ⟨dtype, dlen, dinput, false⟩) ?_; conv => whnf)
      | (refine Run.mono (fun o P h => ?_) (hlt _ _ rfl rfl); obtain ⟨rfl, rfl⟩ := h; conv => whnf)
      | (refine Run.mono (fun o P h => ?_) hhi; obtain ⟨rfl, rfl⟩ := h; rcases ehi with _ | a <;> (conv => whnf))
      | (refine Run.mono (fun o P h => ?_) hlo; obtain ⟨rfl, rfl⟩ := h; rcases elo with _ | a <;> (conv => whnf))
  | some th =>
    refine fun l ih => condY ?_
    conv => whnf
    repeat' first
      | (refine ⟨?_, ?_⟩ <;> simp_all [declO, declK, wrAV, renAV, renAVs, ckH, -Int.not_lt, -Int.not_le]; done)
      | (refine condI (fun _ => ?_) (fun _ => ?_) <;> (conv => whnf))
      | (refine Run.mono (fun o P h => ?_) hname; obtain ⟨rfl, rfl⟩ := h; conv => whnf)
      | (refine Run.mono (fun o P h => ?_) (fail_run m _ _); obtain ⟨rfl, rfl⟩ := h; conv => whnf)
      | (refine putKeyK_kv (t := ⟨dtype, dlen, dinput, false⟩) ?_; conv => whnf)
      | (refine Run.mono (fun o P h => ?_) (hlt _ _ rfl rfl); obtain ⟨rfl, rfl⟩ := h; conv => whnf)
      | (refine Run.mono (fun o P h => ?_) hhi; obtain ⟨rfl, rfl⟩ := h; rcases ehi with _ | a <;> (conv => whnf))
      | (refine Run.mono (fun o P h => ?_) hlo; obtain ⟨rfl, rfl⟩ := h; rcases elo with _ | a <;> (conv => whnf))
end Am
end Go.Proofs.YtbdnfkmcfencdaaGreatDoor
