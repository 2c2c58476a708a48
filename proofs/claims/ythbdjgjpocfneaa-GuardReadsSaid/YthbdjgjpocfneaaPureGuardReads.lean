/- Read of the program is the telegram of the reference, for all lists of bytes (from the printed functions). -/
import Derived.Test.YthbdjgjpocfneaaPGuardReadsx6
namespace Go.Proofs.Ythbdjgjpocfneaa.Pure
open Go.RowKit Go.Proofs.Ythbdjgjpocfneaa.PGuardReads Go.Proofs.YthbdjgjpocfneaaW.PrintWords Go.Proofs.YthbdjgjpocfneaaW.PrintLast

theorem wrap_u16 (n : Int) : IntKind.u16.wrap n = n % 65536 := by simp [IntKind.wrap, IntKind.bits, IntKind.signed]
theorem wrap_i64 (n : Int) : IntKind.i64.wrap n = wrap64 n := by rw [IntKind.wrap_i64]; unfold wrap64; rfl

theorem wraps_u16 (n : Int) (h0 : 0 ≤ n) (h1 : n < 2 ^ 16) : IntKind.u16.wrap n = n := by rw [wrap_u16]; omega
theorem wraps_i64 (n : Int) (h0 : 0 ≤ n) (h1 : n < 2 ^ 32) : IntKind.i64.wrap n = n := by rw [IntKind.wrap_i64]; omega

theorem xor_nat (k : IntKind) (j : Nat) (hj : j ≤ k.bits) (hk : ∀ n : Int, 0 ≤ n → n < 2 ^ j → k.wrap n = n) (a b : Nat) (ha : a < 2 ^ j) (hb : b < 2 ^ j) :
    bits .xor k a b = ((a ^^^ b : Nat) : Int) := by
  have hp : 2 ^ j ≤ 2 ^ k.bits := Nat.pow_le_pow_right (by decide) hj
  have ha' : a % 2 ^ k.bits = a := Nat.mod_eq_of_lt (Nat.lt_of_lt_of_le ha hp)
  have hb' : b % 2 ^ k.bits = b := Nat.mod_eq_of_lt (Nat.lt_of_lt_of_le hb hp)
  have cast : ∀ n : Nat, n < 2 ^ j → ((n : Nat) : Int) < 2 ^ j := fun n h => by exact_mod_cast h
  simp only [bits, BitVec.ofInt_natCast, BitVec.toNat_xor, BitVec.toNat_ofNat, ha', hb']
  exact hk _ (Int.natCast_nonneg _) (cast _ (Nat.xor_lt_two_pow ha hb))

theorem xor_u16 (a b : Nat) (ha : a < 65536) (hb : b < 65536) : Go.bits .xor .u16 (a : Int) (b : Int) = ((a ^^^ b : Nat) : Int) :=
  xor_nat .u16 16 (by decide) wraps_u16 a b ha hb
theorem and_u16 (a b : Nat) (ha : a < 65536) (hb : b < 65536) : Go.bits .and .u16 (a : Int) (b : Int) = ((a &&& b : Nat) : Int) :=
  (bits_nat .u16 16 (by decide) wraps_u16 a b ha hb).1
theorem xor_i64 (a b : Nat) (ha : a < 65536) (hb : b < 65536) : Go.bits .xor .i64 (a : Int) (b : Int) = ((a ^^^ b : Nat) : Int) :=
  xor_nat .i64 32 (by decide) wraps_i64 a b (by omega) (by omega)
theorem and_i64 (a b : Nat) (ha : a < 4294967296) (hb : b < 4294967296) : Go.bits .and .i64 (a : Int) (b : Int) = ((a &&& b : Nat) : Int) :=
  (bits_nat .i64 32 (by decide) wraps_i64 a b ha hb).1
theorem or_i64 (a b : Nat) (ha : a < 4294967296) (hb : b < 4294967296) : Go.bits .or .i64 (a : Int) (b : Int) = ((a ||| b : Nat) : Int) :=
  (bits_nat .i64 32 (by decide) wraps_i64 a b ha hb).2

theorem and_top (a : Nat) (ha : a < 65536) : (a &&& 32768) = if a < 32768 then 0 else 32768 := by
  have h : a &&& 32768 = 2 ^ 15 * ((a / 2 ^ 15) % 2) := by
    have e : (32768 : Nat) = 2 ^ 15 := rfl
    apply Nat.eq_of_testBit_eq
    intro i
    rw [e, Nat.testBit_and, Nat.testBit_two_pow, Nat.mul_comm, Nat.testBit_mul_two_pow]
    by_cases hi : i = 15
    · subst hi; simp [Nat.testBit, Nat.shiftRight_eq_div_pow]
    · by_cases h15 : 15 ≤ i
      · have : i - 15 ≠ 0 := by omega
        obtain ⟨j, hj⟩ : ∃ j, i - 15 = j + 1 := ⟨i - 15 - 1, by omega⟩
        have h2 : (a / 2 ^ 15 % 2) < 2 ^ (j + 1) := by
          have h1 : a / 2 ^ 15 % 2 < 2 := Nat.mod_lt _ (by decide)
          have h3 : 2 ^ 1 ≤ 2 ^ (j + 1) := Nat.pow_le_pow_right (by decide) (by omega)
          omega
        rw [hj, Nat.testBit_lt_two_pow h2]
        have : ¬ 15 = i := fun h => hi h.symm
        simp [this]
      · have : ¬ 15 = i := fun h => hi h.symm
        simp [this, h15]
  rw [h]
  split <;> omega

/-- One bit of the sum. -/
def st (n : Nat) : Nat := if n < 32768 then 2 * n else (2 * n - 65536) ^^^ 4129

theorem st_lt (n : Nat) (h : n < 65536) : st n < 65536 := by
  unfold st
  split
  · omega
  · exact Nat.xor_lt_two_pow (n := 16) (by omega) (by omega)

def st8 (n : Nat) : Nat → Nat
  | 0 => n
  | k + 1 => st8 (st n) k

theorem st8_lt (k : Nat) : ∀ n, n < 65536 → st8 n k < 65536 := by
  induction k with
  | zero => exact fun n h => h
  | succ k ih => exact fun n h => ih _ (st_lt n h)

def sums (n : Nat) : List Int → Nat
  | [] => n
  | c :: l => sums (st8 (n ^^^ (c.toNat * 256)) 8) l

theorem prog_bit (l : List Int) (m i : Int) (d : Nat) : ∀ (j : Int) (n : Nat), n < 65536 → 0 ≤ j → j = 8 - d → ∀ k, guard_Sum.l1 (k + d) (n : Int) l m i j = guard_Sum.l1 k (st8 n d : Int) l m i 8 := by
  induction d with
  | zero => intro j n hn h0 hj k; simp at hj; subst hj; rfl
  | succ d ih =>
    intro j n hn h0 hj k
    have hlt : j < 8 := by omega
    have hw : wrap64 (j + 1) = j + 1 := by unfold wrap64; omega
    have hA : Go.bits .and .u16 (n : Int) 32768 = ((n &&& 32768 : Nat) : Int) := and_u16 n 32768 hn (by decide)
    rw [← Nat.add_assoc]
    simp only [guard_Sum.l1, st8]
    rw [if_pos hlt, hA, and_top n hn, hw]
    by_cases h : n < 32768
    · rw [if_pos h, if_pos (by rfl)]
      have : IntKind.u16.wrap ((n : Int) * 2) = ((st n : Nat) : Int) := by rw [wrap_u16]; unfold st; rw [if_pos h]; omega
      rw [this]
      exact ih (j + 1) (st n) (st_lt n hn) (by omega) (by omega) k
    · rw [if_neg h, if_neg (by decide)]
      have e1 : IntKind.u16.wrap ((n : Int) * 2) = ((2 * n - 65536 : Nat) : Int) := by rw [wrap_u16]; omega
      have : Go.bits .xor .u16 (IntKind.u16.wrap ((n : Int) * 2)) 4129 = ((st n : Nat) : Int) := by
        rw [e1]; unfold st; rw [if_neg h]; exact xor_u16 _ 4129 (by omega) (by decide)
      rw [this]
      exact ih (j + 1) (st n) (st_lt n hn) (by omega) (by omega) k

theorem ref_bit (l : List Int) (m i : Int) (d : Nat) : ∀ (j : Int) (n : Nat), n < 65536 → 0 ≤ j → j = 8 - d → ∀ k, fishref1_SumOf.l1 (k + d) (n : Int) j l m i = fishref1_SumOf.l1 k (st8 n d : Int) 8 l m i := by
  induction d with
  | zero => intro j n hn h0 hj k; simp at hj; subst hj; rfl
  | succ d ih =>
    intro j n hn h0 hj k
    have hlt : j < 8 := by omega
    have hw : wrap64 (j + 1) = j + 1 := by unfold wrap64; omega
    have e2 : wrap64 ((n : Int) * 2) = ((2 * n : Nat) : Int) := by unfold wrap64; omega
    rw [← Nat.add_assoc]
    simp only [fishref1_SumOf.l1, st8]
    rw [if_pos hlt, hw, e2]
    by_cases h : n < 32768
    · rw [if_neg (by omega)]
      have : ((2 * n : Nat) : Int) = ((st n : Nat) : Int) := by unfold st; rw [if_pos h]
      rw [this]
      exact ih (j + 1) (st n) (st_lt n hn) (by omega) (by omega) k
    · rw [if_pos (by omega)]
      have e3 : Go.bits .and .i64 ((2 * n : Nat) : Int) 65535 = ((2 * n - 65536 : Nat) : Int) := by
        rw [show (65535 : Int) = ((65535 : Nat) : Int) from rfl, and_i64 (2 * n) 65535 (by omega) (by decide)]
        have := Nat.and_two_pow_sub_one_eq_mod (2 * n) 16
        simp only [Nat.reducePow, Nat.reduceSub] at this
        rw [this]; omega
      have : Go.bits .xor .i64 (Go.bits .and .i64 ((2 * n : Nat) : Int) 65535) 4129 = ((st n : Nat) : Int) := by
        rw [e3]; unfold st; rw [if_neg h]; exact xor_i64 _ 4129 (by omega) (by decide)
      rw [this]
      exact ih (j + 1) (st n) (st_lt n hn) (by omega) (by omega) k

theorem byte_of (l : List Int) (hl : ∀ x ∈ l, (Lit.int .u8 x).wf = true) (i : Nat) (h : i < l.length) : ∃ c : Nat, c < 256 ∧ l[i] = (c : Int) := by
  have := hl l[i] (List.getElem_mem h)
  simp [Lit.wf, IntKind.min, IntKind.max, IntKind.signed, IntKind.bits] at this
  exact ⟨l[i].toNat, by omega, by omega⟩

theorem prog_sum (l : List Int) (hl : ∀ x ∈ l, (Lit.int .u8 x).wf = true) (hb : l.length * 1 ≤ 140737488351232) (d : Nat) :
    ∀ (i : Nat) (n : Nat), n < 65536 → i + d = l.length → guard_Sum.l0 (10 * d + 1) (n : Int) l (l.length : Int) (i : Int) = some ((sums n (l.drop i) : Nat) : Int) := by
  induction d with
  | zero =>
    intro i n hn hi
    have hlt : ¬ ((i : Int) < (l.length : Int)) := by omega
    have e : l.drop i = [] := List.drop_eq_nil_of_le (by omega)
    simp only [guard_Sum.l0]
    rw [if_neg hlt, e]
    simp only [sums]
    congr 1
    unfold wrap64; omega
  | succ d ih =>
    intro i n hn hi
    have hlt : i < l.length := by omega
    obtain ⟨c, hc, he⟩ := byte_of l hl i hlt
    have hrd : rd l (i : Int) = (c : Int) := by simp [rd, List.getD_eq_getElem?_getD, List.getElem?_eq_getElem hlt, he]
    have hlt' : (i : Int) < (l.length : Int) := by omega
    rw [show 10 * (d + 1) + 1 = ((10 * d + 1) + 1 + 8) + 1 from by omega]
    simp only [guard_Sum.l0]
    rw [if_pos hlt', if_pos (by omega), if_pos hlt', hrd]
    have e1 : IntKind.u16.wrap ((IntKind.u16.wrap (c : Int)) * 256) = ((c * 256 : Nat) : Int) := by rw [wrap_u16, wrap_u16]; omega
    rw [e1, xor_u16 n (c * 256) hn (by omega)]
    have hx : (n ^^^ c * 256) < 65536 := Nat.xor_lt_two_pow (n := 16) hn (by omega)
    rw [prog_bit l _ _ 8 0 _ hx (by omega) (by omega) ((10 * d + 1) + 1)]
    have hs := st8_lt 8 _ hx
    have hw : wrap64 ((i : Int) + 1) = ((i + 1 : Nat) : Int) := by unfold wrap64; omega
    show guard_Sum.l1 ((10 * d + 1) + 1) _ l _ _ 8 = _
    simp only [guard_Sum.l1]
    rw [if_neg (by decide), hw, ih (i + 1) _ hs (by omega)]
    congr 2
    rw [List.drop_eq_getElem_cons hlt]
    simp only [sums]
    rw [he]; rfl

theorem ref_sum (l : List Int) (hl : ∀ x ∈ l, (Lit.int .u8 x).wf = true) (hb : l.length * 1 ≤ 140737488351232) (d : Nat) :
    ∀ (i : Nat) (n : Nat), n < 65536 → i + d = l.length → fishref1_SumOf.l0 (10 * d + 1) (n : Int) l (l.length : Int) (i : Int) = some ((sums n (l.drop i) : Nat) : Int) := by
  induction d with
  | zero =>
    intro i n hn hi
    have hlt : ¬ ((i : Int) < (l.length : Int)) := by omega
    have e : l.drop i = [] := List.drop_eq_nil_of_le (by omega)
    simp only [fishref1_SumOf.l0]
    rw [if_neg hlt, e]
    simp only [sums]
  | succ d ih =>
    intro i n hn hi
    have hlt : i < l.length := by omega
    obtain ⟨c, hc, he⟩ := byte_of l hl i hlt
    have hrd : rd l (i : Int) = (c : Int) := by simp [rd, List.getD_eq_getElem?_getD, List.getElem?_eq_getElem hlt, he]
    have hlt' : (i : Int) < (l.length : Int) := by omega
    rw [show 10 * (d + 1) + 1 = ((10 * d + 1) + 1 + 8) + 1 from by omega]
    simp only [fishref1_SumOf.l0]
    rw [if_pos hlt', if_pos (by omega), if_pos hlt', hrd]
    have e1 : wrap64 ((wrap64 (c : Int)) * 256) = ((c * 256 : Nat) : Int) := by unfold wrap64; omega
    rw [e1, xor_i64 n (c * 256) hn (by omega)]
    have hx : (n ^^^ c * 256) < 65536 := Nat.xor_lt_two_pow (n := 16) hn (by omega)
    rw [ref_bit l _ _ 8 0 _ hx (by omega) (by omega) ((10 * d + 1) + 1)]
    have hs := st8_lt 8 _ hx
    have hw : wrap64 ((i : Int) + 1) = ((i + 1 : Nat) : Int) := by unfold wrap64; omega
    show fishref1_SumOf.l1 ((10 * d + 1) + 1) _ 8 l _ _ = _
    simp only [fishref1_SumOf.l1]
    rw [if_neg (by decide), hw, ih (i + 1) _ hs (by omega)]
    congr 2
    rw [List.drop_eq_getElem_cons hlt]
    simp only [sums]
    rw [he]; rfl


theorem rd_byte (l : List Int) (hl : ∀ x ∈ l, (Lit.int .u8 x).wf = true) (i : Nat) (h : i < l.length) : ∃ c : Nat, c < 256 ∧ rd l (i : Int) = (c : Int) := by
  obtain ⟨c, hc, he⟩ := byte_of l hl i h
  exact ⟨c, hc, by simp [rd, List.getD_eq_getElem?_getD, List.getElem?_eq_getElem h, he]⟩

/-- Two bytes as a number. -/
def two (a b : Nat) : Nat := a * 256 + b

theorem join (a b : Nat) (ha : a < 256) (hb : b < 256) : Go.bits .or .i64 (wrap64 ((wrap64 (a : Int)) * 256)) (wrap64 (b : Int)) = ((two a b : Nat) : Int) := by
  unfold two
  have e1 : wrap64 ((wrap64 (a : Int)) * 256) = ((a * 256 : Nat) : Int) := by unfold wrap64; omega
  have e2 : wrap64 (b : Int) = (b : Int) := by unfold wrap64; omega
  rw [e1, e2, or_i64 _ _ (by omega) (by omega)]
  have := Nat.two_pow_add_eq_or_of_lt (i := 8) (b := b) (by omega) a
  rw [show a * 256 = 2 ^ 8 * a from by omega, ← this]

theorem plus (a b : Nat) (ha : a < 256) (hb : b < 256) : wrap64 ((wrap64 ((wrap64 (a : Int)) * 256)) + (wrap64 (b : Int))) = ((two a b : Nat) : Int) := by
  unfold wrap64 two; omega

theorem tele (x c y : Nat) : guard_Telegram_check.f (x : Int) (c : Int) (y : Int) = fishref1_TelegramError.f (x : Int) (c : Int) (y : Int) := by
  unfold guard_Telegram_check.f guard_within.f fishref1_TelegramError.f
  rw [if_pos (show (x : Int) ≥ 0 from by omega), if_pos (show (c : Int) ≥ 0 from by omega), if_pos (show (y : Int) ≥ 0 from by omega)]
  rw [if_neg (show ¬ (x : Int) < 0 from by omega), if_neg (show ¬ (c : Int) < 0 from by omega), if_neg (show ¬ (y : Int) < 0 from by omega)]
  simp only [Option.bind_some]
  by_cases q1 : (x : Int) ≤ 89
  · rw [if_pos (decide_eq_true q1), if_neg (show ¬ (x : Int) ≥ 90 from by omega)]
    by_cases q2 : (c : Int) ≤ 59
    · rw [if_pos (decide_eq_true q2), if_neg (show ¬ (c : Int) ≥ 60 from by omega)]
      by_cases q3 : (y : Int) ≤ 60000
      · rw [if_pos (decide_eq_true q3), if_neg (show ¬ (y : Int) > 60000 from by omega)]
      · rw [if_neg (by rw [decide_eq_true_eq]; exact q3), if_pos (show (y : Int) > 60000 from by omega)]
    · rw [if_neg (by rw [decide_eq_true_eq]; exact q2), if_pos (show (c : Int) ≥ 60 from by omega)]
  · rw [if_neg (by rw [decide_eq_true_eq]; exact q1), if_pos (show (x : Int) ≥ 90 from by omega)]

theorem tele_some (x c y : Nat) : ∃ r, fishref1_TelegramError.f (x : Int) (c : Int) (y : Int) = some r := by
  unfold fishref1_TelegramError.f
  split <;> first | exact ⟨_, rfl⟩ | skip
  split <;> first | exact ⟨_, rfl⟩ | skip
  split <;> first | exact ⟨_, rfl⟩ | skip
  split <;> first | exact ⟨_, rfl⟩ | skip
  split <;> first | exact ⟨_, rfl⟩ | skip
  split <;> exact ⟨_, rfl⟩

theorem GuardReads : fishlaw1_GuardReads.Pure := by
  intro l0 h1 h2 h3
  refine ⟨10 * (l0.take 6).length + 1, ?_⟩
  have ht : ∀ x ∈ l0.take 6, (Lit.int .u8 x).wf = true := fun x hx => h3 x (List.mem_of_mem_take hx)
  have hlen : (l0.take 6).length * 1 ≤ 140737488351232 := by have := List.length_take_le 6 l0; omega
  have a := prog_sum (l0.take 6) ht hlen (l0.take 6).length 0 65535 (by decide) (by omega)
  have b := ref_sum (l0.take 6) ht hlen (l0.take 6).length 0 65535 (by decide) (by omega)
  simp only [List.drop_zero] at a b
  have e : (((65535 : Nat) : Int)) = 65535 := rfl
  have e0 : (((0 : Nat) : Int)) = 0 := rfl
  rw [e, e0] at a b
  generalize sums 65535 (l0.take 6) = s at a b
  generalize 10 * (l0.take 6).length + 1 = k at a b
  unfold fishlaw1_GuardReads.f guard_Read.f fishref1_ReadTelegram.f guard_Sum.f fishref1_SumOf.f
  rw [a, b]
  by_cases h8 : (l0.length : Int) = 8
  · have hn : l0.length = 8 := by omega
    obtain ⟨c0, k0, r0⟩ := rd_byte l0 h3 0 (by omega)
    obtain ⟨c1, k1, r1⟩ := rd_byte l0 h3 1 (by omega)
    obtain ⟨c2, k2, r2⟩ := rd_byte l0 h3 2 (by omega)
    obtain ⟨c3, k3, r3⟩ := rd_byte l0 h3 3 (by omega)
    obtain ⟨c4, k4, r4⟩ := rd_byte l0 h3 4 (by omega)
    obtain ⟨c5, k5, r5⟩ := rd_byte l0 h3 5 (by omega)
    obtain ⟨c6, k6, r6⟩ := rd_byte l0 h3 6 (by omega)
    obtain ⟨c7, k7, r7⟩ := rd_byte l0 h3 7 (by omega)
    have r0 : rd l0 0 = (c0 : Int) := r0
    have r1 : rd l0 1 = (c1 : Int) := r1
    have r2 : rd l0 2 = (c2 : Int) := r2
    have r3 : rd l0 3 = (c3 : Int) := r3
    have r4 : rd l0 4 = (c4 : Int) := r4
    have r5 : rd l0 5 = (c5 : Int) := r5
    have r6 : rd l0 6 = (c6 : Int) := r6
    have r7 : rd l0 7 = (c7 : Int) := r7
    have e3 : wrap64 (c3 : Int) = (c3 : Int) := by unfold wrap64; omega
    simp only [r0, r1, r2, r3, r4, r5, r6, r7, h8, e3, join _ _ k6 k7, join _ _ k1 k2, join _ _ k4 k5, plus _ _ k6 k7, plus _ _ k1 k2, plus _ _ k4 k5, if_true, Option.bind_some, show (6 : Int) ≤ 8 from by decide, show (6 : Int) < 8 from by decide, show (7 : Int) < 8 from by decide, show (0 : Int) < 8 from by decide, show (1 : Int) < 8 from by decide, show (2 : Int) < 8 from by decide, show (3 : Int) < 8 from by decide, show (4 : Int) < 8 from by decide, show (5 : Int) < 8 from by decide]
    generalize two c1 c2 = x
    generalize two c4 c5 = y
    by_cases hs : (s : Int) = ((two c6 c7 : Nat) : Int)
    · rw [if_pos hs, if_pos hs]
      by_cases h82 : (c0 : Int) = 82
      · rw [if_pos h82, if_pos h82]
        rw [tele]
        obtain ⟨r, hr⟩ := tele_some x c3 y
        rw [hr]
        simp only [Option.bind_some]
        by_cases hz : r = 0
        · rw [if_pos hz]; simp
        · rw [if_neg hz]; simp
      · rw [if_neg h82, if_neg h82]; simp
    · rw [if_neg hs, if_neg hs]; simp
  · rw [if_neg h8, if_neg h8]; simp

end Go.Proofs.Ythbdjgjpocfneaa.Pure
