/- The checksum, the program's and the reference's, for all lists of bytes; sentences. -/
import Derived.Test.YtkfhieigdlfbeaaDoorT
import Derived.Test.YtkfhieigdlfbeaaDoorB140
namespace Go.Proofs.YtkfhieigdlfbeaaDoor
open Go.AB
set_option linter.unusedSimpArgs false
set_option linter.unusedVariables false

theorem wrap_u16 (n : Int) : IntKind.u16.wrap n = n % 65536 := by simp [IntKind.wrap, IntKind.bits, IntKind.signed]
theorem wraps_u16 (n : Int) (h0 : 0 ≤ n) (h1 : n < 2 ^ 16) : IntKind.u16.wrap n = n := by rw [wrap_u16]; omega
theorem wraps_i64 (n : Int) (h0 : 0 ≤ n) (h1 : n < 2 ^ 32) : IntKind.i64.wrap n = n := by rw [IntKind.wrap_i64]; omega

theorem xor_nat (k : IntKind) (j : Nat) (hj : j ≤ k.bits) (hk : ∀ n : Int, 0 ≤ n → n < 2 ^ j → k.wrap n = n) (a b : Nat) (ha : a < 2 ^ j) (hb : b < 2 ^ j) :
    bits .xor k a b = ((a ^^^ b : Nat) : Int) := by
  have hp : 2 ^ j ≤ 2 ^ k.bits := Nat.pow_le_pow_right (by decide) hj
  have ha' : a % 2 ^ k.bits = a := Nat.mod_eq_of_lt (Nat.lt_of_lt_of_le ha hp)
  have hb' : b % 2 ^ k.bits = b := Nat.mod_eq_of_lt (Nat.lt_of_lt_of_le hb hp)
  have cast : ∀ n : Nat, n < 2 ^ j → ((n : Nat) : Int) < 2 ^ j := fun n h => by exact_mod_cast h
  simp only [bits, BitVec.ofInt_natCast, BitVec.toNat_xor, BitVec.toNat_ofNat, ha', hb']
  exact hk _ (Int.natCast_nonneg _) (cast _ (Nat.xor_lt_two_pow ha hb))
theorem and_nat (k : IntKind) (j : Nat) (hj : j ≤ k.bits) (hk : ∀ n : Int, 0 ≤ n → n < 2 ^ j → k.wrap n = n) (a b : Nat) (ha : a < 2 ^ j) (hb : b < 2 ^ j) :
    bits .and k a b = ((a &&& b : Nat) : Int) := by
  have hp : 2 ^ j ≤ 2 ^ k.bits := Nat.pow_le_pow_right (by decide) hj
  have ha' : a % 2 ^ k.bits = a := Nat.mod_eq_of_lt (Nat.lt_of_lt_of_le ha hp)
  have hb' : b % 2 ^ k.bits = b := Nat.mod_eq_of_lt (Nat.lt_of_lt_of_le hb hp)
  have cast : ∀ n : Nat, n < 2 ^ j → ((n : Nat) : Int) < 2 ^ j := fun n h => by exact_mod_cast h
  simp only [bits, BitVec.ofInt_natCast, BitVec.toNat_and, BitVec.toNat_ofNat, ha', hb']
  exact hk _ (Int.natCast_nonneg _) (cast _ (Nat.and_lt_two_pow a hb))

theorem xor_i64 (a b : Nat) (ha : a < 65536) (hb : b < 65536) : bits .xor .i64 (a : Int) (b : Int) = ((a ^^^ b : Nat) : Int) :=
  xor_nat .i64 32 (by decide) wraps_i64 a b (by omega) (by omega)
theorem and_i64 (a b : Nat) (ha : a < 4294967296) (hb : b < 4294967296) : bits .and .i64 (a : Int) (b : Int) = ((a &&& b : Nat) : Int) :=
  and_nat .i64 32 (by decide) wraps_i64 a b ha hb

theorem and_top (a : Nat) (ha : a < 65536) : (a &&& 32768) = if a < 32768 then 0 else 32768 := by
  have h : a &&& 32768 = 2 ^ 15 * ((a / 2 ^ 15) % 2) := by
    have e : (32768 : Nat) = 2 ^ 15 := rfl
    apply Nat.eq_of_testBit_eq
    intro i
    rw [e, Nat.testBit_and, Nat.testBit_two_pow, Nat.mul_comm, Nat.testBit_mul_two_pow]
    by_cases hi : i = 15
    · subst hi; simp [Nat.testBit, Nat.shiftRight_eq_div_pow]
    · by_cases h15 : 15 ≤ i
      · have : i - 15 ≠ 0 := by omega
        obtain ⟨j, hj⟩ : ∃ j, i - 15 = j + 1 := ⟨i - 15 - 1, by omega⟩
        have h2 : (a / 2 ^ 15 % 2) < 2 ^ (j + 1) := by
          have h1 : a / 2 ^ 15 % 2 < 2 := Nat.mod_lt _ (by decide)
          have h3 : 2 ^ 1 ≤ 2 ^ (j + 1) := Nat.pow_le_pow_right (by decide) (by omega)
          omega
        rw [hj, Nat.testBit_lt_two_pow h2]
        have : ¬ 15 = i := fun h => hi h.symm
        simp [this]
      · have : ¬ 15 = i := fun h => hi h.symm
        simp [this, h15]
  rw [h]
  split <;> omega

/-- One bit of the sum. -/
def st (n : Nat) : Nat := if n < 32768 then 2 * n else (2 * n - 65536) ^^^ 4129
theorem st_lt (n : Nat) (h : n < 65536) : st n < 65536 := by
  unfold st
  split
  · omega
  · exact Nat.xor_lt_two_pow (n := 16) (by omega) (by omega)
def st8 (n : Nat) : Nat → Nat
  | 0 => n
  | k + 1 => st8 (st n) k
theorem st8_lt (k : Nat) : ∀ n, n < 65536 → st8 n k < 65536 := by
  induction k with
  | zero => exact fun n h => h
  | succ k ih => exact fun n h => ih _ (st_lt n h)
/-- The sum of bytes. -/
def sums (n : Nat) : List UInt8 → Nat
  | [] => n
  | c :: l => sums (st8 (n ^^^ (c.toNat * 256)) 8) l
theorem sums_lt (l : List UInt8) : ∀ n : Nat, n < 65536 → sums n l < 65536 := by
  induction l with
  | nil => intro n h; exact h
  | cons c l ih =>
    intro n h
    have hc : c.toNat < 256 := c.toNat_lt
    have hx : (n ^^^ c.toNat * 256) < 2 ^ 16 := Nat.xor_lt_two_pow (n := 16) h (by omega)
    have h8 : st8 (n ^^^ c.toNat * 256) 8 < 65536 := st8_lt 8 _ hx
    have := ih _ h8
    rw [sums]
    exact this
theorem sums_step {l : List UInt8} {i n : Nat} {c : UInt8} (h : l[i]? = some c) : sums n (l.drop i) = sums (st8 (n ^^^ (c.toNat * 256)) 8) (l.drop (i + 1)) := by
  obtain ⟨hi, hx⟩ := List.getElem?_eq_some_iff.1 h
  rw [List.drop_eq_getElem_cons hi, hx]
  rfl
def dBytes (s : List UInt8) : List DV := s.map fun c => DV.int .u8 c.toNat

set_option maxRecDepth 20000 in
set_option maxHeartbeats 2000000 in
theorem f36 (s : List UInt8) (hl : s.length ≤ 140737488351232) : PCall Tryd.prog 36 [.sl 1 (dBytes s) .no] (RV (.int .i64 (sums 65535 s : Nat))) := by
  refine PCall.of_body Tryd.func36 rfl Tryd.ntmps36 (congrArg Array.toList Tryd.results36) ?_
  intro E
  have hdl : (dBytes s).length = s.length := by simp [dBytes]
  obtain ⟨n0, hn0⟩ : ∃ n : Nat, n = 65535 := ⟨_, rfl⟩
  have hn1 : (65535 : Int) = (n0 : Int) := by rw [hn0]; rfl
  rw [← hn0]
  simp only [go_sem, hdl, hn1]
  refine AW_loopH [3, 5, 6, 9, 10, 11, 12, 13, 14, 15, 16, 17, 18, 19, 20, 21, 22, 23, 24, 25, 26, 27, 28, 29]
    (fun (x : Nat × Nat) ρ m => ρ 9 = .int .i64 (x.1 : Int) ∧ ρ 3 = .int .u16 (x.2 : Int) ∧ x.1 ≤ s.length ∧ x.2 < 65536 ∧ sums x.2 (s.drop x.1) = sums n0 s ∧ ∃ h nx lv, m = ⟨h, [], nx, lv⟩) (fun x => s.length - x.1) (0, n0) ?_ ?_
  · simp [go_sem]
    omega
  · rintro ⟨i, n⟩ ρ m ⟨e9, e3, g1, g2, gs, h, nx, lv, rfl⟩ Q hN hR hX
    dsimp only at e9 e3 g1 g2 gs
    by_cases hlt : i < s.length
    · obtain ⟨c, hc⟩ : ∃ c, s[i]? = some c := ⟨_, List.getElem?_eq_getElem hlt⟩
      have hp : (dBytes s)[i]? = some (.int .u8 c.toNat) := by simp [dBytes, hc]
      have hlt' : ((i : Int) < (s.length : Int)) = True := by simp; omega
      have h0 : ((0 : Int) ≤ (i : Int)) = True := by simp
      have ew : IntKind.i64.wrap ((i : Int) + 1) = (i : Int) + 1 := i64_in (by omega) (by omega)
      have hcl : c.toNat < 256 := c.toNat_lt
      have hss := sums_step (n := n) hc
      have e1 : IntKind.u16.wrap (IntKind.u16.wrap (c.toNat : Int) * 2 ^ 8) = ((c.toNat * 256 : Nat) : Int) := by
        rw [wrap_u16, wrap_u16]; omega
      have e2 : bits .xor .u16 (n : Int) ((c.toNat * 256 : Nat) : Int) = ((n ^^^ c.toNat * 256 : Nat) : Int) := xor_nat .u16 16 (by decide) wraps_u16 n _ g2 (by omega)
      simp only [go_sem, e9, e3, hlt', h0, hp, e1, e2]
      have hx : (n ^^^ c.toNat * 256) < 65536 := Nat.xor_lt_two_pow (n := 16) g2 (by omega)
      generalize n ^^^ c.toNat * 256 = x at *
      refine AW_loopH [3, 6, 18, 19, 20, 21, 22, 23, 24, 25, 26, 27, 28]
        (fun (y : Nat × Nat) ρ m => ρ 18 = .int .i64 (y.1 : Int) ∧ ρ 3 = .int .u16 (y.2 : Int) ∧ y.1 ≤ 8 ∧ y.2 < 65536 ∧ st8 y.2 (8 - y.1) = st8 x 8 ∧ ∃ h nx lv, m = ⟨h, [], nx, lv⟩) (fun y => 8 - y.1) (0, x) ?_ ?_
      · simp only [go_sem]
        exact ⟨by omega, _, _, _, rfl⟩
      · rintro ⟨j, y⟩ ρ2 m ⟨e18, e32, k1, k2, ks, h2, nx3, lv3, rfl⟩ Q2 hN2 hR2 hX2
        dsimp only at e18 e32 k1 k2 ks
        by_cases hj : j < 8
        · have hj' : ((j : Int) < 8) = True := by simp; omega
          have ewj : IntKind.i64.wrap ((j : Int) + 1) = (j : Int) + 1 := i64_in (by omega) (by omega)
          have hks : st8 y (8 - j) = st8 (st y) (8 - (j + 1)) := by
            obtain ⟨k, hk⟩ : ∃ k, 8 - j = k + 1 := ⟨8 - j - 1, by omega⟩
            rw [hk, show 8 - (j + 1) = k by omega]; rfl
          have hA : bits .and .u16 (y : Int) 32768 = ((y &&& 32768 : Nat) : Int) := and_nat .u16 16 (by decide) wraps_u16 y 32768 k2 (by decide)
          rw [and_top y k2] at hA
          have hst := st_lt y k2
          by_cases hy : y < 32768
          · rw [if_pos hy] at hA
            have hS : IntKind.u16.wrap ((y : Int) * 2 ^ 1) = ((st y : Nat) : Int) := by
              rw [wrap_u16]; unfold st; rw [if_pos hy]; omega
            simp only [go_sem, e18, e32, hj', hA, hS, hN2, ewj]
            refine ⟨by kernel_rfl, (j + 1, st y), ?_, by simp only; omega⟩
            simp only [go_sem]
            exact ⟨by simp, by omega, hst, by rw [← ks, hks], _, _, _, rfl⟩
          · rw [if_neg hy] at hA
            have e1' : IntKind.u16.wrap ((y : Int) * 2 ^ 1) = ((2 * y - 65536 : Nat) : Int) := by
              rw [wrap_u16]; omega
            have hS : bits .xor .u16 ((2 * y - 65536 : Nat) : Int) 4129 = ((st y : Nat) : Int) := by
              unfold st; rw [if_neg hy]; exact xor_nat .u16 16 (by decide) wraps_u16 _ 4129 (by omega) (by decide)
            simp only [go_sem, e18, e32, hj', hA, e1', hS, hN2, ewj]
            refine ⟨by kernel_rfl, (j + 1, st y), ?_, by simp only; omega⟩
            simp only [go_sem]
            exact ⟨by simp, by omega, hst, by rw [← ks, hks], _, _, _, rfl⟩
        · have hj' : ((j : Int) < 8) = False := by simp; omega
          have hj8 : j = 8 := by omega
          subst hj8
          rw [Nat.sub_self] at ks
          have ks' : y = st8 x 8 := ks
          simp only [go_sem, e18, hj', hX2, hN, ew]
          refine ⟨by kernel_rfl, (i + 1, y), ?_, by simp only; omega⟩
          simp only [go_sem, e32]
          exact ⟨by simp, by omega, k2, by rw [← gs, hss, ← ks'], _, _, _, rfl⟩
    · have hlt' : ((i : Int) < (s.length : Int)) = False := by simp; omega
      have hd : s.drop i = [] := List.drop_eq_nil_of_le (by omega)
      rw [hd] at gs
      have ew : IntKind.i64.wrap (n : Int) = n := i64_in (by omega) (by omega)
      simp only [go_sem, e9, e3, hlt', hX, ew]
      rw [← gs]
      rfl

set_option maxRecDepth 20000 in
set_option maxHeartbeats 2000000 in
theorem f39 (s : List UInt8) (hl : s.length ≤ 140737488351232) : PCall Tryd.prog 39 [.sl 1 (dBytes s) .no] (RV (.int .i64 (sums 65535 s : Nat))) := by
  refine PCall.of_body Tryd.func39 rfl Tryd.ntmps39 (congrArg Array.toList Tryd.results39) ?_
  intro E
  have hdl : (dBytes s).length = s.length := by simp [dBytes]
  obtain ⟨n0, hn0⟩ : ∃ n : Nat, n = 65535 := ⟨_, rfl⟩
  have hn1 : (65535 : Int) = (n0 : Int) := by rw [hn0]; rfl
  rw [← hn0]
  simp only [go_sem, hdl]
  refine AW_loopH [3, 5, 6, 9, 10, 11, 12, 13, 14, 15, 16, 17, 18, 19, 20, 21, 22, 23, 24, 25, 26, 27, 28, 29]
    (fun (x : Nat × Nat) ρ m => ρ 9 = .int .i64 (x.1 : Int) ∧ ρ 3 = .int .i64 (x.2 : Int) ∧ x.1 ≤ s.length ∧ x.2 < 65536 ∧ sums x.2 (s.drop x.1) = sums n0 s ∧ ∃ h nx lv, m = ⟨h, [], nx, lv⟩) (fun x => s.length - x.1) (0, n0) ?_ ?_
  · simp only [go_sem, ← hn1]
    refine ⟨?_, ?_, _, _, _, rfl⟩ <;> first | omega | simp
  · rintro ⟨i, n⟩ ρ m ⟨e9, e3, g1, g2, gs, h, nx, lv, rfl⟩ Q hN hR hX
    dsimp only at e9 e3 g1 g2 gs
    by_cases hlt : i < s.length
    · obtain ⟨c, hc⟩ : ∃ c, s[i]? = some c := ⟨_, List.getElem?_eq_getElem hlt⟩
      have hp : (dBytes s)[i]? = some (.int .u8 c.toNat) := by simp [dBytes, hc]
      have hlt' : ((i : Int) < (s.length : Int)) = True := by simp; omega
      have h0 : ((0 : Int) ≤ (i : Int)) = True := by simp
      have ew : IntKind.i64.wrap ((i : Int) + 1) = (i : Int) + 1 := i64_in (by omega) (by omega)
      have hcl : c.toNat < 256 := c.toNat_lt
      have hss := sums_step (n := n) hc
      have e1 : IntKind.i64.wrap (IntKind.i64.wrap (c.toNat : Int) * 2 ^ 8) = ((c.toNat * 256 : Nat) : Int) := by
        have a1 : IntKind.i64.wrap (c.toNat : Int) = (c.toNat : Int) := i64_in (by omega) (by omega)
        have a2 : IntKind.i64.wrap ((c.toNat : Int) * 256) = (c.toNat : Int) * 256 := i64_in (by omega) (by omega)
        rw [a1, show (2 : Int) ^ 8 = 256 from rfl, a2]; simp
      have e2 : bits .xor .i64 (n : Int) ((c.toNat * 256 : Nat) : Int) = ((n ^^^ c.toNat * 256 : Nat) : Int) := xor_i64 n _ g2 (by omega)
      simp only [go_sem, e9, e3, hlt', h0, hp, e1, e2]
      have hx : (n ^^^ c.toNat * 256) < 65536 := Nat.xor_lt_two_pow (n := 16) g2 (by omega)
      generalize n ^^^ c.toNat * 256 = x at *
      refine AW_loopH [3, 6, 18, 19, 20, 21, 22, 23, 24, 25, 26, 27, 28]
        (fun (y : Nat × Nat) ρ m => ρ 6 = .int .i64 (y.1 : Int) ∧ ρ 3 = .int .i64 (y.2 : Int) ∧ y.1 ≤ 8 ∧ y.2 < 65536 ∧ st8 y.2 (8 - y.1) = st8 x 8 ∧ ∃ h nx lv, m = ⟨h, [], nx, lv⟩) (fun y => 8 - y.1) (0, x) ?_ ?_
      · simp only [go_sem]
        exact ⟨by omega, _, _, _, rfl⟩
      · rintro ⟨j, y⟩ ρ2 m ⟨e18, e32, k1, k2, ks, h2, nx3, lv3, rfl⟩ Q2 hN2 hR2 hX2
        dsimp only at e18 e32 k1 k2 ks
        by_cases hj : j < 8
        · have hj' : ((j : Int) < 8) = True := by simp; omega
          have ewj : IntKind.i64.wrap ((j : Int) + 1) = (j : Int) + 1 := i64_in (by omega) (by omega)
          have hks : st8 y (8 - j) = st8 (st y) (8 - (j + 1)) := by
            obtain ⟨k, hk⟩ : ∃ k, 8 - j = k + 1 := ⟨8 - j - 1, by omega⟩
            rw [hk, show 8 - (j + 1) = k by omega]; rfl
          have hst := st_lt y k2
          have hS0 : IntKind.i64.wrap ((y : Int) * 2 ^ 1) = ((2 * y : Nat) : Int) := by
            have a2 : IntKind.i64.wrap ((y : Int) * 2) = (y : Int) * 2 := i64_in (by omega) (by omega)
            rw [show (2 : Int) ^ 1 = 2 from rfl, a2]; omega
          by_cases hy : y < 32768
          · have hg : ((65535 : Int) < ((2 * y : Nat) : Int)) = False := by simp; omega
            have hS : ((2 * y : Nat) : Int) = ((st y : Nat) : Int) := by unfold st; rw [if_pos hy]
            simp only [go_sem, e18, e32, hj', hS0, hg, hN2, ewj]
            refine ⟨by kernel_rfl, (j + 1, st y), ?_, by simp only; omega⟩
            simp only [go_sem, hS]
            exact ⟨by simp, by omega, hst, by rw [← ks, hks], _, _, _, rfl⟩
          · have hg : ((65535 : Int) < ((2 * y : Nat) : Int)) = True := by simp; omega
            have e3' : bits .and .i64 ((2 * y : Nat) : Int) 65535 = ((2 * y - 65536 : Nat) : Int) := by
              rw [show (65535 : Int) = ((65535 : Nat) : Int) from rfl, and_i64 (2 * y) 65535 (by omega) (by decide)]
              have := Nat.and_two_pow_sub_one_eq_mod (2 * y) 16
              simp only [Nat.reducePow, Nat.reduceSub] at this
              rw [this]; omega
            have hS : bits .xor .i64 ((2 * y - 65536 : Nat) : Int) 4129 = ((st y : Nat) : Int) := by
              unfold st; rw [if_neg hy]; exact xor_i64 _ 4129 (by omega) (by decide)
            simp only [go_sem, e18, e32, hj', hS0, hg, e3', hS, hN2, ewj]
            refine ⟨by kernel_rfl, (j + 1, st y), ?_, by simp only; omega⟩
            simp only [go_sem]
            exact ⟨by simp, by omega, hst, by rw [← ks, hks], _, _, _, rfl⟩
        · have hj' : ((j : Int) < 8) = False := by simp; omega
          have hj8 : j = 8 := by omega
          subst hj8
          rw [Nat.sub_self] at ks
          have ks' : y = st8 x 8 := ks
          simp only [go_sem, e18, hj', hX2, hN, ew]
          refine ⟨by kernel_rfl, (i + 1, y), ?_, by simp only; omega⟩
          simp only [go_sem, e32]
          exact ⟨by simp, by omega, k2, by rw [← gs, hss, ← ks'], _, _, _, rfl⟩
    · have hlt' : ((i : Int) < (s.length : Int)) = False := by simp; omega
      have hd : s.drop i = [] := List.drop_eq_nil_of_le (by omega)
      rw [hd] at gs
      simp only [go_sem, e9, e3, hlt', hX]
      rw [← gs]
      rfl

end Go.Proofs.YtkfhieigdlfbeaaDoor
