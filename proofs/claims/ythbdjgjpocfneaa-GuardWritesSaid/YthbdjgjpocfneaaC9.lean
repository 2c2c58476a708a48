/- Contracts of Sum, Write and of the reference; the law GuardWrites over them, for all telegrams. -/
import Derived.Test.YthbdjgjpocfneaaC6
namespace Go.Proofs.Ythbdjgjpocfneaa
open Go.AB

theorem wrap_u16 (n : Int) : IntKind.u16.wrap n = n % 65536 := by simp [IntKind.wrap, IntKind.bits, IntKind.signed]
theorem wrap_u8 (n : Int) : IntKind.u8.wrap n = n % 256 := by simp [IntKind.wrap, IntKind.bits, IntKind.signed]
theorem wraps_u16 (n : Int) (h0 : 0 ≤ n) (h1 : n < 2 ^ 16) : IntKind.u16.wrap n = n := by rw [wrap_u16]; omega
theorem wraps_i64 (n : Int) (h0 : 0 ≤ n) (h1 : n < 2 ^ 32) : IntKind.i64.wrap n = n := by rw [IntKind.wrap_i64]; omega
theorem xor_nat (k : IntKind) (j : Nat) (hj : j ≤ k.bits) (hk : ∀ n : Int, 0 ≤ n → n < 2 ^ j → k.wrap n = n) (a b : Nat) (ha : a < 2 ^ j) (hb : b < 2 ^ j) :
    bits .xor k a b = ((a ^^^ b : Nat) : Int) := by
  have hp : 2 ^ j ≤ 2 ^ k.bits := Nat.pow_le_pow_right (by decide) hj
  have ha' : a % 2 ^ k.bits = a := Nat.mod_eq_of_lt (Nat.lt_of_lt_of_le ha hp)
  have hb' : b % 2 ^ k.bits = b := Nat.mod_eq_of_lt (Nat.lt_of_lt_of_le hb hp)
  have cast : ∀ n : Nat, n < 2 ^ j → ((n : Nat) : Int) < 2 ^ j := fun n h => by exact_mod_cast h
  simp only [bits, BitVec.ofInt_natCast, BitVec.toNat_xor, BitVec.toNat_ofNat, ha', hb']
  exact hk _ (Int.natCast_nonneg _) (cast _ (Nat.xor_lt_two_pow ha hb))
theorem and_nat (k : IntKind) (j : Nat) (hj : j ≤ k.bits) (hk : ∀ n : Int, 0 ≤ n → n < 2 ^ j → k.wrap n = n) (a b : Nat) (ha : a < 2 ^ j) (hb : b < 2 ^ j) :
    bits .and k a b = ((a &&& b : Nat) : Int) := by
  have hp : 2 ^ j ≤ 2 ^ k.bits := Nat.pow_le_pow_right (by decide) hj
  have ha' : a % 2 ^ k.bits = a := Nat.mod_eq_of_lt (Nat.lt_of_lt_of_le ha hp)
  have hb' : b % 2 ^ k.bits = b := Nat.mod_eq_of_lt (Nat.lt_of_lt_of_le hb hp)
  have cast : ∀ n : Nat, n < 2 ^ j → ((n : Nat) : Int) < 2 ^ j := fun n h => by exact_mod_cast h
  simp only [bits, BitVec.ofInt_natCast, BitVec.toNat_and, BitVec.toNat_ofNat, ha', hb']
  exact hk _ (Int.natCast_nonneg _) (cast _ (Nat.and_lt_two_pow _ hb))
theorem xor_u16 (a b : Nat) (ha : a < 65536) (hb : b < 65536) : Go.bits .xor .u16 (a : Int) (b : Int) = ((a ^^^ b : Nat) : Int) := xor_nat .u16 16 (by decide) wraps_u16 a b ha hb
theorem and_u16 (a b : Nat) (ha : a < 65536) (hb : b < 65536) : Go.bits .and .u16 (a : Int) (b : Int) = ((a &&& b : Nat) : Int) := and_nat .u16 16 (by decide) wraps_u16 a b ha hb
theorem xor_i64 (a b : Nat) (ha : a < 65536) (hb : b < 65536) : Go.bits .xor .i64 (a : Int) (b : Int) = ((a ^^^ b : Nat) : Int) := xor_nat .i64 32 (by decide) wraps_i64 a b (by omega) (by omega)
theorem and_i64 (a b : Nat) (ha : a < 4294967296) (hb : b < 4294967296) : Go.bits .and .i64 (a : Int) (b : Int) = ((a &&& b : Nat) : Int) := and_nat .i64 32 (by decide) wraps_i64 a b (by omega) (by omega)

theorem and_top (a : Nat) (ha : a < 65536) : (a &&& 32768) = if a < 32768 then 0 else 32768 := by
  have h : a &&& 32768 = 2 ^ 15 * ((a / 2 ^ 15) % 2) := by
    have e : (32768 : Nat) = 2 ^ 15 := rfl
    apply Nat.eq_of_testBit_eq
    intro i
    rw [e, Nat.testBit_and, Nat.testBit_two_pow, Nat.mul_comm, Nat.testBit_mul_two_pow]
    by_cases hi : i = 15
    · subst hi; simp [Nat.testBit, Nat.shiftRight_eq_div_pow]
    · by_cases h15 : 15 ≤ i
      · obtain ⟨j, hj⟩ : ∃ j, i - 15 = j + 1 := ⟨i - 15 - 1, by omega⟩
        have h2 : (a / 2 ^ 15 % 2) < 2 ^ (j + 1) := by
          have h1 : a / 2 ^ 15 % 2 < 2 := Nat.mod_lt _ (by decide)
          have h3 : 2 ^ 1 ≤ 2 ^ (j + 1) := Nat.pow_le_pow_right (by decide) (by omega)
          omega
        rw [hj, Nat.testBit_lt_two_pow h2]
        have : ¬ 15 = i := fun h => hi h.symm
        simp [this]
      · have : ¬ 15 = i := fun h => hi h.symm
        simp [this, h15]
  rw [h]
  split <;> omega

/-- One bit of the sum. -/
def st (n : Nat) : Nat := if n < 32768 then 2 * n else (2 * n - 65536) ^^^ 4129
theorem st_lt (n : Nat) (h : n < 65536) : st n < 65536 := by
  unfold st
  split
  · omega
  · exact Nat.xor_lt_two_pow (n := 16) (by omega) (by omega)
def st8 (n : Nat) : Nat → Nat
  | 0 => n
  | k + 1 => st8 (st n) k
theorem st8_lt (k : Nat) : ∀ n, n < 65536 → st8 n k < 65536 := by
  induction k with
  | zero => exact fun n h => h
  | succ k ih => exact fun n h => ih _ (st_lt n h)
def sums (n : Nat) : List Int → Nat
  | [] => n
  | c :: l => sums (st8 (n ^^^ (c.toNat * 256)) 8) l
theorem sums_lt : ∀ (l : List Int) (n : Nat), (∀ c ∈ l, 0 ≤ c ∧ c ≤ 255) → n < 65536 → sums n l < 65536
  | [], n, _, h => h
  | c :: l, n, hc, h => by
    have h1 := hc c (by simp)
    have h2 : n ^^^ (c.toNat * 256) < 65536 := Nat.xor_lt_two_pow (n := 16) h (by omega)
    rw [sums]
    exact sums_lt l _ (fun d hd => hc d (by simp [hd])) (st8_lt 8 _ h2)

theorem top_u16 (n : Nat) (h : n < 65536) : bits .and .u16 (n : Int) 32768 = if n < 32768 then 0 else 32768 := by
  have h1 : (32768 : Int) = ((32768 : Nat) : Int) := by omega
  have h2 : bits .and .u16 (n : Int) 32768 = ((n &&& 32768 : Nat) : Int) := by rw [h1]; exact and_u16 n 32768 h (by omega)
  rw [h2, and_top n h]
  split <;> omega
theorem u16_in {z : Int} (h1 : 0 ≤ z) (h2 : z ≤ 65535) : IntKind.u16.wrap z = z := by rw [wrap_u16]; omega
theorem u8_in {z : Int} (h1 : 0 ≤ z) (h2 : z ≤ 255) : IntKind.u8.wrap z = z := by rw [wrap_u8]; omega

theorem pick_drop {l : List Int} {x : Nat} {c : Int} (h : l[x]? = some c) : l.drop x = c :: l.drop (x + 1) := by
  have hlt := (List.getElem?_eq_some_iff.1 h).1
  rw [List.drop_eq_getElem_cons hlt]
  congr 1
  rw [List.getElem?_eq_getElem hlt] at h
  exact Option.some.inj h

set_option maxRecDepth 10000 in
theorem f22 (l : List Int) (hl : l.length ≤ 140737488351232) (hb : ∀ c ∈ l, 0 ≤ c ∧ c ≤ 255) : PCall Try.prog 22 [.sl 1 (l.map (DV.int .u8)) .no] (RV (.int .i64 (sums 65535 l))) := by
  refine PCall.of_body Try.func22 rfl Try.ntmps22 (congrArg Array.toList Try.results22) ?_
  intro E
  simp only [go_sem]
  refine AW_loopS [3, 4, 5, 6, 9, 10, 11, 12, 13, 14, 15, 16, 17, 18, 19, 20, 21, 22, 23, 24, 25, 26, 27, 28, 29] (fun (x : Nat × Nat) ρ m => ρ 9 = .int .i64 (x.1 : Int) ∧ ρ 3 = .int .u16 (x.2 : Int) ∧ (∃ nx lv, m = ⟨[], [], nx, lv⟩) ∧ x.1 ≤ l.length ∧ x.2 < 65536 ∧ sums x.2 (l.drop x.1) = sums 65535 l) (fun x => l.length - x.1) (0, 65535) ?_ ?_
  · simp only [go_sem]
    exact ⟨⟨_, _, rfl⟩, Nat.zero_le _⟩
  · rintro ⟨x, n⟩ ρ m ⟨e9, e3, ⟨nx, lv, rfl⟩, hx, hn, hs⟩
    dsimp only at e9 e3 hx hn hs
    by_cases hlt : x < l.length
    · have hlt' : ((x : Int) < (l.length : Int)) = True := by simp; omega
      obtain ⟨c, hc⟩ : ∃ c, l[x]? = some c := ⟨_, List.getElem?_eq_getElem hlt⟩
      have hcb := hb c (List.mem_of_getElem? hc)
      rw [pick_drop hc, sums] at hs
      simp (disch := omega) only [go_sem, e9, e3, hlt', hc, i64_in, u16_in, Int.reducePow]
      have hx2 : n ^^^ c.toNat * 256 < 65536 := Nat.xor_lt_two_pow (n := 16) hn (by omega)
      have hxx : bits .xor .u16 (n : Int) (c * 256) = ((n ^^^ c.toNat * 256 : Nat) : Int) := by
        have : c * 256 = ((c.toNat * 256 : Nat) : Int) := by omega
        rw [this]; exact xor_u16 n _ hn (by omega)
      rw [hxx]
      refine ⟨by omega, ?_⟩
      refine AW_loopS [3, 6, 18, 19, 20, 21, 22, 23, 24, 25, 26, 27, 28] (fun (y : Nat × Nat) ρ m => ρ 18 = .int .i64 (y.1 : Int) ∧ ρ 3 = .int .u16 (y.2 : Int) ∧ (∃ nx lv, m = ⟨[], [], nx, lv⟩) ∧ y.1 ≤ 8 ∧ y.2 < 65536 ∧ st8 y.2 (8 - y.1) = st8 (n ^^^ c.toNat * 256) 8) (fun y => 8 - y.1) (0, n ^^^ c.toNat * 256) ?_ ?_
      · simp only [go_sem]
        exact ⟨⟨_, _, rfl⟩, by omega⟩
      rintro ⟨j, k⟩ ρ2 m2 ⟨f18, f3, ⟨nx2, lv2, rfl⟩, hj, hk, hst⟩
      dsimp only at f18 f3 hj hk hst
      have htop := top_u16 k hk
      by_cases hj8 : j < 8
      · have hj' : ((j : Int) < 8) = True := by simp; omega
        have hst2 : st8 (st k) (8 - (j + 1)) = st8 (n ^^^ c.toNat * 256) 8 := by
          rw [← hst, show 8 - j = (8 - (j + 1)) + 1 by omega, st8]
        have hslt := st_lt k hk
        by_cases hkt : k < 32768
        · rw [if_pos hkt] at htop
          have hs1 : st k = 2 * k := by unfold st; rw [if_pos hkt]
          simp (disch := omega) only [go_sem, f18, f3, hj', htop, i64_in, u16_in, Int.reducePow]
          refine ⟨by kernel_rfl, (j + 1, st k), ?_, by simp only; omega⟩
          simp only [go_sem]
          exact ⟨by simp, by rw [hs1]; omega, ⟨_, _, rfl⟩, by omega, hslt, hst2⟩
        · rw [if_neg hkt] at htop
          have hs1 : bits .xor .u16 (IntKind.u16.wrap ((k : Int) * 2)) 4129 = ((st k : Nat) : Int) := by
            have e1 : IntKind.u16.wrap ((k : Int) * 2) = ((2 * k - 65536 : Nat) : Int) := by rw [wrap_u16]; omega
            have e2 : (4129 : Int) = ((4129 : Nat) : Int) := by omega
            rw [e1]; unfold st; rw [if_neg hkt, e2]; exact xor_u16 _ 4129 (by omega) (by omega)
          simp (disch := omega) only [go_sem, f18, f3, hj', htop, i64_in, Int.reducePow, hs1]
          refine ⟨by kernel_rfl, (j + 1, st k), ?_, by simp only; omega⟩
          simp only [go_sem]
          exact ⟨by simp, ⟨_, _, rfl⟩, by omega, hslt, hst2⟩
      · have hj' : ((j : Int) < 8) = False := by simp; omega
        have hj0 : 8 - j = 0 := by omega
        rw [hj0, st8] at hst
        simp (disch := omega) only [go_sem, f18, f3, hj', i64_in]
        refine ⟨by kernel_rfl, (x + 1, k), ?_, by simp only; omega⟩
        simp only [go_sem]
        exact ⟨by simp, ⟨_, _, rfl⟩, by omega, hk, by rw [hst]; exact hs⟩
    · have hlt' : ((x : Int) < (l.length : Int)) = False := by simp; omega
      rw [List.drop_eq_nil_of_le (by omega), sums] at hs
      simp (disch := omega) only [go_sem, e9, e3, hlt', i64_in]
      rw [hs]

theorem mask16 (m : Nat) (h1 : 65536 ≤ m) (h2 : m < 131072) : bits .and .i64 (m : Int) 65535 = ((m - 65536 : Nat) : Int) := by
  have e : (65535 : Int) = ((65535 : Nat) : Int) := by omega
  rw [e, and_i64 m 65535 (by omega) (by omega)]
  have := Nat.and_two_pow_sub_one_eq_mod m 16
  simp only [Nat.reducePow, Nat.reduceSub] at this
  rw [this]; omega

set_option maxRecDepth 10000 in
theorem f23 (l : List Int) (hl : l.length ≤ 140737488351232) (hb : ∀ c ∈ l, 0 ≤ c ∧ c ≤ 255) : PCall Try.prog 23 [.sl 1 (l.map (DV.int .u8)) .no] (RV (.int .i64 (sums 65535 l))) := by
  refine PCall.of_body Try.func23 rfl Try.ntmps23 (congrArg Array.toList Try.results23) ?_
  intro E
  simp only [go_sem]
  refine AW_loopS [3, 4, 5, 6, 9, 10, 11, 12, 13, 14, 15, 16, 17, 18, 19, 20, 21, 22, 23, 24, 25, 26, 27, 28, 29] (fun (x : Nat × Nat) ρ m => ρ 9 = .int .i64 (x.1 : Int) ∧ ρ 3 = .int .i64 (x.2 : Int) ∧ (∃ nx lv, m = ⟨[], [], nx, lv⟩) ∧ x.1 ≤ l.length ∧ x.2 < 65536 ∧ sums x.2 (l.drop x.1) = sums 65535 l) (fun x => l.length - x.1) (0, 65535) ?_ ?_
  · simp only [go_sem]
    exact ⟨⟨_, _, rfl⟩, Nat.zero_le _⟩
  · rintro ⟨x, n⟩ ρ m ⟨e9, e3, ⟨nx, lv, rfl⟩, hx, hn, hs⟩
    dsimp only at e9 e3 hx hn hs
    by_cases hlt : x < l.length
    · have hlt' : ((x : Int) < (l.length : Int)) = True := by simp; omega
      obtain ⟨c, hc⟩ : ∃ c, l[x]? = some c := ⟨_, List.getElem?_eq_getElem hlt⟩
      have hcb := hb c (List.mem_of_getElem? hc)
      rw [pick_drop hc, sums] at hs
      simp (disch := omega) only [go_sem, e9, e3, hlt', hc, i64_in, u16_in, Int.reducePow]
      have hx2 : n ^^^ c.toNat * 256 < 65536 := Nat.xor_lt_two_pow (n := 16) hn (by omega)
      have hxx : bits .xor .i64 (n : Int) (c * 256) = ((n ^^^ c.toNat * 256 : Nat) : Int) := by
        have : c * 256 = ((c.toNat * 256 : Nat) : Int) := by omega
        rw [this]; exact xor_i64 n _ hn (by omega)
      rw [hxx]
      refine ⟨by omega, ?_⟩
      refine AW_loopS [3, 6, 18, 19, 20, 21, 22, 23, 24, 25, 26, 27, 28] (fun (y : Nat × Nat) ρ m => ρ 6 = .int .i64 (y.1 : Int) ∧ ρ 3 = .int .i64 (y.2 : Int) ∧ (∃ nx lv, m = ⟨[], [], nx, lv⟩) ∧ y.1 ≤ 8 ∧ y.2 < 65536 ∧ st8 y.2 (8 - y.1) = st8 (n ^^^ c.toNat * 256) 8) (fun y => 8 - y.1) (0, n ^^^ c.toNat * 256) ?_ ?_
      · simp only [go_sem]
        exact ⟨⟨_, _, rfl⟩, by omega⟩
      rintro ⟨j, k⟩ ρ2 m2 ⟨f18, f3, ⟨nx2, lv2, rfl⟩, hj, hk, hst⟩
      dsimp only at f18 f3 hj hk hst
      by_cases hj8 : j < 8
      · have hj' : ((j : Int) < 8) = True := by simp; omega
        have hst2 : st8 (st k) (8 - (j + 1)) = st8 (n ^^^ c.toNat * 256) 8 := by
          rw [← hst, show 8 - j = (8 - (j + 1)) + 1 by omega, st8]
        have hslt := st_lt k hk
        by_cases hkt : k < 32768
        · have hs1 : st k = 2 * k := by unfold st; rw [if_pos hkt]
          have hk2 : ((65535 : Int) < (k : Int) * 2) = False := by simp; omega
          simp (disch := omega) only [go_sem, f18, f3, hj', hk2, i64_in, u16_in, Int.reducePow]
          refine ⟨by kernel_rfl, (j + 1, st k), ?_, by simp only; omega⟩
          simp only [go_sem]
          exact ⟨by simp, by rw [hs1]; omega, ⟨_, _, rfl⟩, by omega, hslt, hst2⟩
        · have hk2 : ((65535 : Int) < (k : Int) * 2) = True := by simp; omega
          have hs1 : bits .xor .i64 (bits .and .i64 ((k : Int) * 2) 65535) 4129 = ((st k : Nat) : Int) := by
            have e1 : (k : Int) * 2 = ((2 * k : Nat) : Int) := by omega
            have e2 : (4129 : Int) = ((4129 : Nat) : Int) := by omega
            rw [e1, mask16 (2 * k) (by omega) (by omega)]; unfold st; rw [if_neg hkt, e2]; exact xor_i64 _ 4129 (by omega) (by omega)
          simp (disch := omega) only [go_sem, f18, f3, hj', hk2, i64_in, Int.reducePow, hs1]
          refine ⟨by kernel_rfl, (j + 1, st k), ?_, by simp only; omega⟩
          simp only [go_sem]
          exact ⟨by simp, ⟨_, _, rfl⟩, by omega, hslt, hst2⟩
      · have hj' : ((j : Int) < 8) = False := by simp; omega
        have hj0 : 8 - j = 0 := by omega
        rw [hj0, st8] at hst
        simp (disch := omega) only [go_sem, f18, f3, hj', i64_in]
        refine ⟨by kernel_rfl, (x + 1, k), ?_, by simp only; omega⟩
        simp only [go_sem]
        exact ⟨by simp, ⟨_, _, rfl⟩, by omega, hk, by rw [hst]; exact hs⟩
    · have hlt' : ((x : Int) < (l.length : Int)) = False := by simp; omega
      rw [List.drop_eq_nil_of_le (by omega), sums] at hs
      simp (disch := omega) only [go_sem, e9, e3, hlt', i64_in]
      rw [hs]

/-! ### Equal of lists of bytes -/
theorem f30 (a b : List Int) (ha : a.length ≤ 140737488351232) : PCall Try.prog 30 [.sl 1 (a.map (DV.int .u8)) .no, .sl 1 (b.map (DV.int .u8)) .no] (RV (.bool (decide (a = b)))) := by
  refine PCall.of_body Try.func30 rfl Try.ntmps30 (congrArg Array.toList Try.results30) ?_
  intro E
  simp only [go_sem]
  refine ⟨fun h => ?_, fun h => ?_⟩
  · have : a ≠ b := fun e => h (by rw [e])
    simp [this]
  have hl : a.length = b.length := by omega
  refine AW_loopS [5, 13, 14, 15, 16, 17, 18, 19, 20, 21, 22, 23, 24, 25] (fun (x : Nat) ρ m => ρ 13 = .int .i64 (x : Int) ∧ (∃ nx lv, m = ⟨[], [], nx, lv⟩) ∧ x ≤ a.length ∧ a.take x = b.take x) (fun x => a.length - x) 0 ?_ ?_
  · simp only [go_sem]
    exact ⟨⟨_, _, rfl⟩, Nat.zero_le _⟩
  · rintro x ρ m ⟨e8, ⟨nx, lv, rfl⟩, hx, hall⟩
    by_cases hlt : x < a.length
    · have hlt' : ((x : Int) < (a.length : Int)) = True := by simp; omega
      obtain ⟨c, hc⟩ : ∃ c, a[x]? = some c := ⟨_, List.getElem?_eq_getElem hlt⟩
      obtain ⟨d, hd⟩ : ∃ c, b[x]? = some c := ⟨_, List.getElem?_eq_getElem (by omega)⟩
      have ht := take_eq_succ hc hd hall
      simp (disch := omega) only [go_sem, e8, hlt', i64_in]
      refine drawn (by kernel_rfl) (by kernel_rfl) ?_
      simp (disch := omega) only [go_sem, hc, hd, i64_in]
      refine ⟨by omega, by omega, fun nx lv _ _ => ⟨fun h1 => ?_, fun h1 => ?_⟩⟩
      · have : a ≠ b := fun e => by
          subst e
          rw [hc] at hd
          exact h1 (Option.some.inj hd)
        simp [this]
      · refine ⟨by kernel_rfl, x + 1, ?_, by simp only; omega⟩
        simp only [go_sem]
        exact ⟨by simp, ⟨_, _, rfl⟩, by omega, ht.2 h1⟩
    · have hlt' : ((x : Int) < (a.length : Int)) = False := by simp; omega
      simp (disch := omega) only [go_sem, e8, hlt', i64_in]
      rw [List.take_of_length_le (by omega), List.take_of_length_le (by omega)] at hall
      simp [hall]

structure Telegram where
  (link section' away : Int)
def dTelegram (t : Telegram) : DV := .agg [.int .i64 t.link, .int .i64 t.section', .int .i64 t.away]
def eTelegram (t : Telegram) : AV := .agg [.int .i64 t.link, .int .i64 t.section', .int .i64 t.away]
theorem eTelegram_eq (t : Telegram) : toAV (dTelegram t) = eTelegram t := by simp only [dTelegram, eTelegram, toAV, toAVs]

def telOk (t : Telegram) : Prop := (0 ≤ t.link ∧ t.link ≤ 89) ∧ (0 ≤ t.section' ∧ t.section' ≤ 59) ∧ 0 ≤ t.away ∧ t.away ≤ 60000
instance (t : Telegram) : Decidable (telOk t) := by unfold telOk; infer_instance
def telErr (t : Telegram) : Int := if telOk t then 0 else 2
theorem telErr_bad {t : Telegram} (h : ¬ ((0 ≤ t.link ∧ t.link ≤ 89) ∧ (0 ≤ t.section' ∧ t.section' ≤ 59) ∧ 0 ≤ t.away ∧ t.away ≤ 60000)) : 2 = telErr t := by
  unfold telErr; rw [if_neg (by unfold telOk; exact h)]
theorem telErr_good {t : Telegram} (h : (0 ≤ t.link ∧ t.link ≤ 89) ∧ (0 ≤ t.section' ∧ t.section' ≤ 59) ∧ 0 ≤ t.away ∧ t.away ≤ 60000) : 0 = telErr t := by
  unfold telErr; rw [if_pos (by unfold telOk; exact h)]
/-- The first six bytes. -/
def six (t : Telegram) : List Int := [82, t.link / 256 % 256, t.link % 256, t.section' % 256, t.away / 256 % 256, t.away % 256]
theorem six_bd (t : Telegram) : ∀ c ∈ six t, 0 ≤ c ∧ c ≤ 255 := by
  simp only [six, List.mem_cons, List.not_mem_nil, or_false, forall_eq_or_imp, forall_eq]
  omega
def telBytes (t : Telegram) : List Int := six t ++ [((sums 65535 (six t) : Nat) : Int) / 256 % 256, ((sums 65535 (six t) : Nat) : Int) % 256]
def telVal (t : Telegram) : List Int := if telErr t = 0 then telBytes t else []

theorem f66 (n lo hi : Int) : PCall Try.prog 66 [.int .i64 n, .int .i64 lo, .int .i64 hi] (RV (.bool (within n lo hi))) := by
  refine PCall.of_body Try.func66 rfl Try.ntmps66 (congrArg Array.toList Try.results66) ?_
  intro E
  simp only [go_sem]
  unfold within
  grind

set_option maxRecDepth 20000 in
theorem f71 (t : Telegram) : PCall Try.prog 71 [eTelegram t] (RV (.int .i64 (telErr t))) := by
  refine PCall.of_body Try.func71 rfl Try.ntmps71 (congrArg Array.toList Try.results71) ?_
  intro E
  simp only [go_sem, eTelegram]
  refine callV (f66 _ _ _) ?_
  intro nx lv
  simp only [go_sem]
  refine ⟨fun h => ?_, fun h => callV (f66 _ _ _) ?_⟩
  · simp only [within, Bool.and_eq_false_iff, decide_eq_false_iff_not] at h
    exact telErr_bad (by omega)
  intro nx lv
  simp only [within, Bool.and_eq_true, decide_eq_true_eq] at h
  simp only [go_sem]
  refine ⟨fun h2 => ?_, fun h2 => callV (f66 _ _ _) ?_⟩
  · simp only [within, Bool.and_eq_false_iff, decide_eq_false_iff_not] at h2
    exact telErr_bad (by omega)
  intro nx lv
  simp only [within, Bool.and_eq_true, decide_eq_true_eq] at h2
  simp only [go_sem]
  refine ⟨fun h3 => ?_, fun h3 => ?_⟩
  · simp only [within, Bool.and_eq_false_iff, decide_eq_false_iff_not] at h3
    exact telErr_bad (by omega)
  · simp only [within, Bool.and_eq_true, decide_eq_true_eq] at h3
    exact telErr_good ⟨h, h2, h3⟩

set_option maxRecDepth 20000 in
theorem f29 (t : Telegram) : PCall Try.prog 29 [eTelegram t] (RV (.int .i64 (telErr t))) := by
  refine PCall.of_body Try.func29 rfl Try.ntmps29 (congrArg Array.toList Try.results29) ?_
  intro E
  simp only [go_sem, eTelegram]
  repeat' first
    | refine And.intro ?_ ?_
    | intro _
  all_goals first | exact telErr_bad (by omega) | exact telErr_good (by omega)

set_option maxRecDepth 20000 in
theorem f28 (t : Telegram) : PCall Try.prog 28 [eTelegram t] (RV (.tup [.sl 1 ((telVal t).map (DV.int .u8)) .no, .int .i64 (telErr t)])) := by
  refine PCall.of_bodyE Try.func28 rfl Try.ntmps28 (congrArg Array.toList Try.results28) ?_
  intro E
  simp only [go_sem, eTelegram]
  refine callV (f71 t) ?_
  intro nx lv
  simp only [go_sem]
  refine ⟨fun h => by simp [telVal, h], fun h => ?_⟩
  have hok : telOk t := by
    unfold telErr at h
    split at h
    · assumption
    · cases h
  obtain ⟨h1, h2, h3⟩ := hok
  simp (disch := omega) only [go_sem, Int.reducePow, wrap_u8]
  refine quiet (f22 (six t) (by simp [six]) (six_bd t)) rfl ?_
  simp (config := {maxSteps := 1000000}) (disch := omega) only [go_sem, Int.reducePow, wrap_u8]
  simp [telVal, h, telBytes, six]

set_option maxRecDepth 20000 in
theorem f31 (t : Telegram) (h : telErr t = 0) : PCall Try.prog 31 [eTelegram t] (RV (.sl 1 ((telBytes t).map (DV.int .u8)) .no)) := by
  refine PCall.of_bodyE Try.func31 rfl Try.ntmps31 (congrArg Array.toList Try.results31) ?_
  intro E
  simp only [go_sem, eTelegram]
  have hok : telOk t := by
    unfold telErr at h
    split at h
    · assumption
    · cases h
  obtain ⟨h1, h2, h3⟩ := hok
  have q1 : t.link.tdiv 256 = t.link / 256 := Int.tdiv_eq_ediv_of_nonneg h1.1
  have q2 : t.link.tmod 256 = t.link % 256 := Int.tmod_eq_emod_of_nonneg h1.1
  have q3 : t.away.tdiv 256 = t.away / 256 := Int.tdiv_eq_ediv_of_nonneg h3.1
  have q4 : t.away.tmod 256 = t.away % 256 := Int.tmod_eq_emod_of_nonneg h3.1
  have q5 : ((sums 65535 (six t) : Nat) : Int).tdiv 256 = ((sums 65535 (six t) : Nat) : Int) / 256 := Int.tdiv_eq_ediv_of_nonneg (by omega)
  have q6 : ((sums 65535 (six t) : Nat) : Int).tmod 256 = ((sums 65535 (six t) : Nat) : Int) % 256 := Int.tmod_eq_emod_of_nonneg (by omega)
  have hsl := sums_lt (six t) 65535 (six_bd t) (by omega)
  simp (config := {maxSteps := 1000000}) (disch := omega) only [go_sem, wrap_u8, i64_in, q1, q2, q3, q4, Int.emod_emod]
  refine callVt (f23 (six t) (by simp [six]) (six_bd t)) ?_
  intro nx lv _ hlv
  simp (config := {maxSteps := 1000000}) (disch := omega) only [go_sem, wrap_u8, i64_in, q5, q6, Int.emod_emod]
  exact ⟨.inr (hlv 0 (.inl rfl)), by simp [telBytes, six]⟩

set_option maxHeartbeats 4000000 in
set_option maxRecDepth 20000 in
theorem f9 (t : Telegram) : PCall Try.prog 9 [eTelegram t] (RV (.bool true)) := by
  refine PCall.of_body Try.func9 rfl Try.ntmps9 (congrArg Array.toList Try.results9) ?_
  intro E
  simp only [go_sem, eTelegram]
  refine callV (f28 t) ?_
  intro nx lv
  simp only [go_sem]
  refine callV (f29 t) ?_
  intro nx lv
  simp only [go_sem]
  refine ⟨fun h => ?_, fun h => ?_⟩
  · simp [telVal, h]
  refine ⟨fun _ => callV (f31 t h) ?_, fun h' => absurd h h'⟩
  intro nx lv
  simp only [go_sem]
  refine callV (f30 _ _ (by simp [telVal, h, telBytes, six])) ?_
  intro nx lv
  simp only [go_sem]
  simp [telVal, h]

theorem openTelegram {x : DV} (h : ElD Try.prog 44 x) : ∃ a : Telegram, x = dTelegram a := by
  obtain ⟨ns, h1, rfl, _⟩ := h.ints 4 (n := 3) (by kernel_rfl) (by kernel_rfl)
  match ns, h1 with
  | [a, b, c], _ => exact ⟨⟨a, b, c⟩, rfl⟩
theorem law9 (xs : List DV) (h : ElDs Try.prog [44] xs) : PCall Try.prog 9 (xs.map toAV) (RV (.bool true)) := by
  obtain ⟨x, xs, rfl, hx, h⟩ := h.cons_inv
  cases h.nil_inv
  obtain ⟨t, rfl⟩ := openTelegram hx
  simp only [List.map_cons, List.map_nil, eTelegram_eq]
  exact f9 t
end Go.Proofs.Ythbdjgjpocfneaa
