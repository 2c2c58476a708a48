/- Numbers of lines: the program's reading and the reference's. -/
import Derived.Test.YtkfhieigdlfbeaaDoorP1
import Derived.Test.YtkfhieigdlfbeaaDoorB140
import Derived.Test.YtkfhieigdlfbeaaDoorB130
namespace Go.Proofs.YtkfhieigdlfbeaaDoor
set_option linter.unusedSimpArgs false
set_option linter.unusedVariables false
open Go.AB

theorem callR {P : Go.Program} {k : Nat} {bs args : List AV} {σ : AS} {dst : Option Nat} {K : AS → Prop} {R : AH → AV → Prop} (h : PCall P k bs R)
    (hK : ∀ m' x nx2 lv2, R m' x → σ.m.nx ≤ nx2 → (∀ j, σ.m.lv j → lv2 j) → K (AS.put ⟨σ.s, ⟨σ.m.h, σ.m.o, nx2, lv2⟩⟩ dst (shV σ.m.nx x))) : callX P k bs args σ dst K := by
  unfold callX
  refine .inl ⟨_, h, ?_⟩
  unfold callK
  intro m' x hR nx2 lv2 h1 h2 _
  exact hK m' x nx2 lv2 hR h1 h2

/-- A number and whether it is one. -/
def RNumB (s : List UInt8) : AH → AV → Prop := fun _ r => ∃ v, r = .tup [.int .i64 v, .bool (lineNum s).isSome] ∧ ∀ n, lineNum s = some n → v = n

theorem lineNum_ok {s : List UInt8} {v : Int} (h : Lib.atoiAll s = .ok v) : lineNum s = if Lib.itoa v = s ∧ (Lib.trimPrefix s [45]).length ≤ 9 then some v else none := by
  unfold lineNum
  rw [h]
theorem lineNum_bad {s : List UInt8} (h : ∀ v, Lib.atoiAll s ≠ .ok v) : lineNum s = none := by
  unfold lineNum
  split
  · rename_i v hv; exact absurd hv (h v)
  · rfl

theorem f58 (s : List UInt8) (hs : s.length ≤ 281474976710656) : PCall Tryd.prog 58 [.str s] (RNumB s) := by
  refine PCall.of_body Tryd.func58 rfl Tryd.ntmps58 (congrArg Array.toList Tryd.results58) ?_
  intro E
  simp only [go_sem]
  refine callR (f88 s hs) ?_
  intro m' x nx lv hR _ _
  cases h : Lib.atoiAll s with
  | ok v =>
    rw [h] at hR
    obtain rfl : x = .tup [.int .i64 v, .raw .nilIface] := hR
    have hb := Lib.atoiAll_bounds h
    have hl := lineNum_ok h
    simp only [go_sem]
    refine callV (f35 v hb.1 hb.2) ?_
    intro nx2 lv2
    by_cases h1 : Lib.itoa v = s
    · have e1 : (Lib.itoa v = s) = True := by simp [h1]
      simp only [go_sem, e1]
      refine callV (f89 s [45]) ?_
      intro nx3 lv3
      simp only [go_sem]
      refine ⟨v, ?_, ?_⟩
      · rw [hl, h1]
        by_cases h2 : (Lib.trimPrefix s [45]).length ≤ 9 <;> simp [h2] <;> omega
      · intro n hn
        rw [hl] at hn
        split at hn
        · exact Option.some.inj hn
        · cases hn
    · have e1 : (Lib.itoa v = s) = False := by simp [h1]
      simp only [go_sem, e1]
      have : lineNum s = none := by rw [hl, if_neg (fun h => h1 h.1)]
      exact ⟨v, by rw [this]; rfl, by rw [this]; simp⟩
  | _ => 
    rw [h] at hR
    obtain ⟨k, t, p, rfl⟩ := hR
    have hl := lineNum_bad (s := s) (by rw [h]; simp)
    simp only [go_sem]
    exact ⟨k, by rw [hl]; rfl, by rw [hl]; simp⟩

/-- The numbers of words. -/
def numsF : List (List UInt8) → Option (List Int)
  | [] => some []
  | w :: r => match lineNum w with
    | none => none
    | some n => match numsF r with
      | none => none
      | some l => some (n :: l)

theorem numsF_take : ∀ (ws : List (List UInt8)) (i : Nat) (w : List UInt8) (l : List Int), ws[i]? = some w → numsF (ws.take i) = some l →
    (lineNum w = none → numsF ws = none) ∧ ∀ n, lineNum w = some n → numsF (ws.take (i + 1)) = some (l ++ [n])
  | [], i, w, l, h, _ => by simp at h
  | x :: r, 0, w, l, h, hl => by
    simp only [List.getElem?_cons_zero, Option.some.injEq] at h
    subst h
    simp only [List.take_zero, numsF, Option.some.injEq] at hl
    subst hl
    refine ⟨fun hn => by simp [numsF, hn], fun n hn => by simp [numsF, hn]⟩
  | x :: r, i + 1, w, l, h, hl => by
    simp only [List.take_succ_cons, numsF] at hl ⊢
    cases hx : lineNum x with
    | none => rw [hx] at hl; cases hl
    | some k =>
      rw [hx] at hl
      simp only at hl ⊢
      cases hr : numsF (r.take i) with
      | none => rw [hr] at hl; cases hl
      | some l' =>
        rw [hr] at hl
        simp only [Option.some.injEq] at hl
        subst hl
        obtain ⟨h1, h2⟩ := numsF_take r i w l' (by simpa using h) hr
        refine ⟨fun hn => by rw [h1 hn], fun n hn => by rw [h2 n hn]; rfl⟩

theorem numsF_length : ∀ (ws : List (List UInt8)) (l : List Int), numsF ws = some l → l.length = ws.length
  | [], l, h => by simp only [numsF, Option.some.injEq] at h; subst h; rfl
  | x :: r, l, h => by
    simp only [numsF] at h
    cases hx : lineNum x with
    | none => rw [hx] at h; cases h
    | some k =>
      rw [hx] at h
      simp only at h
      cases hr : numsF r with
      | none => rw [hr] at h; cases h
      | some l' =>
        rw [hr] at h
        simp only [Option.some.injEq] at h
        subst h
        simp [numsF_length r l' hr]

def dInt (n : Int) : DV := .int .i64 n
def numsV (o : Option (List Int)) : AV := .tup [.sl 1 ((o.getD []).map dInt) .no, .bool o.isSome]

set_option maxRecDepth 20000 in
theorem f24 (ws : List (List UInt8)) (hl : ws.length ≤ 4294967296) (hw : ∀ w ∈ ws, w.length ≤ 4294967296) : PCall Tryd.prog 24 [.sl 1 (ws.map DV.str) .no] (RV (numsV (numsF ws))) := by
  refine PCall.of_bodyE Tryd.func24 rfl Tryd.ntmps24 (congrArg Array.toList Tryd.results24) ?_
  intro E
  simp only [go_sem]
  refine AW_loopH [2, 3, 4, 6, 7, 8, 11, 12, 13, 14, 15, 16, 17, 18, 19, 20, 21, 22, 23, 24, 25, 26] (fun (x : Nat) ρ m => ρ 11 = .int .i64 (x : Int) ∧ x ≤ ws.length ∧ ∃ l tok nx lv, ρ 4 = .sl 1 (l.map dInt) tok ∧ m = ⟨[], [], nx, lv⟩ ∧ okT m tok ∧ numsF (ws.take x) = some l) (fun x => ws.length - x) 0 ?_ ?_
  · simp only [go_sem]
    exact ⟨Nat.zero_le _, [], .nil, _, _, by simp, rfl, trivial, rfl⟩
  · rintro x ρ m ⟨e11, hx, l, tok, nx, lv, e4, rfl, hok, hnum⟩ Q' hN hR hX
    have hlen := numsF_length _ _ hnum
    rw [List.length_take, Nat.min_eq_left hx] at hlen
    by_cases hlt : x < ws.length
    · have hlt' : ((x : Int) < (ws.length : Int)) = True := by simp; omega
      obtain ⟨w, hw1⟩ : ∃ w, ws[x]? = some w := ⟨_, List.getElem?_eq_getElem hlt⟩
      have hwl := hw w (List.mem_of_getElem? hw1)
      obtain ⟨t1, t2⟩ := numsF_take ws x w l hw1 hnum
      simp (disch := omega) only [go_sem, e11, hlt', hw1, i64_in, hN, hR, hX]
      refine ⟨by omega, callR (f58 w (by omega)) ?_⟩
      rintro m' y nx2 lv2 ⟨v, rfl, hv⟩ g1 g2
      cases hn : lineNum w with
      | none =>
        have := t1 hn
        simp (disch := omega) only [go_sem, e11, e4, hn, Option.isSome_none, i64_in, hN, hR, hX, this, numsV]
      | some n =>
        have h2 := t2 n hn
        obtain rfl := hv n hn
        simp (disch := omega) only [go_sem, e11, e4, hn, Option.isSome_some, i64_in, hN, hR, hX]
        refine ⟨okT_mono hok (fun j x => .inr (g2 _ x)), by omega, by kernel_rfl, x + 1, ?_, by simp only; omega⟩
        simp only [go_sem]
        exact ⟨by simp, by omega, l ++ [v], .own (nx2 + 1), _, _, by simp [dInt], rfl, .inl rfl, h2⟩
    · have hlt' : ((x : Int) < (ws.length : Int)) = False := by simp; omega
      have hte : ws.take x = ws := List.take_of_length_le (by omega)
      rw [hte] at hnum
      simp (disch := omega) only [go_sem, e11, e4, hlt', i64_in, hN, hR, hX, hnum, numsV]
      rfl

/-! The reference's. -/

theorem decFrom_none_of {d : List UInt8} {i : Nat} {c : UInt8} {k : Nat} (hc : d[i]? = some c) (hk : Lib.decFrom 0 (d.take i) = some k) (hb : ¬ (48 ≤ c.toNat ∧ c.toNat ≤ 57)) : Lib.decFrom 0 d = none := by
  have key : ∀ (d : List UInt8) (i acc : Nat), d[i]? = some c → Lib.decFrom acc d = none := by
    intro d
    induction d with
    | nil => intro i acc h; simp at h
    | cons b r ih =>
      intro i acc h
      simp only [Lib.decFrom]
      cases i with
      | zero =>
        simp only [List.getElem?_cons_zero, Option.some.injEq] at h
        subst h
        have : Lib.digitVal b = none := by unfold Lib.digitVal; rw [if_neg hb]
        rw [this]
      | succ i =>
        cases Lib.digitVal b with
        | none => rfl
        | some e => exact ih i _ (by simpa using h)
  exact key d i 0 hc

theorem decFrom_next {d : List UInt8} {i : Nat} {c : UInt8} {k : Nat} (hc : d[i]? = some c) (hk : Lib.decFrom 0 (d.take i) = some k) (hb : 48 ≤ c.toNat ∧ c.toNat ≤ 57) : Lib.decFrom 0 (d.take (i + 1)) = some (k * 10 + (c.toNat - 48)) :=
  Lib.decFrom_take d i 0 k c _ hk hc (by unfold Lib.digitVal; rw [if_pos hb])

theorem u8_in {z : Int} (h1 : 0 ≤ z) (h2 : z ≤ 255) : IntKind.u8.wrap z = z := by
  have : IntKind.u8.wrap z = z % 256 := by simp [IntKind.wrap, IntKind.bits, IntKind.signed]
  rw [this]; omega

def numV (o : Option Int) : AV := .tup [.int .i64 (o.getD 0), .bool o.isSome]

def refD (s : List UInt8) : List UInt8 := if Lib.hasPrefix s [45] then s.drop 1 else s
theorem refNum_eq (k : Nat) (s : List UInt8) : refNum k s = if (refD s).length < 1 ∨ k < (refD s).length then none else
  match Lib.decFrom 0 (refD s) with
  | none => none
  | some n => if ((refD s).head? = some 48 ∧ 1 < (refD s).length) ∨ (n = 0 ∧ s.length ≠ (refD s).length) then none else some (if s.length ≠ (refD s).length then -(n : Int) else n) := rfl

set_option maxHeartbeats 4000000 in
set_option maxRecDepth 20000 in
theorem f62 (s : List UInt8) (hs : s.length ≤ 4294967296) : PCall Tryd.prog 62 [.str s, .int .i64 9] (RV (numV (refNum 9 s))) := by
  refine PCall.of_body Tryd.func62 rfl Tryd.ntmps62 (congrArg Array.toList Tryd.results62) ?_
  intro E
  have hq := refNum_eq 9 s
  simp only [go_sem]
  refine callV (f93 s [45]) ?_
  intro nx lv
  by_cases hp : Lib.hasPrefix s [45] = true
  · have hd : refD s = s.drop 1 := by unfold refD; rw [if_pos hp]
    have ht : (s.drop 1).take (s.length - 1) = s.drop 1 := List.take_of_length_le (by rw [List.length_drop]; omega)
    have hs0 : (1 ≤ s.length) := by
      cases s with
      | nil => exact absurd hp (by decide)
      | cons a r => simp
    have hs1 : (1 ≤ s.length) = True := eq_true hs0
    by_cases q1 : (s.drop 1).length < 1
    · have q1' : ((((s.drop 1).length : Nat) : Int) < 1) = True := eq_true (by omega)
      have r1 : refNum 9 s = none := by rw [hq, hd, if_pos (.inl q1)]
      simp only [go_sem, hp, ht, hs1, q1', r1]
      rfl
    by_cases q2 : 9 < (s.drop 1).length
    · have q1' : ((((s.drop 1).length : Nat) : Int) < 1) = False := eq_false (by omega)
      have q2' : ((9 : Int) < (((s.drop 1).length : Nat) : Int)) = True := eq_true (by omega)
      have r1 : refNum 9 s = none := by rw [hq, hd, if_pos (.inr q2)]
      simp only [go_sem, hp, ht, hs1, q1', q2', r1]
      rfl
    have q1' : ((((s.drop 1).length : Nat) : Int) < 1) = False := eq_false (by omega)
    have q2' : ((9 : Int) < (((s.drop 1).length : Nat) : Int)) = False := eq_false (by omega)
    have hq' : refNum 9 s = match Lib.decFrom 0 (s.drop 1) with
        | none => none
        | some n => if ((s.drop 1).head? = some 48 ∧ 1 < (s.drop 1).length) ∨ (n = 0 ∧ s.length ≠ (s.drop 1).length) then none else some (if s.length ≠ (s.drop 1).length then -(n : Int) else n) := by
      rw [hq, hd, if_neg (by omega)]
    simp only [go_sem, hp, ht, hs1, q1', q2']
    refine AW_loopH [4, 5, 7, 8, 23, 24, 25, 26, 27, 28, 29, 30, 31, 32, 33, 34, 35, 36, 37, 38, 39, 40, 41, 42, 43, 44, 45, 46] (fun (x : Nat) ρ m => ρ 8 = .int .i64 (x : Int) ∧ x ≤ (s.drop 1).length ∧ ∃ k nx lv, ρ 7 = .int .i64 ((k : Nat) : Int) ∧ m = ⟨[], [], nx, lv⟩ ∧ Lib.decFrom 0 ((s.drop 1).take x) = some k) (fun x => (s.drop 1).length - x) 0 ?_ ?_
    · simp only [go_sem]
      exact ⟨Nat.zero_le _, 0, _, _, rfl, rfl, rfl⟩
    · rintro x ρ m ⟨e8, hx, k, nx, lv, e7, rfl, hdec⟩ Q' hN hR hX
      have hk := Lib.decFrom_lt _ _ _ hdec
      have hpw : 10 ^ ((s.drop 1).take x).length ≤ 10 ^ 9 := Nat.pow_le_pow_right (by decide) (by rw [List.length_take]; omega)
      have hk9 : k < 1000000000 := by
        have e9 : (10 : Nat) ^ 9 = 1000000000 := by decide
        omega
      clear hk hpw
      by_cases hlt : x < (s.drop 1).length
      · have hlt' : ((x : Int) < (((s.drop 1).length : Nat) : Int)) = True := eq_true (by omega)
        have h0 : ((0 : Int) ≤ (x : Int)) = True := by simp
        obtain ⟨c, hc⟩ : ∃ c, (s.drop 1)[x]? = some c := ⟨_, List.getElem?_eq_getElem hlt⟩
        have hcn := c.toNat_lt
        by_cases t1 : c.toNat < 48
        · have t1' : (((c.toNat : Nat) : Int) < 48) = True := eq_true (by omega)
          have r1 : refNum 9 s = none := by rw [hq', decFrom_none_of hc hdec (by omega)]
          simp only [go_sem, e8, e7, hlt', h0, hc, t1', r1, hN, hR, hX]
          rfl
        have t1' : (((c.toNat : Nat) : Int) < 48) = False := eq_false (by omega)
        by_cases t2 : 57 < c.toNat
        · have t2' : ((57 : Int) < ((c.toNat : Nat) : Int)) = True := eq_true (by omega)
          have r1 : refNum 9 s = none := by rw [hq', decFrom_none_of hc hdec (by omega)]
          simp only [go_sem, e8, e7, hlt', h0, hc, t1', t2', r1, hN, hR, hX]
          rfl
        have t2' : ((57 : Int) < ((c.toNat : Nat) : Int)) = False := eq_false (by omega)
        have w1 : IntKind.i64.wrap ((x : Int) + 1) = (x : Int) + 1 := i64_in (by omega) (by omega)
        have w2 : IntKind.i64.wrap (10 * (k : Int)) = 10 * (k : Int) := i64_in (by omega) (by omega)
        have w3 : IntKind.u8.wrap (((c.toNat : Nat) : Int) - 48) = ((c.toNat : Nat) : Int) - 48 := u8_in (by omega) (by omega)
        have w4 : IntKind.i64.wrap (((c.toNat : Nat) : Int) - 48) = ((c.toNat : Nat) : Int) - 48 := i64_in (by omega) (by omega)
        have w5 : IntKind.i64.wrap (10 * (k : Int) + (((c.toNat : Nat) : Int) - 48)) = ((k * 10 + (c.toNat - 48) : Nat) : Int) := by rw [i64_in (by omega) (by omega)]; omega
        simp only [go_sem, e8, e7, hlt', h0, hc, t1', t2', w1, w2, w3, w4, w5, hN, hR, hX]
        refine ⟨by kernel_rfl, x + 1, ?_, by simp only; omega⟩
        simp only [go_sem]
        exact ⟨by simp, by omega, _, _, _, rfl, rfl, decFrom_next hc hdec (by omega)⟩
      · have hlt' : ((x : Int) < (((s.drop 1).length : Nat) : Int)) = False := eq_false (by omega)
        have hte : (s.drop 1).take x = s.drop 1 := List.take_of_length_le (by omega)
        rw [hte] at hdec
        rw [hdec] at hq'
        simp only at hq'
        obtain ⟨c0, hc0⟩ : ∃ c, (s.drop 1)[0]? = some c := ⟨_, List.getElem?_eq_getElem (by omega)⟩
        have hhd : (s.drop 1).head? = some c0 := by rw [List.head?_eq_getElem?]; exact hc0
        rw [hhd] at hq'
        simp only [Option.some.injEq] at hq'
        have w6 : IntKind.i64.wrap (0 - (k : Int)) = -(k : Int) := by rw [i64_in (by omega) (by omega)]; omega
        have h0 : ((0 : Int) ≤ 0) = True := by simp
        have e4 : (((s.length : Nat) : Int) = (((s.drop 1).length : Nat) : Int)) = False := eq_false (by rw [List.length_drop]; omega)
        have a4 : (s.length = (s.drop 1).length) = False := eq_false (by rw [List.length_drop]; omega)
        simp only [ne_eq, a4, not_false_eq_true, not_true_eq_false, and_true, and_false, or_false, if_true, if_false] at hq'
        by_cases a1 : c0 = 48
        · have e1 : (((c0.toNat : Nat) : Int) = 48) = True := eq_true (by rw [a1]; rfl)
          by_cases a2 : 1 < (s.drop 1).length
          · have e2 : ((1 : Int) < (((s.drop 1).length : Nat) : Int)) = True := eq_true (by omega)
            have r1 : refNum 9 s = none := by rw [hq', if_pos (by first | exact Or.inl ⟨a1, a2⟩ | exact ⟨a1, a2⟩)]
            simp only [go_sem, e8, e7, hlt', h0, hc0, e1, e2, r1, hN, hR, hX]
            rfl
          · have e2 : ((1 : Int) < (((s.drop 1).length : Nat) : Int)) = False := eq_false (by omega)
            by_cases a3 : k = 0
            · have e3 : (((k : Nat) : Int) = 0) = True := eq_true (by omega)
              have r1 : refNum 9 s = none := by rw [hq', if_pos (.inr a3)]
              simp only [go_sem, e8, e7, hlt', h0, hc0, e1, e2, e3, e4, r1, hN, hR, hX]
              rfl
            · have e3 : (((k : Nat) : Int) = 0) = False := eq_false (by omega)
              have r1 : refNum 9 s = some (-(k : Int)) := by rw [hq']; rw [if_neg (by rintro (h | h); exact a2 h.2; exact a3 h)]
              simp only [go_sem, e8, e7, hlt', h0, hc0, e1, e2, e3, e4, w6, r1, hN, hR, hX]
              rfl
        · have e1 : (((c0.toNat : Nat) : Int) = 48) = False := eq_false (fun h => a1 (UInt8.toNat_inj.1 (by rw [show (48 : UInt8).toNat = 48 from rfl]; omega)))
          have e2 : (0 : Int) = 0 := rfl
          by_cases a3 : k = 0
          · have e3 : (((k : Nat) : Int) = 0) = True := eq_true (by omega)
            have r1 : refNum 9 s = none := by rw [hq', if_pos (.inr a3)]
            simp only [go_sem, e8, e7, hlt', h0, hc0, e1, e2, e3, e4, r1, hN, hR, hX]
            rfl
          · have e3 : (((k : Nat) : Int) = 0) = False := eq_false (by omega)
            have r1 : refNum 9 s = some (-(k : Int)) := by rw [hq']; rw [if_neg (by rintro (h | h); exact a1 h.1; exact a3 h)]
            simp only [go_sem, e8, e7, hlt', h0, hc0, e1, e2, e3, e4, w6, r1, hN, hR, hX]
            rfl

  · have hd : refD s = s := by unfold refD; rw [if_neg hp]
    have hp : Lib.hasPrefix s [45] = false := by simpa using hp
    by_cases q1 : (s).length < 1
    · have q1' : ((((s).length : Nat) : Int) < 1) = True := eq_true (by omega)
      have r1 : refNum 9 s = none := by rw [hq, hd, if_pos (.inl q1)]
      simp only [go_sem, hp, q1', r1]
      rfl
    by_cases q2 : 9 < (s).length
    · have q1' : ((((s).length : Nat) : Int) < 1) = False := eq_false (by omega)
      have q2' : ((9 : Int) < (((s).length : Nat) : Int)) = True := eq_true (by omega)
      have r1 : refNum 9 s = none := by rw [hq, hd, if_pos (.inr q2)]
      simp only [go_sem, hp, q1', q2', r1]
      rfl
    have q1' : ((((s).length : Nat) : Int) < 1) = False := eq_false (by omega)
    have q2' : ((9 : Int) < (((s).length : Nat) : Int)) = False := eq_false (by omega)
    have hq' : refNum 9 s = match Lib.decFrom 0 (s) with
        | none => none
        | some n => if ((s).head? = some 48 ∧ 1 < (s).length) ∨ (n = 0 ∧ s.length ≠ (s).length) then none else some (if s.length ≠ (s).length then -(n : Int) else n) := by
      rw [hq, hd, if_neg (by omega)]
    simp only [go_sem, hp, q1', q2']
    refine AW_loopH [4, 5, 7, 8, 23, 24, 25, 26, 27, 28, 29, 30, 31, 32, 33, 34, 35, 36, 37, 38, 39, 40, 41, 42, 43, 44, 45, 46] (fun (x : Nat) ρ m => ρ 8 = .int .i64 (x : Int) ∧ x ≤ (s).length ∧ ∃ k nx lv, ρ 7 = .int .i64 ((k : Nat) : Int) ∧ m = ⟨[], [], nx, lv⟩ ∧ Lib.decFrom 0 ((s).take x) = some k) (fun x => (s).length - x) 0 ?_ ?_
    · simp only [go_sem]
      exact ⟨Nat.zero_le _, 0, _, _, rfl, rfl, rfl⟩
    · rintro x ρ m ⟨e8, hx, k, nx, lv, e7, rfl, hdec⟩ Q' hN hR hX
      have hk := Lib.decFrom_lt _ _ _ hdec
      have hpw : 10 ^ ((s).take x).length ≤ 10 ^ 9 := Nat.pow_le_pow_right (by decide) (by rw [List.length_take]; omega)
      have hk9 : k < 1000000000 := by
        have e9 : (10 : Nat) ^ 9 = 1000000000 := by decide
        omega
      clear hk hpw
      by_cases hlt : x < (s).length
      · have hlt' : ((x : Int) < (((s).length : Nat) : Int)) = True := eq_true (by omega)
        have h0 : ((0 : Int) ≤ (x : Int)) = True := by simp
        obtain ⟨c, hc⟩ : ∃ c, (s)[x]? = some c := ⟨_, List.getElem?_eq_getElem hlt⟩
        have hcn := c.toNat_lt
        by_cases t1 : c.toNat < 48
        · have t1' : (((c.toNat : Nat) : Int) < 48) = True := eq_true (by omega)
          have r1 : refNum 9 s = none := by rw [hq', decFrom_none_of hc hdec (by omega)]
          simp only [go_sem, e8, e7, hlt', h0, hc, t1', r1, hN, hR, hX]
          rfl
        have t1' : (((c.toNat : Nat) : Int) < 48) = False := eq_false (by omega)
        by_cases t2 : 57 < c.toNat
        · have t2' : ((57 : Int) < ((c.toNat : Nat) : Int)) = True := eq_true (by omega)
          have r1 : refNum 9 s = none := by rw [hq', decFrom_none_of hc hdec (by omega)]
          simp only [go_sem, e8, e7, hlt', h0, hc, t1', t2', r1, hN, hR, hX]
          rfl
        have t2' : ((57 : Int) < ((c.toNat : Nat) : Int)) = False := eq_false (by omega)
        have w1 : IntKind.i64.wrap ((x : Int) + 1) = (x : Int) + 1 := i64_in (by omega) (by omega)
        have w2 : IntKind.i64.wrap (10 * (k : Int)) = 10 * (k : Int) := i64_in (by omega) (by omega)
        have w3 : IntKind.u8.wrap (((c.toNat : Nat) : Int) - 48) = ((c.toNat : Nat) : Int) - 48 := u8_in (by omega) (by omega)
        have w4 : IntKind.i64.wrap (((c.toNat : Nat) : Int) - 48) = ((c.toNat : Nat) : Int) - 48 := i64_in (by omega) (by omega)
        have w5 : IntKind.i64.wrap (10 * (k : Int) + (((c.toNat : Nat) : Int) - 48)) = ((k * 10 + (c.toNat - 48) : Nat) : Int) := by rw [i64_in (by omega) (by omega)]; omega
        simp only [go_sem, e8, e7, hlt', h0, hc, t1', t2', w1, w2, w3, w4, w5, hN, hR, hX]
        refine ⟨by kernel_rfl, x + 1, ?_, by simp only; omega⟩
        simp only [go_sem]
        exact ⟨by simp, by omega, _, _, _, rfl, rfl, decFrom_next hc hdec (by omega)⟩
      · have hlt' : ((x : Int) < (((s).length : Nat) : Int)) = False := eq_false (by omega)
        have hte : (s).take x = s := List.take_of_length_le (by omega)
        rw [hte] at hdec
        rw [hdec] at hq'
        simp only at hq'
        obtain ⟨c0, hc0⟩ : ∃ c, (s)[0]? = some c := ⟨_, List.getElem?_eq_getElem (by omega)⟩
        have hhd : (s).head? = some c0 := by rw [List.head?_eq_getElem?]; exact hc0
        rw [hhd] at hq'
        simp only [Option.some.injEq] at hq'
        have w6 : IntKind.i64.wrap (0 - (k : Int)) = -(k : Int) := by rw [i64_in (by omega) (by omega)]; omega
        have h0 : ((0 : Int) ≤ 0) = True := by simp
        have e4 : (((s.length : Nat) : Int) = (((s).length : Nat) : Int)) = True := eq_true rfl
        have a4 : (s.length = (s).length) = True := eq_true rfl
        simp only [ne_eq, a4, not_false_eq_true, not_true_eq_false, and_true, and_false, or_false, if_true, if_false] at hq'
        by_cases a1 : c0 = 48
        · have e1 : (((c0.toNat : Nat) : Int) = 48) = True := eq_true (by rw [a1]; rfl)
          by_cases a2 : 1 < (s).length
          · have e2 : ((1 : Int) < (((s).length : Nat) : Int)) = True := eq_true (by omega)
            have r1 : refNum 9 s = none := by rw [hq', if_pos (by first | exact Or.inl ⟨a1, a2⟩ | exact ⟨a1, a2⟩)]
            simp only [go_sem, e8, e7, hlt', h0, hc0, e1, e2, r1, hN, hR, hX]
            rfl
          · have e2 : ((1 : Int) < (((s).length : Nat) : Int)) = False := eq_false (by omega)
            have r1 : refNum 9 s = some (k : Int) := by rw [hq']; rw [if_neg (fun h => a2 h.2)]
            by_cases a3 : k = 0
            · have e3 : (((k : Nat) : Int) = 0) = True := eq_true (by omega)
              simp only [go_sem, e8, e7, hlt', h0, hc0, e1, e2, e3, e4, r1, hN, hR, hX]
              rfl
            · have e3 : (((k : Nat) : Int) = 0) = False := eq_false (by omega)
              simp only [go_sem, e8, e7, hlt', h0, hc0, e1, e2, e3, e4, r1, hN, hR, hX]
              rfl
        · have e1 : (((c0.toNat : Nat) : Int) = 48) = False := eq_false (fun h => a1 (UInt8.toNat_inj.1 (by rw [show (48 : UInt8).toNat = 48 from rfl]; omega)))
          have e2 : (0 : Int) = 0 := rfl
          have r1 : refNum 9 s = some (k : Int) := by rw [hq']; rw [if_neg (fun h => a1 h.1)]
          by_cases a3 : k = 0
          · have e3 : (((k : Nat) : Int) = 0) = True := eq_true (by omega)
            simp only [go_sem, e8, e7, hlt', h0, hc0, e1, e2, e3, e4, r1, hN, hR, hX]
            rfl
          · have e3 : (((k : Nat) : Int) = 0) = False := eq_false (by omega)
            simp only [go_sem, e8, e7, hlt', h0, hc0, e1, e2, e3, e4, r1, hN, hR, hX]
            rfl

set_option maxRecDepth 20000 in
theorem f27 (ws : List (List UInt8)) (hl : ws.length ≤ 4294967296) (hw : ∀ w ∈ ws, w.length ≤ 4294967296) : PCall Tryd.prog 27 [.sl 1 (ws.map DV.str) .no, .int .i64 9] (RV (numsV (numsF ws))) := by
  refine PCall.of_bodyE Tryd.func27 rfl Tryd.ntmps27 (congrArg Array.toList Tryd.results27) ?_
  intro E
  simp only [go_sem]
  refine AW_loopH [4, 5, 6, 8, 9, 10, 13, 14, 15, 16, 17, 18, 19, 20, 21, 22, 23, 24, 25, 26, 27, 28, 29] (fun (x : Nat) ρ m => ρ 13 = .int .i64 (x : Int) ∧ x ≤ ws.length ∧ ∃ l tok nx lv, ρ 6 = .sl 1 (l.map dInt) tok ∧ m = ⟨[], [], nx, lv⟩ ∧ okT m tok ∧ numsF (ws.take x) = some l) (fun x => ws.length - x) 0 ?_ ?_
  · simp only [go_sem]
    exact ⟨Nat.zero_le _, [], .nil, _, _, by simp, rfl, trivial, rfl⟩
  · rintro x ρ m ⟨e11, hx, l, tok, nx, lv, e4, rfl, hok, hnum⟩ Q' hN hR hX
    have hlen := numsF_length _ _ hnum
    rw [List.length_take, Nat.min_eq_left hx] at hlen
    by_cases hlt : x < ws.length
    · have hlt' : ((x : Int) < (ws.length : Int)) = True := by simp; omega
      obtain ⟨w, hw1⟩ : ∃ w, ws[x]? = some w := ⟨_, List.getElem?_eq_getElem hlt⟩
      have hwl := hw w (List.mem_of_getElem? hw1)
      obtain ⟨t1, t2⟩ := numsF_take ws x w l hw1 hnum
      simp (disch := omega) only [go_sem, e11, hlt', hw1, i64_in, hN, hR, hX]
      refine ⟨by omega, callVt (f62 w (by omega)) ?_⟩
      intro nx2 lv2 g1 g2
      rw [← lineNum_eq]
      cases hn : lineNum w with
      | none =>
        have := t1 hn
        simp (disch := omega) only [go_sem, numV, e11, e4, hn, Option.isSome_none, i64_in, hN, hR, hX, this, numsV]
      | some n =>
        have h2 := t2 n hn
        simp (disch := omega) only [go_sem, numV, Option.getD_some, e11, e4, hn, Option.isSome_some, i64_in, hN, hR, hX]
        refine ⟨okT_mono hok (fun j x => .inr (g2 _ x)), by omega, by kernel_rfl, x + 1, ?_, by simp only; omega⟩
        simp only [go_sem]
        exact ⟨by simp, by omega, l ++ [n], .own (nx2 + 1), _, _, by simp [dInt], rfl, .inl rfl, h2⟩
    · have hlt' : ((x : Int) < (ws.length : Int)) = False := by simp; omega
      have hte : ws.take x = ws := List.take_of_length_le (by omega)
      rw [hte] at hnum
      simp (disch := omega) only [go_sem, e11, e4, hlt', i64_in, hN, hR, hX, hnum, numsV]
      rfl

end Go.Proofs.YtkfhieigdlfbeaaDoor
