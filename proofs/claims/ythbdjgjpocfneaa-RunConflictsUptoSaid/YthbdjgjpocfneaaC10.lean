/- Contracts of Conflicts and of the reference, for lists of up to 2 to the 20th holds. -/
import Derived.Test.YthbdjgjpocfneaaC1
namespace Go.Proofs.Ythbdjgjpocfneaa
open Go.AB

structure Hold where
  need : Need
  (start fin : Int)
def dHold (h : Hold) : DV := .agg [.int .i64 h.need.kind, .int .i64 h.need.place, .int .i64 h.need.position, .int .i64 h.need.spot, .int .i64 h.start, .int .i64 h.fin]
/-- Two holds that conflict. -/
def conf (x y : Hold) : Bool := meets x.need y.need && (decide (x.start < y.fin) && decide (y.start < x.fin))
def rowP (i : Nat) (x : Hold) : List Hold → Nat → List (Int × Int)
  | [], _ => []
  | y :: r, k => if conf x y = true then ((i : Int), (k : Int)) :: rowP i x r (k + 1) else rowP i x r (k + 1)
def allP (b : List Hold) : List Hold → Nat → List (Int × Int)
  | [], _ => []
  | x :: r, i => rowP i x b 0 ++ allP b r (i + 1)
theorem rowP_len (i : Nat) (x : Hold) : ∀ (b : List Hold) (k : Nat), (rowP i x b k).length ≤ b.length
  | [], _ => by simp [rowP]
  | y :: r, k => by
    have := rowP_len i x r (k + 1)
    unfold rowP
    split <;> simp <;> omega
theorem allP_len (b : List Hold) : ∀ (a : List Hold) (i : Nat), (allP b a i).length ≤ a.length * b.length
  | [], _ => by simp [allP]
  | x :: r, i => by
    have h1 := rowP_len i x b 0
    have h2 := allP_len b r (i + 1)
    simp only [allP, List.length_append, List.length_cons, Nat.add_mul, Nat.one_mul]
    omega
def dPair (p : Int × Int) : DV := .agg [.int .i64 p.1, .int .i64 p.2]

theorem drop_cons {α : Type} {l : List α} {x : Nat} {c : α} (h : l[x]? = some c) : l.drop x = c :: l.drop (x + 1) := by
  have hlt := (List.getElem?_eq_some_iff.1 h).1
  rw [List.drop_eq_getElem_cons hlt]
  congr 1
  rw [List.getElem?_eq_getElem hlt] at h
  exact Option.some.inj h

set_option maxHeartbeats 8000000 in
set_option maxRecDepth 20000 in
theorem f39 (a b : List Hold) (ha : a.length ≤ 1048576) (hb : b.length ≤ 1048576) : PCall Try.prog 39 [.sl 6 (a.map dHold) .no, .sl 6 (b.map dHold) .no] (RV (.sl 2 ((allP b a 0).map dPair) .no)) := by
  refine PCall.of_bodyE Try.func39 rfl Try.ntmps39 (congrArg Array.toList Try.results39) ?_
  intro E
  simp only [go_sem]
  have hall := allP_len b a 0
  have hmul : a.length * b.length ≤ 1048576 * 1048576 := Nat.mul_le_mul ha hb
  refine AW_loopS [5, 6, 7, 8, 9, 12, 13, 14, 15, 16, 17, 18, 19, 20, 21, 22, 23, 24, 25, 26, 27, 28, 29, 30, 31, 32, 33, 34, 35, 36, 37, 38, 39, 40, 41, 42, 43, 44, 45, 46, 47, 48, 49, 50]
    (fun (x : Nat × List (Int × Int)) ρ m => ρ 12 = .int .i64 (x.1 : Int) ∧ (∃ tok, ρ 5 = .sl 2 (x.2.map dPair) tok ∧ okT m tok) ∧
      (∃ h nx lv, m = ⟨h, [], nx, lv⟩) ∧ x.1 ≤ a.length ∧ x.2 ++ allP b (a.drop x.1) x.1 = allP b a 0) (fun x => a.length - x.1) (0, []) ?_ ?_
  · simp only [go_sem]
    exact ⟨⟨_, _, _, rfl⟩, Nat.zero_le _⟩
  · rintro ⟨x, ps⟩ ρ m ⟨e12, ⟨tok, e5, hok⟩, ⟨h, nx, lv, rfl⟩, hx, hps⟩
    dsimp only at e12 e5 hx hps
    by_cases hlt : x < a.length
    · have hlt' : ((x : Int) < (a.length : Int)) = True := by simp; omega
      obtain ⟨c, hc⟩ : ∃ c, a[x]? = some c := ⟨_, List.getElem?_eq_getElem hlt⟩
      rw [drop_cons hc, allP] at hps
      simp (disch := omega) only [go_sem, e12, e5, hlt', hc, i64_in, dHold]
      refine ⟨by omega, ?_⟩
      generalize genO (hget h 7) = G
      refine AW_loopS [5, 8, 9, 19, 20, 21, 22, 23, 24, 25, 26, 27, 28, 29, 30, 31, 32, 33, 34, 35, 36, 37, 38, 39, 40, 41, 42, 43, 44, 45, 46, 47, 48, 49]
        (fun (y : Nat × List (Int × Int)) ρ m => ρ 19 = .int .i64 (y.1 : Int) ∧ (∃ tok, ρ 5 = .sl 2 (y.2.map dPair) tok ∧ okT m tok) ∧
          (∃ h nx lv, m = ⟨h, [], nx, lv⟩ ∧ hget h 7 = some (G, [.int .i64 c.need.kind, .int .i64 c.need.place, .int .i64 c.need.position, .int .i64 c.need.spot, .int .i64 c.start, .int .i64 c.fin])) ∧
          y.1 ≤ b.length ∧ y.2 ++ (rowP x c (b.drop y.1) y.1 ++ allP b (a.drop (x + 1)) (x + 1)) = allP b a 0) (fun y => b.length - y.1) (0, ps) ?_ ?_
      · simp only [go_sem]
        exact ⟨okT_mono hok fun _ h => h, ⟨_, _, _, rfl, by simp only [go_sem]⟩, Nat.zero_le _, hps⟩
      rintro ⟨y, qs⟩ ρ2 m2 ⟨f19, ⟨tok2, f5, hok2⟩, ⟨h2, nx2, lv2, rfl, hh7⟩, hy, hqs⟩
      dsimp only at f19 f5 hy hqs
      by_cases hylt : y < b.length
      · have hylt' : ((y : Int) < (b.length : Int)) = True := by simp; omega
        obtain ⟨d, hd⟩ : ∃ c, b[y]? = some c := ⟨_, List.getElem?_eq_getElem hylt⟩
        rw [drop_cons hd, rowP] at hqs
        simp (disch := omega) only [go_sem, f19, f5, hylt', hd, i64_in, dHold, hh7]
        refine ⟨by omega, callVt (f17 c.need d.need) ?_⟩
        intro nx3 lv3 _ hlv3
        simp (disch := omega) only [go_sem, i64_in, hh7]
        refine ⟨fun k1 => ⟨fun k2 => ⟨fun k3 => ?_, fun k3 => ?_⟩, fun k2 => ?_⟩, fun k1 => ?_⟩
        · rw [if_pos (by simp [conf, k1, k2, k3])] at hqs
          have hlen := congrArg List.length hqs
          simp only [List.length_append, List.length_cons] at hlen
          refine ⟨okT_mono hok2 fun j hj => .inr (hlv3 j hj), by omega, by kernel_rfl, (y + 1, qs ++ [((x : Int), (y : Int))]), ?_, by simp only; omega⟩
          simp only [go_sem]
          exact ⟨by simp, ⟨_, ⟨by simp [dPair], rfl⟩, Or.inl rfl⟩, ⟨_, _, _, rfl, by simp only [go_sem, hh7]⟩, by omega, by rw [← hqs]; simp⟩
        · rw [if_neg (by simp [conf, k1, k2, k3])] at hqs
          refine ⟨by kernel_rfl, (y + 1, qs), ?_, by simp only; omega⟩
          simp only [go_sem]
          exact ⟨by simp, okT_mono hok2 fun j hj => hlv3 j hj, ⟨_, _, _, rfl, by simp only [go_sem, hh7]⟩, by omega, hqs⟩
        · rw [if_neg (by simp [conf, k1, k2])] at hqs
          refine ⟨by kernel_rfl, (y + 1, qs), ?_, by simp only; omega⟩
          simp only [go_sem]
          exact ⟨by simp, okT_mono hok2 fun j hj => hlv3 j hj, ⟨_, _, _, rfl, by simp only [go_sem, hh7]⟩, by omega, hqs⟩
        · rw [if_neg (by simp [conf, k1])] at hqs
          refine ⟨by kernel_rfl, (y + 1, qs), ?_, by simp only; omega⟩
          simp only [go_sem]
          exact ⟨by simp, okT_mono hok2 fun j hj => hlv3 j hj, ⟨_, _, _, rfl, by simp only [go_sem, hh7]⟩, by omega, hqs⟩
      · have hylt' : ((y : Int) < (b.length : Int)) = False := by simp; omega
        rw [List.drop_eq_nil_of_le (by omega), rowP, List.nil_append] at hqs
        simp (disch := omega) only [go_sem, f19, f5, hylt', i64_in]
        refine ⟨by kernel_rfl, (x + 1, qs), ?_, by simp only; omega⟩
        simp only [go_sem]
        exact ⟨by simp, okT_mono hok2 fun _ h => h, ⟨_, _, _, rfl⟩, by omega, hqs⟩
    · have hlt' : ((x : Int) < (a.length : Int)) = False := by simp; omega
      rw [List.drop_eq_nil_of_le (by omega), allP, List.append_nil] at hps
      simp (disch := omega) only [go_sem, e12, e5, hlt', i64_in]
      rw [hps]

set_option maxHeartbeats 8000000 in
set_option maxRecDepth 20000 in
theorem f40 (a b : List Hold) (ha : a.length ≤ 1048576) (hb : b.length ≤ 1048576) : PCall Try.prog 40 [.sl 6 (a.map dHold) .no, .sl 6 (b.map dHold) .no] (RV (.sl 2 ((allP b a 0).map dPair) .no)) := by
  refine PCall.of_bodyE Try.func40 rfl Try.ntmps40 (congrArg Array.toList Try.results40) ?_
  intro E
  simp only [go_sem]
  have hall := allP_len b a 0
  have hmul : a.length * b.length ≤ 1048576 * 1048576 := Nat.mul_le_mul ha hb
  refine AW_loopS [5, 6, 7, 8, 9, 12, 13, 14, 15, 16, 17, 18, 19, 20, 21, 22, 23, 24, 25, 26, 27, 28, 29, 30, 31, 32, 33, 34, 35, 36, 37, 38, 39, 40, 41, 42, 43, 44, 45, 46, 47, 48, 49, 50]
    (fun (x : Nat × List (Int × Int)) ρ m => ρ 12 = .int .i64 (x.1 : Int) ∧ (∃ tok, ρ 5 = .sl 2 (x.2.map dPair) tok ∧ okT m tok) ∧
      (∃ h nx lv, m = ⟨h, [], nx, lv⟩) ∧ x.1 ≤ a.length ∧ x.2 ++ allP b (a.drop x.1) x.1 = allP b a 0) (fun x => a.length - x.1) (0, []) ?_ ?_
  · simp only [go_sem]
    exact ⟨⟨_, _, _, rfl⟩, Nat.zero_le _⟩
  · rintro ⟨x, ps⟩ ρ m ⟨e12, ⟨tok, e5, hok⟩, ⟨h, nx, lv, rfl⟩, hx, hps⟩
    dsimp only at e12 e5 hx hps
    by_cases hlt : x < a.length
    · have hlt' : ((x : Int) < (a.length : Int)) = True := by simp; omega
      obtain ⟨c, hc⟩ : ∃ c, a[x]? = some c := ⟨_, List.getElem?_eq_getElem hlt⟩
      rw [drop_cons hc, allP] at hps
      simp (disch := omega) only [go_sem, e12, e5, hlt', hc, i64_in, dHold]
      refine ⟨by omega, ?_⟩
      generalize genO (hget h 7) = G
      refine AW_loopS [5, 8, 9, 19, 20, 21, 22, 23, 24, 25, 26, 27, 28, 29, 30, 31, 32, 33, 34, 35, 36, 37, 38, 39, 40, 41, 42, 43, 44, 45, 46, 47, 48, 49]
        (fun (y : Nat × List (Int × Int)) ρ m => ρ 19 = .int .i64 (y.1 : Int) ∧ (∃ tok, ρ 5 = .sl 2 (y.2.map dPair) tok ∧ okT m tok) ∧
          (∃ h nx lv, m = ⟨h, [], nx, lv⟩ ∧ hget h 7 = some (G, [.int .i64 c.need.kind, .int .i64 c.need.place, .int .i64 c.need.position, .int .i64 c.need.spot, .int .i64 c.start, .int .i64 c.fin])) ∧
          y.1 ≤ b.length ∧ y.2 ++ (rowP x c (b.drop y.1) y.1 ++ allP b (a.drop (x + 1)) (x + 1)) = allP b a 0) (fun y => b.length - y.1) (0, ps) ?_ ?_
      · simp only [go_sem]
        exact ⟨okT_mono hok fun _ h => h, ⟨_, _, _, rfl, by simp only [go_sem]⟩, Nat.zero_le _, hps⟩
      rintro ⟨y, qs⟩ ρ2 m2 ⟨f19, ⟨tok2, f5, hok2⟩, ⟨h2, nx2, lv2, rfl, hh7⟩, hy, hqs⟩
      dsimp only at f19 f5 hy hqs
      by_cases hylt : y < b.length
      · have hylt' : ((y : Int) < (b.length : Int)) = True := by simp; omega
        obtain ⟨d, hd⟩ : ∃ c, b[y]? = some c := ⟨_, List.getElem?_eq_getElem hylt⟩
        rw [drop_cons hd, rowP] at hqs
        simp (disch := omega) only [go_sem, f19, f5, hylt', hd, i64_in, dHold, hh7]
        refine ⟨by omega, callVt (f18 c.need d.need) ?_⟩
        intro nx3 lv3 _ hlv3
        simp (disch := omega) only [go_sem, i64_in, hh7]
        refine ⟨fun k1 => ⟨fun k2 => ⟨fun k3 => ?_, fun k3 => ?_⟩, fun k2 => ?_⟩, fun k1 => ?_⟩
        · rw [if_pos (by simp [conf, k1, k2, k3])] at hqs
          have hlen := congrArg List.length hqs
          simp only [List.length_append, List.length_cons] at hlen
          refine ⟨okT_mono hok2 fun j hj => .inr (hlv3 j hj), by omega, by kernel_rfl, (y + 1, qs ++ [((x : Int), (y : Int))]), ?_, by simp only; omega⟩
          simp only [go_sem]
          exact ⟨by simp, ⟨_, ⟨by simp [dPair], rfl⟩, Or.inl rfl⟩, ⟨_, _, _, rfl, by simp only [go_sem, hh7]⟩, by omega, by rw [← hqs]; simp⟩
        · rw [if_neg (by simp [conf, k1, k2, k3])] at hqs
          refine ⟨by kernel_rfl, (y + 1, qs), ?_, by simp only; omega⟩
          simp only [go_sem]
          exact ⟨by simp, okT_mono hok2 fun j hj => hlv3 j hj, ⟨_, _, _, rfl, by simp only [go_sem, hh7]⟩, by omega, hqs⟩
        · rw [if_neg (by simp [conf, k1, k2])] at hqs
          refine ⟨by kernel_rfl, (y + 1, qs), ?_, by simp only; omega⟩
          simp only [go_sem]
          exact ⟨by simp, okT_mono hok2 fun j hj => hlv3 j hj, ⟨_, _, _, rfl, by simp only [go_sem, hh7]⟩, by omega, hqs⟩
        · rw [if_neg (by simp [conf, k1])] at hqs
          refine ⟨by kernel_rfl, (y + 1, qs), ?_, by simp only; omega⟩
          simp only [go_sem]
          exact ⟨by simp, okT_mono hok2 fun j hj => hlv3 j hj, ⟨_, _, _, rfl, by simp only [go_sem, hh7]⟩, by omega, hqs⟩
      · have hylt' : ((y : Int) < (b.length : Int)) = False := by simp; omega
        rw [List.drop_eq_nil_of_le (by omega), rowP, List.nil_append] at hqs
        simp (disch := omega) only [go_sem, f19, f5, hylt', i64_in]
        refine ⟨by kernel_rfl, (x + 1, qs), ?_, by simp only; omega⟩
        simp only [go_sem]
        exact ⟨by simp, okT_mono hok2 fun _ h => h, ⟨_, _, _, rfl⟩, by omega, hqs⟩
    · have hlt' : ((x : Int) < (a.length : Int)) = False := by simp; omega
      rw [List.drop_eq_nil_of_le (by omega), allP, List.append_nil] at hps
      simp (disch := omega) only [go_sem, e12, e5, hlt', i64_in]
      rw [hps]
end Go.Proofs.Ythbdjgjpocfneaa
