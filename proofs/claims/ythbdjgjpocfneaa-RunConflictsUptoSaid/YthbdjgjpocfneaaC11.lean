/- Contracts of Headway and of the reference, for holds with numbers from -2 to the 40th to 2 to the 40th. -/
import Derived.Test.YthbdjgjpocfneaaC10
namespace Go.Proofs.Ythbdjgjpocfneaa
open Go.AB

def inB (h : Hold) : Bool := decide (-1099511627776 ≤ h.start) && decide (h.start ≤ 1099511627776) && (decide (-1099511627776 ≤ h.fin) && decide (h.fin ≤ 1099511627776))
def hwRow (x : Hold) : List Hold → Int → Int
  | [], m => m
  | y :: r, m => hwRow x r (if meets x.need y.need = true then max m (x.fin - y.start) else m)
def hwAll (b : List Hold) : List Hold → Int → Int
  | [], m => m
  | x :: r, m => hwAll b r (hwRow x b m)
theorem inB_all {l : List Hold} {i : Nat} {h : Hold} (ha : l.all inB = true) (hi : l[i]? = some h) : (-1099511627776 ≤ h.start ∧ h.start ≤ 1099511627776) ∧ (-1099511627776 ≤ h.fin ∧ h.fin ≤ 1099511627776) := by
  have := List.all_eq_true.1 ha h (List.mem_of_getElem? hi)
  simpa [inB] using this

set_option maxHeartbeats 8000000 in
set_option maxRecDepth 20000 in
theorem f41 (a b : List Hold) (ha : a.length ≤ 1048576) (hb : b.length ≤ 1048576) (hia : a.all inB = true) (hib : b.all inB = true) : PCall Try.prog 41 [.sl 6 (a.map dHold) .no, .sl 6 (b.map dHold) .no] (RV (.int .i64 (hwAll b a 0))) := by
  refine PCall.of_body Try.func41 rfl Try.ntmps41 (congrArg Array.toList Try.results41) ?_
  intro E
  simp only [go_sem]
  refine AW_loopS [5, 6, 7, 8, 9, 12, 13, 14, 15, 16, 17, 18, 19, 20, 21, 22, 23, 24, 25, 26, 27, 28, 29, 30, 31, 32, 33, 34, 35]
    (fun (x : Nat × Int) ρ m => ρ 12 = .int .i64 (x.1 : Int) ∧ ρ 5 = .int .i64 x.2 ∧ (∃ h nx lv, m = ⟨h, [], nx, lv⟩) ∧ x.1 ≤ a.length ∧ (0 ≤ x.2 ∧ x.2 ≤ 2199023255552) ∧ hwAll b (a.drop x.1) x.2 = hwAll b a 0) (fun x => a.length - x.1) (0, 0) ?_ ?_
  · simp only [go_sem]
    exact ⟨⟨_, _, _, rfl⟩, Nat.zero_le _⟩
  · rintro ⟨x, mo⟩ ρ m ⟨e12, e5, ⟨h, nx, lv, rfl⟩, hx, hmo, hps⟩
    dsimp only at e12 e5 hx hps hmo
    by_cases hlt : x < a.length
    · have hlt' : ((x : Int) < (a.length : Int)) = True := by simp; omega
      obtain ⟨c, hc⟩ : ∃ c, a[x]? = some c := ⟨_, List.getElem?_eq_getElem hlt⟩
      have hcb := inB_all hia hc
      rw [drop_cons hc, hwAll] at hps
      simp (disch := omega) only [go_sem, e12, e5, hlt', hc, i64_in, dHold]
      refine ⟨by omega, ?_⟩
      generalize genO (hget h 7) = G
      refine AW_loopS [5, 8, 9, 18, 19, 20, 21, 22, 23, 24, 25, 26, 27, 28, 29, 30, 31, 32, 33, 34]
        (fun (y : Nat × Int) ρ m => ρ 18 = .int .i64 (y.1 : Int) ∧ ρ 5 = .int .i64 y.2 ∧
          (∃ h nx lv, m = ⟨h, [], nx, lv⟩ ∧ hget h 7 = some (G, [.int .i64 c.need.kind, .int .i64 c.need.place, .int .i64 c.need.position, .int .i64 c.need.spot, .int .i64 c.start, .int .i64 c.fin])) ∧
          y.1 ≤ b.length ∧ (0 ≤ y.2 ∧ y.2 ≤ 2199023255552) ∧ hwRow c (b.drop y.1) y.2 = hwRow c b mo) (fun y => b.length - y.1) (0, mo) ?_ ?_
      · simp only [go_sem]
        exact ⟨⟨_, _, _, rfl, by simp only [go_sem]⟩, Nat.zero_le _, hmo⟩
      rintro ⟨y, mq⟩ ρ2 m2 ⟨f19, f5, ⟨h2, nx2, lv2, rfl, hh7⟩, hy, hmq, hqs⟩
      dsimp only at f19 f5 hy hqs hmq
      by_cases hylt : y < b.length
      · have hylt' : ((y : Int) < (b.length : Int)) = True := by simp; omega
        obtain ⟨d, hd⟩ : ∃ c, b[y]? = some c := ⟨_, List.getElem?_eq_getElem hylt⟩
        have hdb := inB_all hib hd
        rw [drop_cons hd, hwRow] at hqs
        simp (disch := omega) only [go_sem, f19, f5, hylt', hd, i64_in, dHold, hh7]
        refine ⟨by omega, callV (f17 c.need d.need) ?_⟩
        intro nx3 lv3
        simp (disch := omega) only [go_sem, i64_in, hh7]
        refine ⟨fun k1 => ?_, fun k1 => ?_⟩
        · rw [if_pos k1] at hqs
          refine ⟨by kernel_rfl, (y + 1, max mq (c.fin - d.start)), ?_, by simp only; omega⟩
          simp only [go_sem]
          exact ⟨by simp, ⟨_, _, _, rfl, by simp only [go_sem, hh7]⟩, by omega, by omega, hqs⟩
        · rw [if_neg (by simp [k1])] at hqs
          refine ⟨by kernel_rfl, (y + 1, mq), ?_, by simp only; omega⟩
          simp only [go_sem]
          exact ⟨by simp, ⟨_, _, _, rfl, by simp only [go_sem, hh7]⟩, by omega, hmq, hqs⟩
      · have hylt' : ((y : Int) < (b.length : Int)) = False := by simp; omega
        rw [List.drop_eq_nil_of_le (by omega), hwRow] at hqs
        simp (disch := omega) only [go_sem, f19, f5, hylt', i64_in]
        refine ⟨by kernel_rfl, (x + 1, mq), ?_, by simp only; omega⟩
        simp only [go_sem]
        exact ⟨by simp, ⟨_, _, _, rfl⟩, by omega, hmq, by rw [hqs]; exact hps⟩
    · have hlt' : ((x : Int) < (a.length : Int)) = False := by simp; omega
      rw [List.drop_eq_nil_of_le (by omega), hwAll] at hps
      simp (disch := omega) only [go_sem, e12, e5, hlt', i64_in]
      exact hps

set_option maxHeartbeats 8000000 in
set_option maxRecDepth 20000 in
theorem f42 (a b : List Hold) (ha : a.length ≤ 1048576) (hb : b.length ≤ 1048576) (hia : a.all inB = true) (hib : b.all inB = true) : PCall Try.prog 42 [.sl 6 (a.map dHold) .no, .sl 6 (b.map dHold) .no] (RV (.int .i64 (hwAll b a 0))) := by
  refine PCall.of_body Try.func42 rfl Try.ntmps42 (congrArg Array.toList Try.results42) ?_
  intro E
  simp only [go_sem]
  refine AW_loopS [5, 6, 7, 8, 9, 12, 13, 14, 15, 16, 17, 18, 19, 20, 21, 22, 23, 24, 25, 26, 27, 28, 29, 30, 31, 32, 33, 34, 35]
    (fun (x : Nat × Int) ρ m => ρ 12 = .int .i64 (x.1 : Int) ∧ ρ 5 = .int .i64 x.2 ∧ (∃ h nx lv, m = ⟨h, [], nx, lv⟩) ∧ x.1 ≤ a.length ∧ (0 ≤ x.2 ∧ x.2 ≤ 2199023255552) ∧ hwAll b (a.drop x.1) x.2 = hwAll b a 0) (fun x => a.length - x.1) (0, 0) ?_ ?_
  · simp only [go_sem]
    exact ⟨⟨_, _, _, rfl⟩, Nat.zero_le _⟩
  · rintro ⟨x, mo⟩ ρ m ⟨e12, e5, ⟨h, nx, lv, rfl⟩, hx, hmo, hps⟩
    dsimp only at e12 e5 hx hps hmo
    by_cases hlt : x < a.length
    · have hlt' : ((x : Int) < (a.length : Int)) = True := by simp; omega
      obtain ⟨c, hc⟩ : ∃ c, a[x]? = some c := ⟨_, List.getElem?_eq_getElem hlt⟩
      have hcb := inB_all hia hc
      rw [drop_cons hc, hwAll] at hps
      simp (disch := omega) only [go_sem, e12, e5, hlt', hc, i64_in, dHold]
      refine ⟨by omega, ?_⟩
      generalize genO (hget h 7) = G
      refine AW_loopS [5, 8, 9, 18, 19, 20, 21, 22, 23, 24, 25, 26, 27, 28, 29, 30, 31, 32, 33, 34]
        (fun (y : Nat × Int) ρ m => ρ 18 = .int .i64 (y.1 : Int) ∧ ρ 5 = .int .i64 y.2 ∧
          (∃ h nx lv, m = ⟨h, [], nx, lv⟩ ∧ hget h 7 = some (G, [.int .i64 c.need.kind, .int .i64 c.need.place, .int .i64 c.need.position, .int .i64 c.need.spot, .int .i64 c.start, .int .i64 c.fin])) ∧
          y.1 ≤ b.length ∧ (0 ≤ y.2 ∧ y.2 ≤ 2199023255552) ∧ hwRow c (b.drop y.1) y.2 = hwRow c b mo) (fun y => b.length - y.1) (0, mo) ?_ ?_
      · simp only [go_sem]
        exact ⟨⟨_, _, _, rfl, by simp only [go_sem]⟩, Nat.zero_le _, hmo⟩
      rintro ⟨y, mq⟩ ρ2 m2 ⟨f19, f5, ⟨h2, nx2, lv2, rfl, hh7⟩, hy, hmq, hqs⟩
      dsimp only at f19 f5 hy hqs hmq
      by_cases hylt : y < b.length
      · have hylt' : ((y : Int) < (b.length : Int)) = True := by simp; omega
        obtain ⟨d, hd⟩ : ∃ c, b[y]? = some c := ⟨_, List.getElem?_eq_getElem hylt⟩
        have hdb := inB_all hib hd
        rw [drop_cons hd, hwRow] at hqs
        simp (disch := omega) only [go_sem, f19, f5, hylt', hd, i64_in, dHold, hh7]
        refine ⟨by omega, callV (f18 c.need d.need) ?_⟩
        intro nx3 lv3
        simp (disch := omega) only [go_sem, i64_in, hh7]
        refine ⟨fun k1 => ?_, fun k1 => ?_⟩
        · rw [if_pos k1] at hqs
          refine ⟨by kernel_rfl, (y + 1, max mq (c.fin - d.start)), ?_, by simp only; omega⟩
          simp only [go_sem]
          exact ⟨by simp, ⟨_, _, _, rfl, by simp only [go_sem, hh7]⟩, by omega, by omega, hqs⟩
        · rw [if_neg (by simp [k1])] at hqs
          refine ⟨by kernel_rfl, (y + 1, mq), ?_, by simp only; omega⟩
          simp only [go_sem]
          exact ⟨by simp, ⟨_, _, _, rfl, by simp only [go_sem, hh7]⟩, by omega, hmq, hqs⟩
      · have hylt' : ((y : Int) < (b.length : Int)) = False := by simp; omega
        rw [List.drop_eq_nil_of_le (by omega), hwRow] at hqs
        simp (disch := omega) only [go_sem, f19, f5, hylt', i64_in]
        refine ⟨by kernel_rfl, (x + 1, mq), ?_, by simp only; omega⟩
        simp only [go_sem]
        exact ⟨by simp, ⟨_, _, _, rfl⟩, by omega, hmq, by rw [hqs]; exact hps⟩
    · have hlt' : ((x : Int) < (a.length : Int)) = False := by simp; omega
      rw [List.drop_eq_nil_of_le (by omega), hwAll] at hps
      simp (disch := omega) only [go_sem, e12, e5, hlt', i64_in]
      exact hps

end Go.Proofs.Ythbdjgjpocfneaa
