/- The rule's into and may, walked. -/
import Derived.Test.YtalneemgdjkcdaaE9
namespace Go.Proofs.Ytalneemgdjkcdaa
open Go.AB

def gcell (s : Stock) (ways : List DV) (l : AB.Loc) : List AV := sCells s [.sl 3 ways .no, .mref l]
theorem gcell_rn {f : AB.Loc → Option AB.Loc} {s : Stock} {ways : List DV} {l l' : AB.Loc} (h : f l = some l') : rnCL f (gcell s ways l) = some (gcell s ways l') := by
  simp only [gcell, sCells, rnCL, rnC, port1, h]

theorem callG {k : Nat} {s : Stock} {ways : List DV} {M : List Ent} {rest : List AV} {r0 : AV} {σ : AS} {dst : Option Nat} {K : AS → Prop} {lr lm : AB.Loc}
    (h : QCall Try.prog k ⟨[], [gcell s ways (.out 1), [.mapc (keysM M) (valsM (s.brake - 40) M)]], σ.m.nx, σ.m.lv⟩ (.ptr (.out 0) 0 :: rest) (outR (s.brake - 40) (gcell s ways (.out 1)) σ.m.nx σ.m.lv M r0))
    (hrest : ∀ f, rnAL f rest = some rest) (hr0 : ∀ f, rnV f r0 = some r0) (hne : lr ≠ lm)
    (hr : σ.m.cells lr = some (gcell s ways lm)) (hm : σ.m.cells lm = some [.mapc (keysM M) (valsM (s.brake - 40) M)])
    (hK : ∀ M' nx2 lv2, GoodM lv2 M' → σ.m.nx ≤ nx2 → Keep σ.m.lv M lv2 M' →
      K (AS.put ⟨σ.s, ⟨((σ.m.setCells lr (gcell s ways lm)).setCells lm [.mapc (keysM M') (valsM (s.brake - 40) M')]).h, ((σ.m.setCells lr (gcell s ways lm)).setCells lm [.mapc (keysM M') (valsM (s.brake - 40) M')]).o, nx2, lv2⟩⟩ dst r0)) :
    effX Try.prog k (.ptr lr 0 :: rest) σ dst K := by
  have hne' : ¬ lr = lm := hne
  refine effH [lr, lm] (css := [gcell s ways lm, [.mapc (keysM M) (valsM (s.brake - 40) M)]]) ?_ ?_ ?_ (.two hne) h ?_
  · simp only [rnAL, rnA, rnC, outF, idxL, if_true, hrest]
  · simp only [cellsL, hr, hm]
  · simp only [rnLL, gcell_rn (f := outF [lr, lm]) (l := lm) (l' := .out 1) (by simp [outF, idxL, hne']), map_rn]
  · rintro m' r ⟨rfl, M', ho, hG, hx, hk⟩
    refine ⟨[gcell s ways lm, [.mapc (keysM M') (valsM (s.brake - 40) M')]], r, ?_, rfl, hr0 _, ?_⟩
    · rw [ho]
      simp only [rnLL, gcell_rn (f := backF [lr, lm] none (.own 0 (gnext σ.m 0))) (l := .out 1) (l' := lm) rfl, map_rn]
    · exact hK M' _ _ hG hx hk

set_option maxHeartbeats 4000000 in
set_option maxRecDepth 20000 in
theorem into113 (s : Stock) (ways : List DV) (M : List Ent) (nx : Nat) (lv : Nat → Prop) (v t : Int) (hc : checkS s = 0) (h1 : 0 ≤ v) (h2 : v ≤ 6000) (h3 : 0 ≤ t) (h4 : t ≤ 6000) (hM : GoodM lv M) :
    QCall Try.prog 113 ⟨[], [gcell s ways (.out 1), [.mapc (keysM M) (valsM (s.brake - 40) M)]], nx, lv⟩ [.ptr (.out 0) 0, .int .i64 v, .int .i64 t] (outR (s.brake - 40) (gcell s ways (.out 1)) nx lv M (.int .i64 (into (s.brake - 40) t v))) := by
  refine QCall.lt fun hlt => ?_
  simp only at hlt
  refine QCall.of_body Try.func113 rfl Try.ntmps113 (congrArg Array.toList Try.results113) ?_
  intro E
  have hk := checkS_ok hc
  simp only [go_sem, gcell, sCells, keys_ok, mget_M, mgK_M, tab_len]
  refine ⟨fun hvt => ?_, fun hvt => ?_⟩
  · exact ⟨by rw [into_end (by omega)], M, rfl, hM, Nat.le_refl _, Keep.refl _ _⟩
  have hn0 : nOf M t ≤ 6001 := by
    unfold nOf
    cases he : entOf M t with
    | none => simp
    | some e => simp; exact hM.small e (entOf_spec he).1
  refine AW_loopS [7, 8, 9, 10, 22, 23, 24, 25, 26, 27, 28, 29, 30, 31, 32, 33, 34, 35, 36, 37, 38, 39, 40, 41, 42, 43, 44, 45, 46, 47, 48, 49, 50, 51, 52, 53]
    (fun (x : Nat × Tok) ρ m => ρ 7 = .sl 1 (tab (s.brake - 40) t x.1) x.2 ∧ ρ 8 = .int .i64 (x.1 : Int) ∧ nOf M t ≤ x.1 ∧ x.1 ≤ 6001 ∧ okT m x.2 ∧
      ∃ nx' lv', m = ⟨[], [gcell s ways (.out 1), [.mapc (keysM M) (valsM (s.brake - 40) M)]], nx', lv'⟩ ∧ nx ≤ nx' ∧ TokT lv nx (nOf M t) (tokOf M t) x.1 x.2 lv') (fun x => 6001 - x.1) (nOf M t, tokOf M t) ?_ ?_
  · simp only [go_sem, gcell, sCells]
    exact ⟨hn0, tokOf_ok hM, nx, lv, rfl, Nat.le_refl _, .inl ⟨rfl, rfl, fun _ h => h⟩⟩
  · rintro ⟨n, tok⟩ ρ m ⟨e7, e8, g1, g2, g3, nx', lv', rfl, g4, g5⟩
    dsimp only at e7 e8 g1 g2 g3 g5
    by_cases hle : (n : Int) ≤ v
    · by_cases hgt : t < (n : Int)
      · have e : into (s.brake - 40) t n = goneF n (max t (n - (s.brake - 40))) + into (s.brake - 40) t (max t (n - (s.brake - 40))) := into_step hgt (by omega)
        have hb := into_bd (s.brake - 40) t (max t (n - (s.brake - 40))) h3 (by omega) (by omega)
        have hg : 0 ≤ goneF n (max t (n - (s.brake - 40))) ∧ goneF n (max t (n - (s.brake - 40))) ≤ 100000 := by unfold goneF; omega
        have hget : (tab (s.brake - 40) t n)[(max t (n - (s.brake - 40))).toNat]? = some (.int .i64 (into (s.brake - 40) t (max t (n - (s.brake - 40))))) := by
          rw [tab_get (by omega)]
          rw [show (((max t (n - (s.brake - 40))).toNat : Nat) : Int) = max t (n - (s.brake - 40)) from by omega]
        unfold goneF at e hg
        simp (config := {maxSteps := 1000000}) (disch := omega) only [go_sem, e7, e8, gcell, sCells, keys_ok, tab_len, i64_in, hle, hgt, hget, tdiv2]
        refine ⟨by omega, okT_mono g3 (fun j hj => .inr hj), by omega, by kernel_rfl, (n + 1, .own (nx' + 1)), ?_, by simp only; omega⟩
        simp only [go_sem, gcell, sCells]
        rw [← tab_succ, e]
        refine ⟨rfl, by simp, by omega, by omega, .inl trivial, _, _, rfl, by omega, g5.grow (by omega) hlt (.inl rfl) (fun j hj ht => .inr ⟨.inr hj, ht⟩)⟩
      · have e : into (s.brake - 40) t n = 0 := into_end hgt
        simp (config := {maxSteps := 1000000}) (disch := omega) only [go_sem, e7, e8, gcell, sCells, keys_ok, tab_len, i64_in, hle, hgt]
        refine ⟨okT_mono g3 (fun j hj => .inr hj), by omega, by kernel_rfl, (n + 1, .own (nx' + 1)), ?_, by simp only; omega⟩
        simp only [go_sem, gcell, sCells]
        rw [← tab_succ, e]
        refine ⟨rfl, by simp, by omega, by omega, .inl trivial, _, _, rfl, by omega, g5.grow (by omega) hlt (.inl rfl) (fun j hj ht => .inr ⟨.inr hj, ht⟩)⟩
    · obtain ⟨i, rfl, k1, k2⟩ := upd_done hM hlt g5 (by omega) g2
      have hget : (tab (s.brake - 40) t n)[v.toNat]? = some (.int .i64 (into (s.brake - 40) t v)) := by
        rw [tab_get (by omega)]
        rw [show ((v.toNat : Nat) : Int) = v from by omega]
      simp (config := {maxSteps := 1000000}) (disch := omega) only [go_sem, e7, e8, gcell, sCells, keys_ok, tab_len, i64_in, hle, mset_M', hget]
      exact ⟨h1, rfl, _, rfl, k1, g4, k2⟩

set_option maxHeartbeats 4000000 in
set_option maxRecDepth 20000 in
theorem may84 (s : Stock) (way : List Piece) (M : List Ent) (nx : Nat) (lv : Nat → Prop) (low a fin w : Int) (hc : checkS s = 0) (hw : way.all pieceOk = true) (hl : way.length ≤ 60) (hM : GoodM lv M)
    (h1 : 0 ≤ w) (h2 : w ≤ 6000) (h3 : -1000000000 ≤ low) (h4 : low ≤ 1000000000) (h5 : -1000000000 ≤ a) (h6 : a ≤ 1000000000) (h7 : 0 ≤ fin) (h8 : fin ≤ 1000000000) :
    QCall Try.prog 84 ⟨[], [gcell s (way.map dPiece) (.out 1), [.mapc (keysM M) (valsM (s.brake - 40) M)]], nx, lv⟩ [.ptr (.out 0) 0, .int .i64 low, .int .i64 a, .int .i64 fin, .int .i64 w]
      (outR (s.brake - 40) (gcell s (way.map dPiece) (.out 1)) nx lv M (.bool (fits s way (low - 100 * s.len) a fin w))) := by
  refine QCall.of_body Try.func84 rfl Try.ntmps84 (congrArg Array.toList Try.results84) ?_
  intro E
  have hkc := checkS_ok hc
  have hbt := into_bd (s.brake - 40) 0 w (by omega) (by omega) h2
  simp (config := {maxSteps := 1000000}) (disch := omega) only [go_sem, gcell, sCells, i64_in]
  refine .inr (callG (into113 s _ M nx lv w 0 hc h1 h2 (by omega) (by omega) hM) (fun _ => rfl) (fun _ => rfl) (by simp) rfl rfl ?_)
  intro M2 nx2 lv2 k1 k2 k3
  have N := (Now.refl (nx := nx) hM).call k1 k2 k3
  clear k1 k2 k3
  simp (config := {maxSteps := 1000000}) (disch := omega) only [go_sem, gcell, sCells, i64_in]
  refine ⟨fun hgt => ⟨by unfold fits; simp; omega, M2, rfl, N.good, N.le, N.keep⟩, fun hle => ?_⟩
  refine AW_loopS [10, 11, 13, 26, 27, 28, 29, 30, 31, 32, 33, 34, 35, 36, 37, 38, 39, 40, 41, 42, 43, 44, 45, 46, 47, 48, 49, 50, 51, 52, 53, 54, 55, 56, 57, 58, 59, 60, 61, 62, 63, 64, 65, 66, 67]
    (fun (i : Nat) ρ m => ρ 26 = .int .i64 (i : Int) ∧ ρ 11 = .int .i64 (pre way i) ∧ i ≤ way.length ∧ fitsL (s.brake - 40) (low - 100 * s.len) a w (pre way i) (way.drop i) = fitsL (s.brake - 40) (low - 100 * s.len) a w 0 way ∧
      ∃ h nx' lv' M', m = ⟨h, [gcell s (way.map dPiece) (.out 1), [.mapc (keysM M') (valsM (s.brake - 40) M')]], nx', lv'⟩ ∧ Now nx lv M nx' lv' M') (fun i => way.length - i) 0 ?_ ?_
  · simp only [go_sem, gcell, sCells, pre_zero, List.drop_zero]
    exact ⟨Nat.zero_le _, _, _, _, _, rfl, N⟩
  · rintro i ρ m ⟨e27, e11, g1, g2, h, nx4, lv4, M4, rfl, N4⟩
    by_cases hlt : i < way.length
    · obtain ⟨p, hp⟩ : ∃ p, way[i]? = some p := ⟨_, List.getElem?_eq_getElem hlt⟩
      have hd : way.drop i = p :: way.drop (i + 1) := by
        rw [List.drop_eq_getElem_cons hlt]
        rw [List.getElem?_eq_getElem hlt] at hp
        cases hp; rfl
      have hps := pre_succ hp
      have hpk := pieceOk_iff.1 (List.all_eq_true.1 hw p (List.mem_of_getElem? hp))
      have hb1 := pre_bd hw i
      have hlt' : ((i : Int) < (way.length : Int)) = True := by simp; omega
      have hfl : fitsL (s.brake - 40) (low - 100 * s.len) a w (pre way i) (way.drop i) = (!(decide (pre way i < a) && (decide ((low - 100 * s.len) < pre way i + p.len) && decide (p.speed < w))) && (!(decide (a ≤ pre way i) && decide (pre way i - a < into (s.brake - 40) p.speed w)) && fitsL (s.brake - 40) (low - 100 * s.len) a w (pre way (i + 1)) (way.drop (i + 1)))) := by
        rw [hd, hps]; rfl
      rw [hfl] at g2
      have hbi := into_bd (s.brake - 40) p.speed w (by omega) (by omega) h2
      simp (config := {maxSteps := 1000000}) (disch := omega) only [go_sem, e27, e11, gcell, sCells, i64_in, hlt', hp, dPiece]
      generalize genO (AB.hget h 13) = G
      refine ⟨by omega, fun hge => .inr (callG (into113 s _ M4 nx4 lv4 w p.speed hc h1 h2 (by omega) (by omega) N4.good) (fun _ => rfl) (fun _ => rfl) (by simp) rfl rfl ?_), fun hlt2 => ?_⟩
      · intro M5 nx5 lv5 k1 k2 k3
        have N5 := N4.call k1 k2 k3
        clear k1 k2 k3
        simp (config := {maxSteps := 1000000}) (disch := omega) only [go_sem, gcell, sCells, i64_in]
        refine ⟨fun hgt => ⟨?_, M5, rfl, N5.good, N5.le, N5.keep⟩, fun hngt => ⟨by kernel_rfl, i + 1, ?_, by simp only; omega⟩⟩
        · have : fitsL (s.brake - 40) (low - 100 * s.len) a w 0 way = false := by rw [← g2]; simp [hge, hgt]
          simp [fits, this]
        · simp only [go_sem, gcell, sCells, hps]
          refine ⟨by simp, by omega, ?_, _, _, _, _, rfl, N5⟩
          rw [← hps, ← g2]
          have e1 : ¬ pre way i < a := by omega
          simp [e1, hngt]
      · have e1 : pre way i < a := by omega
        refine drawn (by kernel_rfl) (by kernel_rfl) ?_
        simp (config := {maxSteps := 1000000}) (disch := omega) only [go_sem, gcell, sCells, i64_in]
        refine ⟨fun hgt nx6 lv6 q1 q2 => ⟨fun hsp => ⟨?_, M4, rfl, (N4.more q1 q2).good, (N4.more q1 q2).le, (N4.more q1 q2).keep⟩, fun hsp => ⟨by kernel_rfl, i + 1, ?_, by simp only; omega⟩⟩, fun hngt nx6 lv6 q1 q2 => ⟨by kernel_rfl, i + 1, ?_, by simp only; omega⟩⟩
        · have : fitsL (s.brake - 40) (low - 100 * s.len) a w 0 way = false := by rw [← g2]; simp [e1, hgt, hsp]
          simp [fits, this]
        · simp only [go_sem, gcell, sCells, hps]
          refine ⟨by simp, by omega, ?_, _, _, _, _, rfl, N4.more q1 q2⟩
          rw [← hps, ← g2]
          simp [hlt2, hsp]
        · simp only [go_sem, gcell, sCells, hps]
          refine ⟨by simp, by omega, ?_, _, _, _, _, rfl, N4.more q1 q2⟩
          rw [← hps, ← g2]
          simp [hlt2, hngt]
    · have hlt' : ((i : Int) < (way.length : Int)) = False := by simp; omega
      have hd : way.drop i = [] := List.drop_eq_nil_of_le (by omega)
      rw [hd] at g2
      simp (config := {maxSteps := 1000000}) (disch := omega) only [go_sem, e27, e11, gcell, sCells, i64_in, hlt']
      refine ⟨?_, M4, rfl, N4.good, N4.le, N4.keep⟩
      have : fitsL (s.brake - 40) (low - 100 * s.len) a w 0 way = true := by rw [← g2]; rfl
      simp [fits, this]
      omega
end Go.Proofs.Ytalneemgdjkcdaa
