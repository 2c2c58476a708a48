/- Routes: the reference's search. -/
import Derived.Test.YteadhjclchjfjaaGreatL240
namespace Go.Proofs.YteadhjclchjfjaaGreat
set_option linter.unusedSimpArgs false
set_option linter.unusedVariables false
open Go.AB

/-- What the reference's search keeps to. -/
def FG (f : Fd) (b : Int) : Prop := 0 ≤ f.ps ∧ f.ps ≤ b ∧ (f.rs.length : Int) ≤ f.ps ∧ (f.lg = false → f.ps ≤ 80)
theorem FG.mono {f : Fd} {b c : Int} (h : FG f b) (hc : b ≤ c) : FG f c := ⟨h.1, by have := h.2.1; omega, h.2.2⟩
theorem FG.low {f : Fd} {b : Int} (h : FG f b) (hl : f.lg = false) : FG f 80 := ⟨h.1, h.2.2.2 hl, h.2.2⟩
theorem endF_FG {f : Fd} {r : Rt} {x : Bool} {b : Int} (h : FG f b) : FG (endF f r x) (b + 1) := by
  obtain ⟨h1, h2, h3, h4⟩ := h
  refine ⟨by simp only [endF]; omega, by simp only [endF]; omega, ?_, fun hl => ?_⟩
  · simp only [endF]
    cases x
    · simp; omega
    · simp; omega
  · simp only [endF, Bool.or_eq_false_iff, decide_eq_false_iff_not] at hl ⊢
    omega
theorem outG_FG {g : Rt → Int → Int → Fd → Fd} {n : Net} {r : Rt} {t i c : Int} (hg : ∀ r s e f b, c ≤ b → FG f b → FG (g r s e f) b) : ∀ (l : List Int) (f : Fd) (b : Int), c ≤ b → FG f b → FG (outG g n r t i l f) (b + l.length)
  | [], f, b, _, h => by simpa [outG] using h
  | o :: l, f, b, hb, h => by
    rw [outG_cons]
    have : FG (if 0 ≤ sigIdx n.sigs t o 0 then endF f ⟨r.fr, sigIdx n.sigs t o 0, r.st ++ [⟨t, i, o⟩]⟩ true else g ⟨r.fr, r.to, r.st ++ [⟨t, i, o⟩]⟩ t o f) (b + 1) := by
      split
      · exact endF_FG h
      · exact (hg _ _ _ _ _ hb h).mono (by omega)
    exact (outG_FG hg l _ _ (by omega) this).mono (by simp; omega)
theorem followF_FG {n : Net} {home : Int} : ∀ (k : Nat) (r : Rt) (s e : Int) (f : Fd) (b : Int), 81 + 2 * (k : Int) ≤ b → FG f b → FG (followF n home k r s e f) b
  | 0, _, _, _, _, _, _, h => h
  | k + 1, r, s, e, f, b, hb, h => by
    unfold followF
    split
    · exact h
    · rename_i hl
      have hlow := h.low (by simpa using hl)
      split
      · exact (endF_FG hlow).mono (by omega)
      · rename_i t i _
        split
        · exact (endF_FG hlow).mono (by omega)
        · split
          · exact ⟨hlow.1, by have := hlow.2.1; simp only; omega, hlow.2.2.1, fun hh => by cases hh⟩
          · have := outG_FG (g := followF n home k) (n := n) (r := r) (t := t) (i := i) (c := 81 + 2 * (k : Int)) (fun r s e f b hb h => followF_FG k r s e f b hb h) (outsF (kindAt n t) i) f (81 + 2 * k) (by omega) (hlow.mono (by omega))
            have hle := outsF_len (kindAt n t) i
            exact this.mono (by omega)

theorem callFd {k : Nat} {bs args : List AV} {σ : AS} {dst : Option Nat} {K : AS → Prop} {g : Fd} (h : QCall Tryz.prog k ⟨[], [], σ.m.nx, σ.m.lv⟩ args (outFd g)) (h1 : rnAL (outF []) args = some args)
    (hK : ∀ tok' nx2 lv2, okN nx2 lv2 tok' → K (AS.put ⟨σ.s, ⟨σ.m.h, σ.m.o, nx2, lv2⟩⟩ dst (eFd g tok'))) : callX Tryz.prog k bs args σ dst K := by
  refine callX.own h1 h ?_
  rintro m' r ⟨ho, tok, rfl, hok⟩
  exact ⟨ho, eFd g tok, rfl, hK tok _ _ hok⟩

set_option maxHeartbeats 4000000 in
set_option maxRecDepth 20000 in
theorem f30 (n : Net) (hb : NetB n) (he : netE n = 0) (fr : Nat) (sg : Pair) (hsg : n.sigs[fr]? = some sg) : ∀ (k : Nat) (f : Fd) (r : Rt) (tok tk : Tok) (s e : Int) (nx : Nat) (lv : Nat → Prop), k ≤ 20 → r.fr = fr → r.st.length ≤ 16 → 17 ≤ r.st.length + k → FG f 300 → okT ⟨[], [], nx, lv⟩ tok →
    QCall Tryz.prog 30 ⟨[], [], nx, lv⟩ [eFd f tok, eNet n, eRt r tk, .int .i64 s, .int .i64 e] (outFd (followF n sg.s k r s e f)) := by
  intro k
  induction k with
  | zero => intro f r tok tk s e nx lv h0 h1 h2 h3; omega
  | succ k ih =>
    intro f r tok tk s e nx lv hk hfr h1 h2 hf hok
    obtain ⟨rfr, rto, rst⟩ := r
    simp only at hfr h1 h2
    subst hfr
    refine QCall.lt fun hlt => ?_
    simp only at hlt
    refine QCall.of_bodyR Tryz.func30 rfl Tryz.ntmps30 (congrArg Array.toList Tryz.results30) ?_
    intro E hE
    refine AW_of ?_
    simp only [go_sem, eFd, eRt, eNet, nCells]
    refine callVt (f66 n s e hb) ?_
    intro nx1 lv1 hn1 hl1
    unfold followF
    simp only [go_sem]
    have hok0 : okN nx lv tok := okN.of hok hlt
    have hok1 : okN nx1 lv1 tok := hok0.mono hn1 hl1
    refine ⟨fun hl => ?_, fun hl => ?_⟩
    · rw [if_pos hl]
      exact ⟨rfl, tok, rfl, hok1⟩
    have hlow := hf.low hl
    obtain ⟨p1, p2, p3, p4⟩ := hlow
    rw [if_neg (by rw [hl]; simp)]
    cases hj : joinL n.links s e with
    | none =>
      refine ⟨fun hj1 => ?_, fun hj1 => absurd hj1 (by simp)⟩
      refine callFd (f67 f ⟨fr, -1, rst⟩ true tok tk nx1 lv1 p1 (by omega) (by omega) (by simp only; omega) hok1.t) rfl ?_
      intro tok2 nx2 lv2 hok2
      simp only [go_sem, eFd]
      exact ⟨rfl, tok2, rfl, hok2⟩
    | some q =>
      obtain ⟨t, i⟩ := q
      refine ⟨fun hj1 => absurd hj1 (by simp), fun hj1 => ?_⟩
      have hfl := joinL_has he hj
      obtain ⟨⟨q1, q2⟩, q3, q4⟩ := hasF_iff.1 hfl
      have hltt : t.toNat < n.sects.length := by omega
      obtain ⟨c, hc⟩ : ∃ c, n.sects[t.toNat]? = some c := ⟨_, List.getElem?_eq_getElem hltt⟩
      have hc2 : (n.sects.map dSect)[t.toNat]? = some (dSect c) := by rw [List.getElem?_map, hc]; rfl
      have hkd : kindAt n t = c.kind := by simp [kindAt, hc]
      have i1 : ((0 : Int) ≤ t) = True := eq_true q1
      have i2 : (t < (n.sects.length : Int)) = True := eq_true (by omega)
      have hflt : fr < n.sigs.length := (List.getElem?_eq_some_iff.1 hsg).1
      have j0 : ((0 : Int) ≤ (fr : Int)) = True := by simp
      have j1 : ((fr : Int) < (n.sigs.length : Int)) = True := by simp; omega
      have hs2 : (n.sigs.map dPair)[fr]? = some (dPair sg) := by rw [List.getElem?_map, hsg]; rfl
      simp only [go_sem, joinS, joinE, j0, j1, hs2, hsg, Option.map_some, dPair, Option.isSome_some]
      refine ⟨fun g1 => ?_, fun g1 => ?_⟩
      · rw [if_pos (.inl g1)]
        refine callFd (f67 f ⟨fr, rto, rst⟩ false tok tk nx1 lv1 p1 (by omega) (by omega) (by simp only; omega) hok1.t) rfl ?_
        intro tok2 nx2 lv2 hok2
        simp only [go_sem, eFd]
        exact ⟨rfl, tok2, rfl, hok2⟩
      · refine callVt (f68 rst t (by omega)) ?_
        intro nx2 lv2 hn2 hl2
        have hok2 : okN nx2 lv2 tok := hok1.mono hn2 hl2
        cases hps : psec rst t with
        | true =>
          rw [if_pos (.inr rfl)]
          simp only [go_sem]
          refine callFd (f67 f ⟨fr, rto, rst⟩ false tok tk nx2 lv2 p1 (by omega) (by omega) (by simp only; omega) hok2.t) rfl ?_
          intro tok2 nx2 lv2 hok2
          simp only [go_sem, eFd]
          exact ⟨rfl, tok2, rfl, hok2⟩
        | false =>
          rw [if_neg (by simp [g1])]
          simp only [go_sem]
          refine ⟨fun h16 => ?_, fun h16 => ?_⟩
          · rw [if_pos (by omega)]
            exact ⟨rfl, tok, rfl, hok2⟩
          rw [if_neg (by omega)]
          have hkc := netE_kinds he c (List.mem_of_getElem? hc)
          simp only [go_sem, i1, i2, hc, Option.map_some, dSect]
          refine callVt (f69 c.kind i hkc.1 hkc.2 q3 (by rw [← hkd]; omega)) ?_
          intro nx3 lv3 hn3 hl3
          have hok3 : okN nx3 lv3 tok := hok2.mono hn3 hl3
          rw [hkd]
          have hle := outsF_len c.kind i
          generalize outsF c.kind i = os at hle ⊢
          generalize hF : outG (followF n sg.s k) n ⟨fr, rto, rst⟩ t i os f = F
          simp only [go_sem, lInts]
          refine AW_loopH [15, 16, 17, 68, 69, 70, 71, 72, 73, 74, 75, 76, 77, 78, 79, 80, 81, 82, 83, 84, 85, 86, 87, 88, 89, 90, 91, 92, 93, 94, 95, 96, 97, 98, 99, 100, 101]
            (fun (j : Nat) ρ m => ρ 68 = .int .i64 (j : Int) ∧ j ≤ os.length ∧ ∃ h nx lv tok f, m = ⟨h, [], nx, lv⟩ ∧ AB.hget h 5 = some (0, [.sl 3 (f.rs.map dRt) tok, .int .i64 f.ps, .bool f.lg]) ∧ AB.hget h 6 = some (0, [.sl 1 (n.names.map DV.str) .no, .sl 7 (n.sects.map dSect) .no, .sl 4 (n.links.map dLnk) .no, .sl 2 (n.sigs.map dPair) .no, .sl 2 (n.gates.map dPair) .no]) ∧ AB.hget h 7 = some (0, [.int .i64 fr, .int .i64 rto, .sl 3 (rst.map dStp) tk]) ∧
              AB.hget h 10 = some (0, [.sl 3 [] .nil, .int .i64 0, .bool false]) ∧ okN nx lv tok ∧ FG f (81 + 2 * k + j) ∧ outG (followF n sg.s k) n ⟨fr, rto, rst⟩ t i (os.drop j) f = F) (fun j => os.length - j) 0 ?_ ?_
          · simp only [go_sem]
            refine ⟨Nat.zero_le _, _, _, _, tok, f, rfl, ?_, ?_, ?_, ?_, hok3, ⟨p1, by omega, p3, p4⟩, hF⟩
            · simp [go_sem]
            · simp [go_sem]
            · simp [go_sem]
            · simp [go_sem]
          rintro j ρ m ⟨e68, g2, h, nx4, lv4, tok4, f9004, rfl, b5, b6, b7, b10, hok4, hg4, g5⟩ Q hN hR hX
          by_cases hlt : j < os.length
          · obtain ⟨o, ho⟩ : ∃ o, os[j]? = some o := ⟨_, List.getElem?_eq_getElem hlt⟩
            have hlt' : ((j : Int) < (os.length : Int)) = True := by simp; omega
            have h0 : ((0 : Int) ≤ (j : Int)) = True := by simp
            have ew : IntKind.i64.wrap ((j : Int) + 1) = (j : Int) + 1 := i64_in (by omega) (by omega)
            have hd : os.drop j = o :: os.drop (j + 1) := by
              rw [List.drop_eq_getElem_cons hlt]
              rw [List.getElem?_eq_getElem hlt] at ho
              cases ho; rfl
            rw [hd, outG_cons] at g5
            obtain ⟨g16, hg16⟩ : ∃ g16, genO (AB.hget h 16) = g16 := ⟨_, rfl⟩
            simp only [go_sem, e68, hlt', h0, ho, Option.map_some, b7, b5, b6, hg16]
            refine ⟨.inl trivial, by omega, .inr (.inl trivial), by omega, ?_⟩
            refine callVt (f70 n t o hb) ?_
            intro nx5 lv5 hn5 hl5
            have hok5 : okN nx5 lv5 tok4 := hok4.new (by simp only at hn5; omega) fun j hj x => hl5 j (by simp only; right; constructor; right; right; constructor; right; exact x; omega; omega)
            have hrt : rst.map dStp ++ [DV.agg [.int .i64 t, .int .i64 i, .int .i64 o]] = (rst ++ [(⟨t, i, o⟩ : Stp)]).map dStp := by simp [dStp]
            obtain ⟨q1', q2', q3', q4'⟩ := hg4
            simp only [go_sem, b5, b6, hrt]
            refine ⟨fun hs => ?_, fun hs => ?_⟩
            · rw [if_pos (by omega)] at g5
              refine callFd (f67 f9004 ⟨fr, sigIdx n.sigs t o 0, rst ++ [(⟨t, i, o⟩ : Stp)]⟩ true tok4 (.own (nx4 + 1 + 1 + 1)) nx5 lv5 q1' (by omega) (by omega) (by simp only [List.length_append, List.length_singleton]; omega) hok5.t) rfl ?_
              intro tok6 nx6 lv6 hok6
              simp only [go_sem, eFd, hN, ew, b5]
              refine ⟨by kernel_rfl, j + 1, ?_, by simp only; omega⟩
              simp only [go_sem]
              refine ⟨by simp, by omega, _, _, _, tok6, endF f9004 ⟨fr, sigIdx n.sigs t o 0, rst ++ [(⟨t, i, o⟩ : Stp)]⟩ true, rfl, ?_, ?_, ?_, ?_, hok6, (endF_FG ⟨q1', q2', q3', q4'⟩).mono (by omega), g5⟩
              · simp [go_sem, b5]
              · simp [go_sem, b6]
              · simp [go_sem, b7]
              · simp [go_sem, b10]
            · rw [if_neg (by omega)] at g5
              refine callFd (ih f9004 ⟨fr, rto, rst ++ [(⟨t, i, o⟩ : Stp)]⟩ tok4 (.own (nx4 + 1 + 1 + 1)) t o nx5 lv5 (by omega) rfl (by simp only [List.length_append, List.length_singleton]; omega) (by simp only [List.length_append, List.length_singleton]; omega) (FG.mono ⟨q1', q2', q3', q4'⟩ (by omega)) hok5.t) rfl ?_
              intro tok6 nx6 lv6 hok6
              simp only [go_sem, eFd, hN, ew, b5]
              refine ⟨by kernel_rfl, j + 1, ?_, by simp only; omega⟩
              simp only [go_sem]
              refine ⟨by simp, by omega, _, _, _, tok6, followF n sg.s k ⟨fr, rto, rst ++ [(⟨t, i, o⟩ : Stp)]⟩ t o f9004, rfl, ?_, ?_, ?_, ?_, hok6, (followF_FG k _ _ _ _ _ (by omega) ⟨q1', q2', q3', q4'⟩).mono (by omega), g5⟩
              · simp [go_sem, b5]
              · simp [go_sem, b6]
              · simp [go_sem, b7]
              · simp [go_sem, b10]
          · have hlt' : ((j : Int) < (os.length : Int)) = False := by simp; omega
            rw [List.drop_eq_nil_of_le (by omega)] at g5
            simp only [outG] at g5
            subst g5
            simp only [go_sem, e68, hlt', hX, b5, b10]
            exact ⟨rfl, tok4, rfl, hok4⟩
end Go.Proofs.YteadhjclchjfjaaGreat

/- Routes: the reference's, over the signals; comparing lists. -/
namespace Go.Proofs.YteadhjclchjfjaaGreat
set_option linter.unusedSimpArgs false
set_option linter.unusedVariables false
open Go.AB

def followAll (n : Net) : List Pair → Int → Fd → Fd
  | [], _, f => f
  | x :: l, i, f => followAll n l (i + 1) (followF n x.s 18 ⟨i, 0, []⟩ x.s x.e f)
def routesG (n : Net) : Fd := followAll n n.sigs 0 ⟨[], 0, false⟩

set_option maxHeartbeats 4000000 in
set_option maxRecDepth 20000 in
theorem f8 (n : Net) (hb : NetB n) (he : netE n = 0) : PCall Tryz.prog 8 [eNet n] (RV (rtV (outL (routesG n)) (outE (routesG n)))) := by
  have hsg := hb.sg
  refine PCall.of_bodyE Tryz.func8 rfl Tryz.ntmps8 (congrArg Array.toList Tryz.results8) ?_
  intro E
  simp only [go_sem, eNet, nCells]
  refine AW_loopH [5, 6, 11, 12, 13, 14, 15, 16, 17, 18, 19, 20, 21, 22, 23, 24, 25]
    (fun (i : Nat) ρ m => ρ 11 = .int .i64 (i : Int) ∧ i ≤ n.sigs.length ∧ ∃ h nx lv tok f, m = ⟨h, [], nx, lv⟩ ∧ AB.hget h 1 = some (0, [.sl 1 (n.names.map DV.str) .no, .sl 7 (n.sects.map dSect) .no, .sl 4 (n.links.map dLnk) .no, .sl 2 (n.sigs.map dPair) .no, .sl 2 (n.gates.map dPair) .no]) ∧
      AB.hget h 4 = some (0, [.sl 3 (f.rs.map dRt) tok, .int .i64 f.ps, .bool f.lg]) ∧ okN nx lv tok ∧ FG f 200 ∧ followAll n (n.sigs.drop i) i f = routesG n) (fun i => n.sigs.length - i) 0 ?_ ?_
  · simp only [go_sem]
    refine ⟨Nat.zero_le _, _, _, _, .nil, ⟨[], 0, false⟩, rfl, ?_, ?_, trivial, ⟨by simp, by simp, by simp, by simp⟩, rfl⟩
    · simp [go_sem]
    · simp [go_sem]
  rintro i ρ m ⟨e11, g1, h, nx, lv, tok, f, rfl, b1, b4, hok, hf, g2⟩ Q hN hR hX
  by_cases hlt : i < n.sigs.length
  · obtain ⟨x, hx⟩ : ∃ x, n.sigs[i]? = some x := ⟨_, List.getElem?_eq_getElem hlt⟩
    have hxp : (n.sigs.map dPair)[i]? = some (dPair x) := by rw [List.getElem?_map, hx]; rfl
    have hlt' : ((i : Int) < (n.sigs.length : Int)) = True := by simp; omega
    have h0 : ((0 : Int) ≤ (i : Int)) = True := by simp
    have ew : IntKind.i64.wrap ((i : Int) + 1) = (i : Int) + 1 := i64_in (by omega) (by omega)
    have hd : n.sigs.drop i = x :: n.sigs.drop (i + 1) := by
      rw [List.drop_eq_getElem_cons hlt]
      rw [List.getElem?_eq_getElem hlt] at hx
      cases hx; rfl
    rw [hd] at g2
    simp only [followAll] at g2
    simp only [go_sem, e11, hlt', h0, hxp, hx, Option.map_some, dPair, b4, b1]
    refine callFd (f30 n hb he i x hx 18 f ⟨i, 0, []⟩ tok .nil x.s x.e nx lv (by omega) rfl (by simp) (by simp) (hf.mono (by omega)) hok.t) rfl ?_
    intro tok2 nx2 lv2 hok2
    simp only [go_sem, hN, ew, b4, b1, eFd]
    refine ⟨by kernel_rfl, i + 1, ?_, by simp only; omega⟩
    simp only [go_sem]
    refine ⟨by simp, by omega, _, _, _, tok2, followF n x.s 18 ⟨i, 0, []⟩ x.s x.e f, rfl, ?_, ?_, hok2, followF_FG 18 _ _ _ _ _ (by omega) hf, ?_⟩
    · simp [go_sem, b1]
    · simp [go_sem, b4]
    · rw [← g2]; simp
  · have hlt' : ((i : Int) < (n.sigs.length : Int)) = False := by simp; omega
    rw [List.drop_eq_nil_of_le (by omega)] at g2
    simp only [followAll] at g2
    subst g2
    simp only [go_sem, e11, hlt', hX, b4]
    exact ⟨fun h => by simp [rtV, outL, outE, h], fun h => by simp [rtV, outL, outE, h]⟩

/-- What both find is one thing. -/
theorem eqv_all (n : Net) : ∀ (l : List Pair) (i : Int) (f g : Fd), (∀ x ∈ l, (joinL n.links x.s x.e).isSome = true) → Eqv f g → Eqv (growAll n l i f) (followAll n l i g)
  | [], _, _, _, _, h => h
  | x :: l, i, f, g, hl, h => eqv_all n l (i + 1) _ _ (fun y hy => hl y (List.mem_cons_of_mem _ hy)) (eqv_grow n i x.s 17 [] x.s x.e 0 f g (by simp) (by simp) (hl x (List.mem_cons_self ..)) h)
theorem eqv_out {f g : Fd} (h : Eqv f g) : outL f = outL g ∧ outE f = outE g := by
  obtain ⟨h1, h2⟩ := h
  unfold outL outE
  cases hf : f.lg with
  | true => rw [← h1, hf]; simp
  | false =>
    rw [← h1, hf]
    simp [(h2 hf).1]
end Go.Proofs.YteadhjclchjfjaaGreat

/- Routes: comparing equal lists; the law. -/
namespace Go.Proofs.YteadhjclchjfjaaGreat
set_option linter.unusedSimpArgs false
set_option linter.unusedVariables false
open Go.AB

set_option maxHeartbeats 4000000 in
set_option maxRecDepth 20000 in
theorem f10 (p : List Stp) (hl : p.length ≤ 5864062014634) : PCall Tryz.prog 10 [.sl 3 (p.map dStp) .no, .sl 3 (p.map dStp) .no] (RV (.bool true)) := by
  refine PCall.of_body Tryz.func10 rfl Tryz.ntmps10 (congrArg Array.toList Tryz.results10) ?_
  intro E
  simp only [go_sem]
  refine AW_loopH [5, 13, 14, 15, 16, 17, 18, 19, 20, 21, 22, 23, 24, 25]
    (fun (i : Nat) ρ m => ρ 13 = .int .i64 (i : Int) ∧ i ≤ p.length ∧ ∃ h nx lv, m = ⟨h, [], nx, lv⟩) (fun i => p.length - i) 0 ?_ ?_
  · simp only [go_sem]
    exact ⟨Nat.zero_le _, _, _, _, rfl⟩
  rintro i ρ m ⟨e13, g1, h, nx, lv, rfl⟩ Q hN hR hX
  by_cases hlt : i < p.length
  · obtain ⟨x, hx⟩ : ∃ x, p[i]? = some x := ⟨_, List.getElem?_eq_getElem hlt⟩
    have hxp : (p.map dStp)[i]? = some (dStp x) := by rw [List.getElem?_map, hx]; rfl
    have hlt' : ((i : Int) < (p.length : Int)) = True := by simp; omega
    have h0 : ((0 : Int) ≤ (i : Int)) = True := by simp
    have ew : IntKind.i64.wrap ((i : Int) + 1) = (i : Int) + 1 := i64_in (by omega) (by omega)
    simp only [go_sem, e13, hlt', h0, hxp, hx, Option.map_some, dStp]
    refine drawn (by kernel_rfl) (by kernel_rfl) ?_
    simp only [go_sem, e13, hlt', h0, hxp, hx, Option.map_some, dStp, kDraw_eq]
    intro nx2 lv2 _ _
    simp only [hN, ew]
    refine ⟨by kernel_rfl, i + 1, ?_, by simp only; omega⟩
    simp only [go_sem]
    exact ⟨by simp, by omega, _, _, _, rfl⟩
  · have hlt' : ((i : Int) < (p.length : Int)) = False := by simp; omega
    simp only [go_sem, e13, hlt', hX]

def ShortF (f : Fd) : Prop := ∀ r ∈ f.rs, r.st.length ≤ 16
theorem stepG_short {g : List Stp → Int → Int → Fd → Fd} {n : Net} {fr home : Int} {p : List Stp} (hg : ∀ q s e f, ShortF f → ShortF (g q s e f)) : ∀ (l : List Stp) (f : Fd), ShortF f → ShortF (stepG g n fr home p l f)
  | [], f, h => h
  | x :: l, f, h => by
    rw [stepG_cons]
    split
    · exact h
    · split
      · exact h
      · split
        · exact h
        · split
          · exact stepG_short hg l _ (hg _ _ _ _ h)
          · rename_i h16 _
            refine stepG_short hg l _ ?_
            intro r hr
            simp only [countF, List.mem_append, List.mem_singleton] at hr
            rcases hr with hr | rfl
            · exact h r hr
            · simp; omega
theorem growF_short {n : Net} {fr home : Int} : ∀ (k : Nat) (p : List Stp) (s e : Int) (f : Fd), ShortF f → ShortF (growF n fr home k p s e f)
  | 0, _, _, _, _, h => h
  | k + 1, p, s, e, f, h => stepG_short (fun q s e f h => growF_short k q s e f h) _ _ h
theorem growAll_both {n : Net} : ∀ (l : List Pair) (i : Int) (f : Fd), FOk f ∧ ShortF f → FOk (growAll n l i f) ∧ ShortF (growAll n l i f)
  | [], _, _, h => h
  | x :: l, i, f, h => growAll_both l (i + 1) _ ⟨growF_ok _ _ _ _ _ h.1, growF_short _ _ _ _ _ h.2⟩
theorem outL_bd (n : Net) : (outL (routesF n)).length ≤ 1000 ∧ ∀ r ∈ outL (routesF n), r.st.length ≤ 1000 := by
  obtain ⟨⟨h1, h2, h3, h4⟩, h5⟩ := growAll_both (n := n) n.sigs 0 ⟨[], 0, false⟩ ⟨⟨by simp, by simp, by simp, by simp⟩, fun r hr => by simp at hr⟩
  have h1' : (routesF n).ps ≤ 81 := h2
  have h4' : ((routesF n).rs.length : Int) ≤ (routesF n).ps := h4
  unfold outL
  split
  · simp
  · exact ⟨by omega, fun r hr => Nat.le_trans (h5 r hr) (by omega)⟩
theorem netL_bd (n : Net) : (netL n (outL (routesF n))).length ≤ 1000 ∧ ∀ r ∈ netL n (outL (routesF n)), r.st.length ≤ 1000 := by
  unfold netL
  split
  · exact outL_bd n
  · simp

theorem netE_sigs {n : Net} (h : netE n = 0) : ∀ x ∈ n.sigs, (joinL n.links x.s x.e).isSome = true := by
  have hs : sigsE n = 0 := by
    unfold netE at h
    split at h
    · cases h
    · split at h
      · cases h
      · split at h
        · rename_i h1; exact absurd h h1
        · split at h
          · rename_i h1; exact absurd h h1
          · split at h
            · rename_i h1; exact absurd h h1
            · unfold restE at h
              split at h
              · rename_i h1; exact absurd h h1
              · rename_i h1
                simpa using h1
  intro x hx
  obtain ⟨i, hi⟩ := List.getElem?_of_mem hx
  have := firstE_zero (j := i) hs (Nat.zero_le _) (by have := (List.getElem?_eq_some_iff.1 hi).1; omega)
  unfold sigE at this
  rw [hi] at this
  simp only at this
  split at this
  · cases this
  · split at this
    · cases this
    · rename_i h2
      cases hc : (joinL n.links x.s x.e).isSome with
      | true => rfl
      | false => exact absurd (.inr hc) h2

theorem both_one (n : Net) : netL n (outL (routesF n)) = netL n (outL (routesG n)) ∧ netR n (outE (routesF n)) = netR n (outE (routesG n)) := by
  unfold netL netR
  split
  · rename_i h
    exact eqv_out (eqv_all n n.sigs 0 _ _ (netE_sigs h) ⟨rfl, fun _ => ⟨rfl, rfl⟩⟩)
  · exact ⟨rfl, rfl⟩

end Go.Proofs.YteadhjclchjfjaaGreat

/- Overlaps. -/
namespace Go.Proofs.YteadhjclchjfjaaGreat
set_option linter.unusedSimpArgs false
set_option linter.unusedVariables false
open Go.AB

def out0 (n : Net) (t i : Int) : Int := (outsF (kindAt n t) i).headD 0
def slen (n : Net) (t : Int) : Int := ((n.sects[t.toNat]?).map Sect.len).getD 0
/-- An overlap, of k more steps at most. -/
def overG (n : Net) (st : List Stp) (home : Int) : Nat → List Stp → Int → Int → Int → List Stp
  | 0, l, _, _, _ => l
  | k + 1, l, d, s, e => if d < 50 then match joinL n.links s e with
    | none => l
    | some (t, i) => if psec st t = true ∨ psec l t = true ∨ t = home then l else overG n st home k (l ++ [⟨t, i, out0 n t i⟩]) (d + slen n t) t (out0 n t i)
    else l

theorem out0_at (k e : Int) : (outsF k e)[0]? = some ((outsF k e).headD 0) := by
  cases h : outsF k e with
  | nil => exact absurd h (outsF_ne k e)
  | cons a l => rfl

set_option maxHeartbeats 4000000 in
set_option maxRecDepth 20000 in
theorem f72 (n : Net) (hb : NetB n) (he : netE n = 0) (fr : Nat) (sg : Pair) (hsg : n.sigs[fr]? = some sg) (to : Nat) (st : Pair) (hst : n.sigs[to]? = some st) (p : List Stp) (hp : p.length ≤ 1000) :
    PCall Tryz.prog 72 [eNet n, .agg [.int .i64 fr, .int .i64 to, .sl 3 (p.map dStp) .no]] (RV (.sl 3 ((overG n p sg.s 5 [] 0 st.s st.e).map dStp) .no)) := by
  refine PCall.of_bodyE Tryz.func72 rfl Tryz.ntmps72 (congrArg Array.toList Tryz.results72) ?_
  intro E
  have hflt : fr < n.sigs.length := (List.getElem?_eq_some_iff.1 hsg).1
  have htlt : to < n.sigs.length := (List.getElem?_eq_some_iff.1 hst).1
  have j0 : ((0 : Int) ≤ (fr : Int)) = True := by simp
  have j1 : ((fr : Int) < (n.sigs.length : Int)) = True := by simp; omega
  have k0 : ((0 : Int) ≤ (to : Int)) = True := by simp
  have k1 : ((to : Int) < (n.sigs.length : Int)) = True := by simp; omega
  have k2 : ((to : Int) < 0) = False := by simp
  have hs2 : (n.sigs.map dPair)[fr]? = some (dPair sg) := by rw [List.getElem?_map, hsg]; rfl
  have ht2 : (n.sigs.map dPair)[to]? = some (dPair st) := by rw [List.getElem?_map, hst]; rfl
  simp only [go_sem, eNet, nCells, k0, k1, k2, ht2, hst, Option.map_some, dPair]
  generalize hF : overG n p sg.s 5 [] 0 st.s st.e = F
  refine AW_loopH [5, 7, 8, 9, 10, 11, 21, 22, 23, 24, 25, 26, 27, 28, 29, 30, 31, 32, 33, 34, 35, 36, 37, 38, 39, 40, 41, 42, 43, 44, 45, 46, 47, 48, 49, 50, 51, 52, 53, 54, 55, 56, 57, 58, 59, 60, 61, 62, 63, 64, 65, 66, 67, 68, 69, 70, 71, 72, 73, 74, 75, 76, 77, 78, 79, 80, 81, 82, 83, 84, 85]
    (fun (k : Nat) ρ m => ∃ l tok d s e h nx lv, ρ 5 = .sl 3 (l.map dStp) tok ∧ ρ 7 = .int .i64 d ∧ m = ⟨h, [], nx, lv⟩ ∧ AB.hget h 2 = some (0, [.sl 1 (n.names.map DV.str) .no, .sl 7 (n.sects.map dSect) .no, .sl 4 (n.links.map dLnk) .no, .sl 2 (n.sigs.map dPair) .no, .sl 2 (n.gates.map dPair) .no]) ∧
      AB.hget h 3 = some (0, [.int .i64 fr, .int .i64 to, .sl 3 (p.map dStp) .no]) ∧ AB.hget h 6 = some (0, [.int .i64 s, .int .i64 e]) ∧ okT m tok ∧ 0 ≤ d ∧ d ≤ 3050 ∧ 50 ≤ d + 10 * k ∧ l.length + k = 5 ∧ overG n p sg.s k l d s e = F) (fun k => k) 5 ?_ ?_
  · simp only [go_sem]
    exact ⟨[], .nil, 0, st.s, st.e, _, _, _, ⟨rfl, rfl⟩, rfl, rfl, by simp [go_sem], by simp [go_sem], by simp [go_sem], trivial, by omega, by omega, by omega, rfl, hF⟩
  rintro k ρ m ⟨l, tok, d, s, e, h, nx, lv, e5, e7, rfl, b2, b3, b6, hok, d1, d2, d3, d4, g5⟩ Q hN hR hX
  by_cases hd : d < 50
  · obtain ⟨k, rfl⟩ : ∃ k', k = k' + 1 := ⟨k - 1, by omega⟩
    have hd' : (d < 50) = True := eq_true hd
    simp only [overG, if_pos hd] at g5
    simp only [go_sem, e5, e7, hd', b2, b6]
    refine callVt (f66 n s e hb) ?_
    intro nx1 lv1 hn1 hl1
    have hok1 : okT ⟨[], [], nx1, lv1⟩ tok := okT_mono hok hl1
    cases hj : joinL n.links s e with
    | none =>
      rw [hj] at g5
      simp only at g5
      subst g5
      simp only [go_sem, hj, Option.isSome_none, e5, hX]
    | some q =>
      obtain ⟨t, i⟩ := q
      rw [hj] at g5
      simp only at g5
      have hfl := joinL_has he hj
      obtain ⟨⟨q1, q2⟩, q3, q4⟩ := hasF_iff.1 hfl
      have hltt : t.toNat < n.sects.length := by omega
      obtain ⟨c, hc⟩ : ∃ c, n.sects[t.toNat]? = some c := ⟨_, List.getElem?_eq_getElem hltt⟩
      have hc2 : (n.sects.map dSect)[t.toNat]? = some (dSect c) := by rw [List.getElem?_map, hc]; rfl
      have hkd : kindAt n t = c.kind := by simp [kindAt, hc]
      have hsl : slen n t = c.len := by simp [slen, hc]
      have hln := netE_lens he c (List.mem_of_getElem? hc)
      have hkc := netE_kinds he c (List.mem_of_getElem? hc)
      have i1 : ((0 : Int) ≤ t) = True := eq_true q1
      have i2 : (t < (n.sects.length : Int)) = True := eq_true (by omega)
      simp only [go_sem, hj, Option.isSome_some, joinS, joinE, b3]
      refine callVt (f68 p t (by omega)) ?_
      intro nx2 lv2 hn2 hl2
      have hok2 : okT ⟨[], [], nx2, lv2⟩ tok := okT_mono hok1 hl2
      by_cases a1 : psec p t = true
      · rw [if_pos (.inl a1)] at g5
        subst g5
        simp only [go_sem, a1, e5, b2, b3, j0, j1, hs2, hsg, Option.map_some, dPair, hX]
      have a1 : psec p t = false := by simpa using a1
      simp only [go_sem, a1, e5]
      refine callVt (f68 l t (by omega)) ?_
      intro nx3 lv3 hn3 hl3
      have hok3 : okT ⟨[], [], nx3, lv3⟩ tok := okT_mono hok2 hl3
      by_cases a2 : psec l t = true
      · rw [if_pos (.inr (.inl a2))] at g5
        subst g5
        simp only [go_sem, a1, a2, e5, b2, b3, j0, j1, hs2, hsg, Option.map_some, dPair, hX]
      have a2 : psec l t = false := by simpa using a2
      by_cases a3 : t = sg.s
      · rw [if_pos (.inr (.inr a3))] at g5
        subst g5
        have a3' : (t = sg.s) = True := eq_true a3
        simp only [go_sem, a1, a2, a3', e5, b2, b3, j0, j1, hs2, hsg, Option.map_some, dPair, hX]
      have a3' : (t = sg.s) = False := eq_false a3
      rw [if_neg (by simp [a1, a2, a3])] at g5
      simp only [go_sem, a1, a2, a3', e5, b2, b3, j0, j1, hs2, hsg, Option.map_some, dPair, i1, i2, hc, hc2, dSect]
      refine callVt (f69 c.kind i hkc.1 hkc.2 q3 (by rw [← hkd]; omega)) ?_
      intro nx4 lv4 hn4 hl4
      have hok4 : okT ⟨[], [], nx4, lv4⟩ tok := okT_mono hok3 hl4
      have ho := out0_at c.kind i
      have ho' : out0 n t i = (outsF c.kind i).headD 0 := by simp [out0, hkd]
      rw [ho', hsl] at g5
      generalize (outsF c.kind i).headD 0 = o at ho g5
      have ho2 : ((outsF c.kind i).map fun x => DV.int .i64 x)[0]? = some (.int .i64 o) := by rw [List.getElem?_map, ho]; rfl
      have hlen : (0 : Int) < ((outsF c.kind i).length : Int) := by
        have := (List.getElem?_eq_some_iff.1 ho).1
        omega
      have hlen' : ((0 : Int) < ((outsF c.kind i).length : Int)) = True := eq_true hlen
      have ew : IntKind.i64.wrap (d + c.len) = d + c.len := i64_in (by omega) (by omega)
      obtain ⟨g11, hg11⟩ : ∃ g11, genO (AB.hget h 11) = g11 := ⟨_, rfl⟩
      simp only [go_sem, lInts, e5, e7, ho, ho2, hlen', Option.map_some, b2, b3, b6, i1, i2, hc, hc2, dSect, ew, hg11]
      refine ⟨okT_mono hok4 fun j x => .inr x, by omega, ?_⟩
      rw [hN]
      refine ⟨by kernel_rfl, k, ?_, by simp only; omega⟩
      have hl2 : l.map dStp ++ [DV.agg [.int .i64 t, .int .i64 i, .int .i64 o]] = (l ++ [(⟨t, i, o⟩ : Stp)]).map dStp := by simp [dStp]
      rw [hl2]
      simp only [go_sem]
      refine ⟨l ++ [⟨t, i, o⟩], .own (nx4 + 1), d + c.len, t, o, _, _, _, ⟨rfl, rfl⟩, rfl, rfl, ?_, ?_, ?_, .inl rfl, by omega, by omega, by omega, by simp only [List.length_append, List.length_singleton]; omega, g5⟩
      · simp [go_sem, b2]
      · simp [go_sem, b3]
      · simp [go_sem, b6]
  · have hd' : (d < 50) = False := eq_false hd
    have : overG n p sg.s k l d s e = l := by cases k <;> simp [overG, hd]
    rw [this] at g5
    subst g5
    simp only [go_sem, e5, e7, hd', hX]
end Go.Proofs.YteadhjclchjfjaaGreat

/- Overlaps, the program's. -/
namespace Go.Proofs.YteadhjclchjfjaaGreat
set_option linter.unusedSimpArgs false
set_option linter.unusedVariables false
open Go.AB

theorem exC_rangeFunc {P : Go.Program} {E : Env} {g : Operand} {ps : Array Tmp} {a b : Code} {σ : AS} {Q : Exit → AS → Prop} : exC P E (.rangeFunc g ps a b) σ Q = AW P E (.rangeFunc g ps a b) Q σ := by
  unfold exC
  rfl

/-- What the range over walk keeps to, and how it is left. -/
def NetBox (n : Net) (fr to : Nat) (p : List Stp) (s e : Int) (h : List (Nat × Nat × List AV)) : Prop :=
  AB.hget h 2 = some (0, [.sl 1 (n.names.map DV.str) .no, .sl 7 (n.sects.map dSect) .no, .sl 4 (n.links.map dLnk) .no, .sl 2 (n.sigs.map dPair) .no, .sl 2 (n.gates.map dPair) .no]) ∧
      AB.hget h 3 = some (0, [.int .i64 fr, .int .i64 to, .sl 3 (p.map dStp) .no]) ∧ AB.hget h 6 = some (0, [.int .i64 s, .int .i64 e])
def JO (n : Net) (fr to : Nat) (p : List Stp) (s e : Int) (g8 g9 : Nat) (tok : Tok) (j : Nat) (m : AH) : Prop :=
  j = 0 ∧ ∃ h nx lv, m = ⟨h, [], nx, lv⟩ ∧ NetBox n fr to p s e h ∧ AB.hget h 8 = some (g8, [.int .i64 0, .int .i64 0, .int .i64 0]) ∧ AB.hget h 9 = some (g9, [.bool false]) ∧ okT m tok
def XO (n : Net) (fr to : Nat) (p : List Stp) (s e : Int) (g8 g9 : Nat) (tok : Tok) (c : Code) (m : AH) : Prop :=
  c = .exit 2 ∧ ∃ x h nx lv, (walkS n s e)[0]? = some x ∧ m = ⟨h, [], nx, lv⟩ ∧ NetBox n fr to p s e h ∧ AB.hget h 8 = some (g8, [.int .i64 x.s, .int .i64 x.i, .int .i64 x.o]) ∧ AB.hget h 9 = some (g9, [.bool true]) ∧ okT m tok

set_option maxHeartbeats 4000000 in
set_option maxRecDepth 20000 in
theorem f91 (n : Net) (hb : NetB n) (he : netE n = 0) (fr : Nat) (sg : Pair) (hsg : n.sigs[fr]? = some sg) (to : Nat) (st : Pair) (hst : n.sigs[to]? = some st) (p : List Stp) (hp : p.length ≤ 1000) :
    PCall Tryz.prog 91 [eNet n, .agg [.int .i64 fr, .int .i64 to, .sl 3 (p.map dStp) .no]] (RV (.sl 3 ((overG n p sg.s 5 [] 0 st.s st.e).map dStp) .no)) := by
  refine PCall.of_bodyRE Tryz.func91 rfl Tryz.ntmps91 (congrArg Array.toList Tryz.results91) ?_
  intro E hE
  have hflt : fr < n.sigs.length := (List.getElem?_eq_some_iff.1 hsg).1
  have htlt : to < n.sigs.length := (List.getElem?_eq_some_iff.1 hst).1
  have j0 : ((0 : Int) ≤ (fr : Int)) = True := by simp
  have j1 : ((fr : Int) < (n.sigs.length : Int)) = True := by simp; omega
  have k0 : ((0 : Int) ≤ (to : Int)) = True := by simp
  have k1 : ((to : Int) < (n.sigs.length : Int)) = True := by simp; omega
  have k2 : ((to : Int) < 0) = False := by simp
  have hs2 : (n.sigs.map dPair)[fr]? = some (dPair sg) := by rw [List.getElem?_map, hsg]; rfl
  have ht2 : (n.sigs.map dPair)[to]? = some (dPair st) := by rw [List.getElem?_map, hst]; rfl
  refine AW_of ?_
  simp only [go_sem, eNet, nCells, k0, k1, k2, ht2, hst, Option.map_some, dPair]
  generalize hF : overG n p sg.s 5 [] 0 st.s st.e = F
  refine drawnP [2, 2, 2, 2, 2, 2, 2, 2, 2, 2, 2, 2, 2, 2, 2, 3, 1] [(15, [2, 2, 2, 2, 2, 2, 2, 2, 2, 2, 2, 2, 2, 2, 2, 0, 3]), (16, [0, 0, 0, 0, 0, 0, 0, 0, 0, 0, 0, 0, 0, 0, 0, 0, 0])] 83 (by kernel_rfl) (by kernel_rfl) (by kernel_rfl) (by kernel_rfl) rfl ?_
  simp only [go_sem, k0, k1, ht2, hst, Option.map_some, dPair]
  intros
  refine AW_loopH [5, 7, 8, 9, 10, 29, 30, 31, 32, 33, 34, 35, 36, 37, 38, 39, 40, 41, 42, 43, 44, 45, 46, 47, 48, 49, 50, 51, 52, 53, 54, 55, 56, 57, 58, 59, 60, 61, 62, 63, 64, 65, 66, 67, 68, 69, 70, 71, 72, 73, 74, 75, 76, 77, 78, 79, 80, 81]
    (fun (k : Nat) ρ m => ∃ l tok d s e h nx lv, ρ 5 = .sl 3 (l.map dStp) tok ∧ ρ 7 = .int .i64 d ∧ m = ⟨h, [], nx, lv⟩ ∧ AB.hget h 2 = some (0, [.sl 1 (n.names.map DV.str) .no, .sl 7 (n.sects.map dSect) .no, .sl 4 (n.links.map dLnk) .no, .sl 2 (n.sigs.map dPair) .no, .sl 2 (n.gates.map dPair) .no]) ∧
      AB.hget h 3 = some (0, [.int .i64 fr, .int .i64 to, .sl 3 (p.map dStp) .no]) ∧ AB.hget h 6 = some (0, [.int .i64 s, .int .i64 e]) ∧ okT m tok ∧ 0 ≤ d ∧ d ≤ 3050 ∧ 50 ≤ d + 10 * k ∧ l.length + k = 5 ∧ overG n p sg.s k l d s e = F) (fun k => k) 5 ?_ ?_
  · simp only [go_sem]
    exact ⟨[], .nil, 0, st.s, st.e, _, _, _, ⟨rfl, rfl⟩, rfl, rfl, by simp [go_sem], by simp [go_sem], by simp [go_sem], trivial, by omega, by omega, by omega, rfl, hF⟩
  rintro k ρ m ⟨l, tok, d, s, e, h, nx, lv, e5, e7, rfl, b2, b3, b6, hok, d1, d2, d3, d4, g5⟩ Q hN hR hX
  by_cases hd : d < 50
  · obtain ⟨k, rfl⟩ : ∃ k', k = k' + 1 := ⟨k - 1, by omega⟩
    have hd' : (d < 50) = True := eq_true hd
    simp only [overG, if_pos hd] at g5
    obtain ⟨g8, hg8⟩ : ∃ g8, genO (AB.hget h 8) = g8 := ⟨_, rfl⟩
    obtain ⟨g9, hg9⟩ : ∃ g9, genO (AB.hget h 9) = g9 := ⟨_, rfl⟩
    simp only [go_sem, e5, e7, hd', b2, b6, hg8, hg9]
    refine callVt (f119 n s e) ?_
    intro nx1 lv1 hn1 hl1
    have hok1 : okT ⟨[], [], nx1, lv1⟩ tok := okT_mono hok hl1
    simp only [go_sem]
    rw [exC_rangeFunc]
    refine AW_range hE (by first | rfl | (simp only [go_sem]; rfl)) bodyOk_135 (f135 n s e hb he) ?_ (JO n fr to p s e g8 g9 tok) (XO n fr to p s e g8 g9 tok) ?_ ?_ ?_ ?_ ?_
    · intro x hx
      simp only [walkX, List.mem_map] at hx
      obtain ⟨_, _, rfl⟩ := hx
      rfl
    · rintro j h0 o0 nx0 lv0 nx1 lv1 ⟨hj, h, nx2, lv2, e, b, c8, c9, hok⟩ _ hl
      cases e
      exact ⟨hj, _, _, _, rfl, b, c8, c9, okT_mono hok (fun j x => hl j x)⟩
    · exact ⟨rfl, _, _, _, rfl, ⟨by simp [go_sem, b2], by simp [go_sem, b3], by simp [go_sem, b6]⟩, by simp [go_sem], by simp [go_sem], okT_mono hok1 fun _ x => x⟩
    · rintro j x m' hx ⟨rfl, h2, nx5, lv5, rfl, ⟨c2, c3, c6⟩, c8, c9, hok5⟩ E1
      simp only [walkX, List.getElem?_map] at hx
      obtain ⟨y, hy, rfl⟩ := Option.map_eq_some_iff.1 hx
      refine AW_of ?_
      simp only [go_sem, eStp]
      intro E2
      refine AW_of ?_
      simp only [go_sem, c8, c9]
      refine ⟨rfl, y, _, _, _, hy, rfl, ⟨?_, ?_, ?_⟩, ?_, ?_, okT_mono hok5 fun _ x => x⟩
      · simp [go_sem, c2]
      · simp [go_sem, c3]
      · simp [go_sem, c6]
      · simp [go_sem, c8]
      · simp [go_sem, c9]
    · rintro m' ⟨hz, h2, nx5, lv5, rfl, ⟨c2, c3, c6⟩, c8, c9, hok5⟩
      have hn : joinL n.links s e = none := by
        cases hj : joinL n.links s e with
        | none => rfl
        | some q => simp [walkX, walkS, hj, outsF_ne] at hz
      rw [hn] at g5
      simp only at g5
      subst g5
      simp only [go_sem]
      refine drawn (by kernel_rfl) (by kernel_rfl) ?_
      simp only [go_sem, c2, c3, c6, c8, c9, e5, hX]
    · rintro c m' ⟨rfl, y, h2, nx5, lv5, hy, rfl, ⟨c2, c3, c6⟩, c8, c9, hok5⟩
      obtain ⟨t, i, hj, hy2⟩ : ∃ t i, joinL n.links s e = some (t, i) ∧ y = ⟨t, i, out0 n t i⟩ := by
        cases hj : joinL n.links s e with
        | none => simp [walkS, hj] at hy
        | some q =>
          obtain ⟨t, i⟩ := q
          simp only [walkS, hj, List.getElem?_map, out0_at, Option.map_some, Option.some.injEq] at hy
          exact ⟨t, i, rfl, hy.symm⟩
      rw [hj] at g5
      simp only at g5
      have hfl := joinL_has he hj
      obtain ⟨⟨q1, q2⟩, q3, q4⟩ := hasF_iff.1 hfl
      have hltt : t.toNat < n.sects.length := by omega
      obtain ⟨c, hc⟩ : ∃ c, n.sects[t.toNat]? = some c := ⟨_, List.getElem?_eq_getElem hltt⟩
      have hc2 : (n.sects.map dSect)[t.toNat]? = some (dSect c) := by rw [List.getElem?_map, hc]; rfl
      have hsl : slen n t = c.len := by simp [slen, hc]
      have hln := netE_lens he c (List.mem_of_getElem? hc)
      have i1 : ((0 : Int) ≤ t) = True := eq_true q1
      have i2 : (t < (n.sects.length : Int)) = True := eq_true (by omega)
      rw [hsl] at g5
      generalize out0 n t i = o at g5 hy2
      subst hy2
      simp only at c8
      simp only [go_sem]
      refine drawn (by kernel_rfl) (by kernel_rfl) ?_
      simp only [go_sem, c2, c3, c6, c8, c9, e5, hX]
      refine quietD (f89 p t (by omega)) (fun _ => rfl) ?_
      by_cases a1 : psec p t = true
      · rw [if_pos (.inl a1)] at g5
        subst g5
        simp only [go_sem, a1, c2, c3, c8, e5, j0, j1, hs2, hsg, Option.map_some, dPair, hX, kDraw_eq]
      have a1 : psec p t = false := by simpa using a1
      simp only [go_sem, a1, e5, c8]
      refine quietD (f89 l t (by omega)) (fun _ => rfl) ?_
      by_cases a2 : psec l t = true
      · rw [if_pos (.inr (.inl a2))] at g5
        subst g5
        simp only [go_sem, a1, a2, c2, c3, c8, e5, j0, j1, hs2, hsg, Option.map_some, dPair, hX, kDraw_eq]
      have a2 : psec l t = false := by simpa using a2
      by_cases a3 : t = sg.s
      · rw [if_pos (.inr (.inr a3))] at g5
        subst g5
        have a3' : (t = sg.s) = True := eq_true a3
        simp only [go_sem, a1, a2, a3', c2, c3, c8, e5, j0, j1, hs2, hsg, Option.map_some, dPair, hX, kDraw_eq]
      have a3' : (t = sg.s) = False := eq_false a3
      rw [if_neg (by simp [a1, a2, a3])] at g5
      have ew : IntKind.i64.wrap (d + c.len) = d + c.len := i64_in (by omega) (by omega)
      simp only [go_sem, a1, a2, a3', c2, c3, c6, c8, e5, e7, j0, j1, hs2, hsg, Option.map_some, dPair, i1, i2, hc, hc2, dSect, ew, kDraw_eq]
      intro nx6 lv6 hn6 hl6
      refine ⟨okT_mono hok5 fun j x => .inr (hl6 j x), by omega, ?_⟩
      rw [hN]
      refine ⟨by kernel_rfl, k, ?_, by simp only; omega⟩
      have hl2 : l.map dStp ++ [DV.agg [.int .i64 t, .int .i64 i, .int .i64 o]] = (l ++ [(⟨t, i, o⟩ : Stp)]).map dStp := by simp [dStp]
      rw [hl2]
      simp only [go_sem]
      refine ⟨l ++ [⟨t, i, o⟩], .own (nx6 + 1), d + c.len, t, o, _, _, _, ⟨rfl, rfl⟩, rfl, rfl, ?_, ?_, ?_, .inl rfl, by omega, by omega, by omega, by simp only [List.length_append, List.length_singleton]; omega, g5⟩
      · simp [go_sem, c2]
      · simp [go_sem, c3]
      · simp [go_sem, c6]
  · have hd' : (d < 50) = False := eq_false hd
    have : overG n p sg.s k l d s e = l := by cases k <;> simp [overG, hd]
    rw [this] at g5
    subst g5
    simp only [go_sem, e5, e7, hd', hX]
end Go.Proofs.YteadhjclchjfjaaGreat

/- Overlaps of routes that go out: none. -/
namespace Go.Proofs.YteadhjclchjfjaaGreat
set_option linter.unusedSimpArgs false
set_option linter.unusedVariables false
open Go.AB

theorem f72n (n : Net) (fr to : Int) (hto : to < 0) (p : List Stp) : PCall Tryz.prog 72 [eNet n, .agg [.int .i64 fr, .int .i64 to, .sl 3 (p.map dStp) .no]] (RV (.sl 3 [] .no)) := by
  refine PCall.of_bodyE Tryz.func72 rfl Tryz.ntmps72 (congrArg Array.toList Tryz.results72) ?_
  intro E
  have h : (to < 0) = True := eq_true hto
  simp only [go_sem, eNet, nCells, h]

theorem f91n (n : Net) (fr to : Int) (hto : to < 0) (p : List Stp) : PCall Tryz.prog 91 [eNet n, .agg [.int .i64 fr, .int .i64 to, .sl 3 (p.map dStp) .no]] (RV (.sl 3 [] .no)) := by
  refine PCall.of_bodyE Tryz.func91 rfl Tryz.ntmps91 (congrArg Array.toList Tryz.results91) ?_
  intro E
  have h : (to < 0) = True := eq_true hto
  simp only [go_sem, eNet, nCells, h]
end Go.Proofs.YteadhjclchjfjaaGreat

/- Needs: positions. -/
namespace Go.Proofs.YteadhjclchjfjaaGreat
set_option linter.unusedSimpArgs false
set_option linter.unusedVariables false
open Go.AB

/-- The position of points over which a step goes. -/
def posF (n : Net) (x : Stp) : Int := if kindAt n x.s = 2 then max x.i x.o else 0

set_option maxHeartbeats 1000000 in
theorem f73 (n : Net) (hb : NetB n) (x : Stp) (h0 : 0 ≤ x.s) (h1 : x.s < n.sects.length) : PCall Tryz.prog 73 [eNet n, eStp x] (RV (.int .i64 (posF n x))) := by
  refine PCall.of_body Tryz.func73 rfl Tryz.ntmps73 (congrArg Array.toList Tryz.results73) ?_
  intro E
  obtain ⟨c, hc⟩ : ∃ c, n.sects[x.s.toNat]? = some c := ⟨_, List.getElem?_eq_getElem (by omega)⟩
  have hc2 : (n.sects.map dSect)[x.s.toNat]? = some (dSect c) := by rw [List.getElem?_map, hc]; rfl
  have hk : kindAt n x.s = c.kind := by simp [kindAt, hc]
  have i1 : ((0 : Int) ≤ x.s) = True := eq_true h0
  have i2 : (x.s < (n.sects.length : Int)) = True := eq_true h1
  simp only [go_sem, eNet, nCells, eStp, i1, i2, hc, hc2, Option.map_some, dSect, posF, hk]
  exact ⟨fun h => by simp [h], fun h => by simp [h]⟩

set_option maxHeartbeats 1000000 in
theorem f94 (n : Net) (hb : NetB n) (x : Stp) (h0 : 0 ≤ x.s) (h1 : x.s < n.sects.length) : PCall Tryz.prog 94 [eNet n, eStp x] (RV (.int .i64 (posF n x))) := by
  refine PCall.of_body Tryz.func94 rfl Tryz.ntmps94 (congrArg Array.toList Tryz.results94) ?_
  intro E
  obtain ⟨c, hc⟩ : ∃ c, n.sects[x.s.toNat]? = some c := ⟨_, List.getElem?_eq_getElem (by omega)⟩
  have hc2 : (n.sects.map dSect)[x.s.toNat]? = some (dSect c) := by rw [List.getElem?_map, hc]; rfl
  have hk : kindAt n x.s = c.kind := by simp [kindAt, hc]
  have i1 : ((0 : Int) ≤ x.s) = True := eq_true h0
  have i2 : (x.s < (n.sects.length : Int)) = True := eq_true h1
  simp only [go_sem, eNet, nCells, eStp, i1, i2, hc, hc2, Option.map_some, dSect, posF, hk]
  exact ⟨fun h => by simp [h], fun h => by simp [h]⟩
end Go.Proofs.YteadhjclchjfjaaGreat
