/- Routes: the reference's search. -/
import Derived.Test.YteadhjclchjfjaaL14
namespace Go.Proofs.Yteadhjclchjfjaa
set_option linter.unusedSimpArgs false
set_option linter.unusedVariables false
open Go.AB

/-- What the reference's search keeps to. -/
def FG (f : Fd) (b : Int) : Prop := 0 ≤ f.ps ∧ f.ps ≤ b ∧ (f.rs.length : Int) ≤ f.ps ∧ (f.lg = false → f.ps ≤ 80)
theorem FG.mono {f : Fd} {b c : Int} (h : FG f b) (hc : b ≤ c) : FG f c := ⟨h.1, by have := h.2.1; omega, h.2.2⟩
theorem FG.low {f : Fd} {b : Int} (h : FG f b) (hl : f.lg = false) : FG f 80 := ⟨h.1, h.2.2.2 hl, h.2.2⟩
theorem endF_FG {f : Fd} {r : Rt} {x : Bool} {b : Int} (h : FG f b) : FG (endF f r x) (b + 1) := by
  obtain ⟨h1, h2, h3, h4⟩ := h
  refine ⟨by simp only [endF]; omega, by simp only [endF]; omega, ?_, fun hl => ?_⟩
  · simp only [endF]
    cases x
    · simp; omega
    · simp; omega
  · simp only [endF, Bool.or_eq_false_iff, decide_eq_false_iff_not] at hl ⊢
    omega
theorem outG_FG {g : Rt → Int → Int → Fd → Fd} {n : Net} {r : Rt} {t i c : Int} (hg : ∀ r s e f b, c ≤ b → FG f b → FG (g r s e f) b) : ∀ (l : List Int) (f : Fd) (b : Int), c ≤ b → FG f b → FG (outG g n r t i l f) (b + l.length)
  | [], f, b, _, h => by simpa [outG] using h
  | o :: l, f, b, hb, h => by
    rw [outG_cons]
    have : FG (if 0 ≤ sigIdx n.sigs t o 0 then endF f ⟨r.fr, sigIdx n.sigs t o 0, r.st ++ [⟨t, i, o⟩]⟩ true else g ⟨r.fr, r.to, r.st ++ [⟨t, i, o⟩]⟩ t o f) (b + 1) := by
      split
      · exact endF_FG h
      · exact (hg _ _ _ _ _ hb h).mono (by omega)
    exact (outG_FG hg l _ _ (by omega) this).mono (by simp; omega)
theorem followF_FG {n : Net} {home : Int} : ∀ (k : Nat) (r : Rt) (s e : Int) (f : Fd) (b : Int), 81 + 2 * (k : Int) ≤ b → FG f b → FG (followF n home k r s e f) b
  | 0, _, _, _, _, _, _, h => h
  | k + 1, r, s, e, f, b, hb, h => by
    unfold followF
    split
    · exact h
    · rename_i hl
      have hlow := h.low (by simpa using hl)
      split
      · exact (endF_FG hlow).mono (by omega)
      · rename_i t i _
        split
        · exact (endF_FG hlow).mono (by omega)
        · split
          · exact ⟨hlow.1, by have := hlow.2.1; simp only; omega, hlow.2.2.1, fun hh => by cases hh⟩
          · have := outG_FG (g := followF n home k) (n := n) (r := r) (t := t) (i := i) (c := 81 + 2 * (k : Int)) (fun r s e f b hb h => followF_FG k r s e f b hb h) (outsF (kindAt n t) i) f (81 + 2 * k) (by omega) (hlow.mono (by omega))
            have hle := outsF_len (kindAt n t) i
            exact this.mono (by omega)

theorem callFd {k : Nat} {bs args : List AV} {σ : AS} {dst : Option Nat} {K : AS → Prop} {g : Fd} (h : QCall Try.prog k ⟨[], [], σ.m.nx, σ.m.lv⟩ args (outFd g)) (h1 : rnAL (outF []) args = some args)
    (hK : ∀ tok' nx2 lv2, okN nx2 lv2 tok' → K (AS.put ⟨σ.s, ⟨σ.m.h, σ.m.o, nx2, lv2⟩⟩ dst (eFd g tok'))) : callX Try.prog k bs args σ dst K := by
  refine callX.own h1 h ?_
  rintro m' r ⟨ho, tok, rfl, hok⟩
  exact ⟨ho, eFd g tok, rfl, hK tok _ _ hok⟩

set_option maxHeartbeats 4000000 in
set_option maxRecDepth 20000 in
theorem f110 (n : Net) (hb : NetB n) (he : netE n = 0) (fr : Nat) (sg : Pair) (hsg : n.sigs[fr]? = some sg) : ∀ (k : Nat) (f : Fd) (r : Rt) (tok tk : Tok) (s e : Int) (nx : Nat) (lv : Nat → Prop), k ≤ 20 → r.fr = fr → r.st.length ≤ 16 → 17 ≤ r.st.length + k → FG f 300 → okT ⟨[], [], nx, lv⟩ tok →
    QCall Try.prog 110 ⟨[], [], nx, lv⟩ [eFd f tok, eNet n, eRt r tk, .int .i64 s, .int .i64 e] (outFd (followF n sg.s k r s e f)) := by
  intro k
  induction k with
  | zero => intro f r tok tk s e nx lv h0 h1 h2 h3; omega
  | succ k ih =>
    intro f r tok tk s e nx lv hk hfr h1 h2 hf hok
    obtain ⟨rfr, rto, rst⟩ := r
    simp only at hfr h1 h2
    subst hfr
    refine QCall.lt fun hlt => ?_
    simp only at hlt
    refine QCall.of_bodyR Try.func110 rfl Try.ntmps110 (congrArg Array.toList Try.results110) ?_
    intro E hE
    refine AW_of ?_
    simp only [go_sem, eFd, eRt, eNet, nCells]
    refine callVt (f77 n s e hb) ?_
    intro nx1 lv1 hn1 hl1
    unfold followF
    simp only [go_sem]
    have hok0 : okN nx lv tok := okN.of hok hlt
    have hok1 : okN nx1 lv1 tok := hok0.mono hn1 hl1
    refine ⟨fun hl => ?_, fun hl => ?_⟩
    · rw [if_pos hl]
      exact ⟨rfl, tok, rfl, hok1⟩
    have hlow := hf.low hl
    obtain ⟨p1, p2, p3, p4⟩ := hlow
    rw [if_neg (by rw [hl]; simp)]
    cases hj : joinL n.links s e with
    | none =>
      refine ⟨fun hj1 => ?_, fun hj1 => absurd hj1 (by simp)⟩
      refine callFd (f131 f ⟨fr, -1, rst⟩ true tok tk nx1 lv1 p1 (by omega) (by omega) (by simp only; omega) hok1.t) rfl ?_
      intro tok2 nx2 lv2 hok2
      simp only [go_sem, eFd]
      exact ⟨rfl, tok2, rfl, hok2⟩
    | some q =>
      obtain ⟨t, i⟩ := q
      refine ⟨fun hj1 => absurd hj1 (by simp), fun hj1 => ?_⟩
      have hfl := joinL_has he hj
      obtain ⟨⟨q1, q2⟩, q3, q4⟩ := hasF_iff.1 hfl
      have hltt : t.toNat < n.sects.length := by omega
      obtain ⟨c, hc⟩ : ∃ c, n.sects[t.toNat]? = some c := ⟨_, List.getElem?_eq_getElem hltt⟩
      have hc2 : (n.sects.map dSect)[t.toNat]? = some (dSect c) := by rw [List.getElem?_map, hc]; rfl
      have hkd : kindAt n t = c.kind := by simp [kindAt, hc]
      have i1 : ((0 : Int) ≤ t) = True := eq_true q1
      have i2 : (t < (n.sects.length : Int)) = True := eq_true (by omega)
      have hflt : fr < n.sigs.length := (List.getElem?_eq_some_iff.1 hsg).1
      have j0 : ((0 : Int) ≤ (fr : Int)) = True := by simp
      have j1 : ((fr : Int) < (n.sigs.length : Int)) = True := by simp; omega
      have hs2 : (n.sigs.map dPair)[fr]? = some (dPair sg) := by rw [List.getElem?_map, hsg]; rfl
      simp only [go_sem, joinS, joinE, j0, j1, hs2, hsg, Option.map_some, dPair, Option.isSome_some]
      refine ⟨fun g1 => ?_, fun g1 => ?_⟩
      · rw [if_pos (.inl g1)]
        refine callFd (f131 f ⟨fr, rto, rst⟩ false tok tk nx1 lv1 p1 (by omega) (by omega) (by simp only; omega) hok1.t) rfl ?_
        intro tok2 nx2 lv2 hok2
        simp only [go_sem, eFd]
        exact ⟨rfl, tok2, rfl, hok2⟩
      · refine callVt (f78 rst t (by omega)) ?_
        intro nx2 lv2 hn2 hl2
        have hok2 : okN nx2 lv2 tok := hok1.mono hn2 hl2
        cases hps : psec rst t with
        | true =>
          rw [if_pos (.inr rfl)]
          simp only [go_sem]
          refine callFd (f131 f ⟨fr, rto, rst⟩ false tok tk nx2 lv2 p1 (by omega) (by omega) (by simp only; omega) hok2.t) rfl ?_
          intro tok2 nx2 lv2 hok2
          simp only [go_sem, eFd]
          exact ⟨rfl, tok2, rfl, hok2⟩
        | false =>
          rw [if_neg (by simp [g1])]
          simp only [go_sem]
          refine ⟨fun h16 => ?_, fun h16 => ?_⟩
          · rw [if_pos (by omega)]
            exact ⟨rfl, tok, rfl, hok2⟩
          rw [if_neg (by omega)]
          have hkc := netE_kinds he c (List.mem_of_getElem? hc)
          simp only [go_sem, i1, i2, hc, Option.map_some, dSect]
          refine callVt (f76 c.kind i hkc.1 hkc.2 q3 (by rw [← hkd]; omega)) ?_
          intro nx3 lv3 hn3 hl3
          have hok3 : okN nx3 lv3 tok := hok2.mono hn3 hl3
          rw [hkd]
          have hle := outsF_len c.kind i
          generalize outsF c.kind i = os at hle ⊢
          generalize hF : outG (followF n sg.s k) n ⟨fr, rto, rst⟩ t i os f = F
          simp only [go_sem, lInts]
          refine AW_loopH [15, 16, 17, 68, 69, 70, 71, 72, 73, 74, 75, 76, 77, 78, 79, 80, 81, 82, 83, 84, 85, 86, 87, 88, 89, 90, 91, 92, 93, 94, 95, 96, 97, 98, 99, 100, 101]
            (fun (j : Nat) ρ m => ρ 68 = .int .i64 (j : Int) ∧ j ≤ os.length ∧ ∃ h nx lv tok f, m = ⟨h, [], nx, lv⟩ ∧ AB.hget h 5 = some (0, [.sl 3 (f.rs.map dRt) tok, .int .i64 f.ps, .bool f.lg]) ∧ AB.hget h 6 = some (0, [.sl 1 (n.names.map DV.str) .no, .sl 7 (n.sects.map dSect) .no, .sl 4 (n.links.map dLnk) .no, .sl 2 (n.sigs.map dPair) .no, .sl 2 (n.gates.map dPair) .no]) ∧ AB.hget h 7 = some (0, [.int .i64 fr, .int .i64 rto, .sl 3 (rst.map dStp) tk]) ∧
              AB.hget h 10 = some (0, [.sl 3 [] .nil, .int .i64 0, .bool false]) ∧ okN nx lv tok ∧ FG f (81 + 2 * k + j) ∧ outG (followF n sg.s k) n ⟨fr, rto, rst⟩ t i (os.drop j) f = F) (fun j => os.length - j) 0 ?_ ?_
          · simp only [go_sem]
            refine ⟨Nat.zero_le _, _, _, _, tok, f, rfl, ?_, ?_, ?_, ?_, hok3, ⟨p1, by omega, p3, p4⟩, hF⟩
            · simp [go_sem]
            · simp [go_sem]
            · simp [go_sem]
            · simp [go_sem]
          rintro j ρ m ⟨e68, g2, h, nx4, lv4, tok4, f4, rfl, b5, b6, b7, b10, hok4, hg4, g5⟩ Q hN hR hX
          by_cases hlt : j < os.length
          · obtain ⟨o, ho⟩ : ∃ o, os[j]? = some o := ⟨_, List.getElem?_eq_getElem hlt⟩
            have hlt' : ((j : Int) < (os.length : Int)) = True := by simp; omega
            have h0 : ((0 : Int) ≤ (j : Int)) = True := by simp
            have ew : IntKind.i64.wrap ((j : Int) + 1) = (j : Int) + 1 := i64_in (by omega) (by omega)
            have hd : os.drop j = o :: os.drop (j + 1) := by
              rw [List.drop_eq_getElem_cons hlt]
              rw [List.getElem?_eq_getElem hlt] at ho
              cases ho; rfl
            rw [hd, outG_cons] at g5
            obtain ⟨g16, hg16⟩ : ∃ g16, genO (AB.hget h 16) = g16 := ⟨_, rfl⟩
            simp only [go_sem, e68, hlt', h0, ho, Option.map_some, b7, b5, b6, hg16]
            refine ⟨.inl trivial, by omega, .inr (.inl trivial), by omega, ?_⟩
            refine callVt (f121 n t o hb) ?_
            intro nx5 lv5 hn5 hl5
            have hok5 : okN nx5 lv5 tok4 := hok4.new (by simp only at hn5; omega) fun j hj x => hl5 j (by simp only; right; constructor; right; right; constructor; right; exact x; omega; omega)
            have hrt : rst.map dStp ++ [DV.agg [.int .i64 t, .int .i64 i, .int .i64 o]] = (rst ++ [(⟨t, i, o⟩ : Stp)]).map dStp := by simp [dStp]
            obtain ⟨q1', q2', q3', q4'⟩ := hg4
            simp only [go_sem, b5, b6, hrt]
            refine ⟨fun hs => ?_, fun hs => ?_⟩
            · rw [if_pos (by omega)] at g5
              refine callFd (f131 f4 ⟨fr, sigIdx n.sigs t o 0, rst ++ [(⟨t, i, o⟩ : Stp)]⟩ true tok4 (.own (nx4 + 1 + 1 + 1)) nx5 lv5 q1' (by omega) (by omega) (by simp only [List.length_append, List.length_singleton]; omega) hok5.t) rfl ?_
              intro tok6 nx6 lv6 hok6
              simp only [go_sem, eFd, hN, ew, b5]
              refine ⟨by kernel_rfl, j + 1, ?_, by simp only; omega⟩
              simp only [go_sem]
              refine ⟨by simp, by omega, _, _, _, tok6, endF f4 ⟨fr, sigIdx n.sigs t o 0, rst ++ [(⟨t, i, o⟩ : Stp)]⟩ true, rfl, ?_, ?_, ?_, ?_, hok6, (endF_FG ⟨q1', q2', q3', q4'⟩).mono (by omega), g5⟩
              · simp [go_sem, b5]
              · simp [go_sem, b6]
              · simp [go_sem, b7]
              · simp [go_sem, b10]
            · rw [if_neg (by omega)] at g5
              refine callFd (ih f4 ⟨fr, rto, rst ++ [(⟨t, i, o⟩ : Stp)]⟩ tok4 (.own (nx4 + 1 + 1 + 1)) t o nx5 lv5 (by omega) rfl (by simp only [List.length_append, List.length_singleton]; omega) (by simp only [List.length_append, List.length_singleton]; omega) (FG.mono ⟨q1', q2', q3', q4'⟩ (by omega)) hok5.t) rfl ?_
              intro tok6 nx6 lv6 hok6
              simp only [go_sem, eFd, hN, ew, b5]
              refine ⟨by kernel_rfl, j + 1, ?_, by simp only; omega⟩
              simp only [go_sem]
              refine ⟨by simp, by omega, _, _, _, tok6, followF n sg.s k ⟨fr, rto, rst ++ [(⟨t, i, o⟩ : Stp)]⟩ t o f4, rfl, ?_, ?_, ?_, ?_, hok6, (followF_FG k _ _ _ _ _ (by omega) ⟨q1', q2', q3', q4'⟩).mono (by omega), g5⟩
              · simp [go_sem, b5]
              · simp [go_sem, b6]
              · simp [go_sem, b7]
              · simp [go_sem, b10]
          · have hlt' : ((j : Int) < (os.length : Int)) = False := by simp; omega
            rw [List.drop_eq_nil_of_le (by omega)] at g5
            simp only [outG] at g5
            subst g5
            simp only [go_sem, e68, hlt', hX, b5, b10]
            exact ⟨rfl, tok4, rfl, hok4⟩
end Go.Proofs.Yteadhjclchjfjaa
