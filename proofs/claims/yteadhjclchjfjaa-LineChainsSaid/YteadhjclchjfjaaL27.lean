/- Needs: all of the reference's. -/
import Derived.Test.YteadhjclchjfjaaL24
namespace Go.Proofs.Yteadhjclchjfjaa
set_option linter.unusedSimpArgs false
set_option linter.unusedVariables false
open Go.AB

/-- What the variables of the reference's needs hold. -/
structure NR (n : Net) (r : Rt) (h : List (Nat × Nat × List AV)) : Prop where
  b2 : AB.hget h 2 = some (0, [.sl 1 (n.names.map DV.str) .no, .sl 7 (n.sects.map dSect) .no, .sl 4 (n.links.map dLnk) .no, .sl 2 (n.sigs.map dPair) .no, .sl 2 (n.gates.map dPair) .no])
  b3 : AB.hget h 3 = some (0, [.int .i64 r.fr, .int .i64 r.to, .sl 3 (r.st.map dStp) .no])
theorem NR.other {n : Net} {r : Rt} {h : List (Nat × Nat × List AV)} (b : NR n r h) {t : Nat} (g : Nat) (cs : List AV) (h2 : t ≠ 2) (h3 : t ≠ 3) : NR n r (AB.hset h t g cs) :=
  ⟨by rw [hget_set_ne _ _ _ h2]; exact b.b2, by rw [hget_set_ne _ _ _ h3]; exact b.b3⟩

set_option maxHeartbeats 4000000 in
set_option maxRecDepth 20000 in
theorem f39 (n : Net) (hb : NetB n) (he : netE n = 0) (r : Rt) (hr : RtOk n r) : PCall Try.prog 39 [eNet n, eRt0 r] (RV (.sl 4 ((needsR n r).map dNd) .no)) := by
  refine PCall.of_bodyE Try.func39 rfl Try.ntmps39 (congrArg Array.toList Try.results39) ?_
  intro E
  have hl1 := hr.l1
  have hlap := lapF_len n r
  have hall := lapF_all he r
  generalize hF : needsR n r = F
  unfold needsR needsF at hF
  have h43 := f43r n hb he r hr
  generalize lapF n r = lap at hF hlap hall h43 ⊢
  simp only [go_sem, eNet, nCells, eRt0]
  refine callVt h43 ?_
  intro nx1 lv1 hn1 hl1'
  simp only [go_sem]
  refine AW_loopH [5, 7, 8, 20, 21, 22, 23, 24, 25, 26, 27, 28, 29, 30, 31, 32, 33, 34, 35]
    (fun (i : Nat) ρ m => ρ 20 = .int .i64 (i : Int) ∧ i ≤ r.st.length ∧ ∃ h nx lv tok, ρ 5 = .sl 4 ((tracksF n (r.st.take i) 0).map dNd) tok ∧ m = ⟨h, [], nx, lv⟩ ∧ NR n r h ∧ okT m tok) (fun i => r.st.length - i) 0 ?_ ?_
  · simp only [go_sem]
    exact ⟨Nat.zero_le _, _, _, _, .nil, ⟨rfl, rfl⟩, rfl, ⟨by simp [go_sem], by simp [go_sem]⟩, trivial⟩
  rintro i ρ m ⟨e20, g1, h, nx4, lv4, tok, e5, rfl, b, hok⟩ Q hN hR hX
  by_cases hlt : i < r.st.length
  · obtain ⟨x, hx⟩ : ∃ x, r.st[i]? = some x := ⟨_, List.getElem?_eq_getElem hlt⟩
    have hxp : (r.st.map dStp)[i]? = some (dStp x) := by rw [List.getElem?_map, hx]; rfl
    have hlt' : ((i : Int) < (r.st.length : Int)) = True := by simp; omega
    have h0 : ((0 : Int) ≤ (i : Int)) = True := by simp
    have ew : IntKind.i64.wrap ((i : Int) + 1) = (i : Int) + 1 := i64_in (by omega) (by omega)
    have hxs := (hr.st x (List.mem_of_getElem? hx)).sec
    have htk : r.st.take (i + 1) = r.st.take i ++ [x] := by rw [List.take_add_one, hx]; rfl
    have hlen : (r.st.take i).length = i := by simp; omega
    obtain ⟨g7, hg7⟩ : ∃ g7, genO (AB.hget h 8) = g7 := ⟨_, rfl⟩
    simp only [go_sem, e20, hlt', h0, hx, hxp, Option.map_some, dStp, hg7]
    obtain ⟨h2, hh2⟩ : ∃ h2, AB.hset (AB.hset h 8 g7 [.int .i64 0, .int .i64 0, .int .i64 0]) 8 g7 [.int .i64 x.s, .int .i64 x.i, .int .i64 x.o] = h2 := ⟨_, rfl⟩
    have c7 : AB.hget h2 8 = some (g7, [.int .i64 x.s, .int .i64 x.i, .int .i64 x.o]) := by rw [← hh2]; simp [go_sem]
    have b' : NR n r h2 := by
      rw [← hh2]; exact (b.other _ _ (by decide) (by decide)).other _ _ (by decide) (by decide)
    rw [hh2]
    refine drawnP [2, 2, 2, 2, 2, 2, 2, 2, 3, 1, 1] [(8, [2, 0, 0, 0, 0, 0, 0, 0, 0, 3, 1]), (9, [0, 0, 0, 0, 0, 0, 0, 0, 0, 0, 2])] 112 (by kernel_rfl) (by kernel_rfl) (by kernel_rfl) (by kernel_rfl) rfl ?_
    simp only [go_sem, c7, b'.b2, e5]
    refine quietD (f88 n hb x hxs.1 hxs.2) (fun _ => rfl) ?_
    simp only [go_sem]
    intro nx5 lv5 hn5 hl5
    intro nx6 lv6 hn6 hl6
    refine ⟨okT_mono hok fun j z => hl6 j (.inr (hl5 j z)), ?_, ?_⟩
    · simp only [tracksF_len, hlen]; omega
    have hnew : (tracksF n (r.st.take i) 0).map dNd ++ [DV.agg [.int .i64 1, .int .i64 x.s, .int .i64 (posF n x), .int .i64 i]] = (tracksF n (r.st.take (i + 1)) 0).map dNd := by
      rw [htk, tracksF_app, hlen]
      simp [trackN, dNd]
    rw [hnew]
    intro nx7 lv7 hn7 hl7
    simp only [hN, ew]
    refine ⟨by kernel_rfl, i + 1, ?_, by simp only; omega⟩
    simp only [go_sem]
    exact ⟨by simp, by omega, _, _, _, rfl, b', hl7 _ (.inl rfl)⟩
  · have hlt' : ((i : Int) < (r.st.length : Int)) = False := by simp; omega
    rw [List.take_of_length_le (by omega)] at e5
    simp only [go_sem, e20, hlt', hX, e5]
    refine AW_loopH [5, 10, 38, 39, 40, 41, 42, 43, 44, 45, 46, 47, 48, 49, 50, 51]
      (fun (i : Nat) ρ m => ρ 38 = .int .i64 (i : Int) ∧ i ≤ lap.length ∧ ∃ h nx lv tok, ρ 5 = .sl 4 ((tracksF n r.st 0 ++ (lap.take i).map (lapN n)).map dNd) tok ∧ m = ⟨h, [], nx, lv⟩ ∧ NR n r h ∧ okT m tok) (fun i => lap.length - i) 0 ?_ ?_
    · simp only [go_sem]
      first | exact ⟨Nat.zero_le _, _, _, _, rfl, b, hok⟩ | exact ⟨Nat.zero_le _, _, _, _, tok, ⟨by simp, rfl⟩, rfl, b, hok⟩
    clear b hok e5
    rintro i ρ m ⟨e38, g1, h, nx4, lv4, tok, e5, rfl, b, hok⟩ Q hN hR hX
    by_cases hlt : i < lap.length
    · obtain ⟨x, hx⟩ : ∃ x, lap[i]? = some x := ⟨_, List.getElem?_eq_getElem hlt⟩
      have hxp : (lap.map dStp)[i]? = some (dStp x) := by rw [List.getElem?_map, hx]; rfl
      have hlt' : ((i : Int) < (lap.length : Int)) = True := by simp; omega
      have h0 : ((0 : Int) ≤ (i : Int)) = True := by simp
      have ew : IntKind.i64.wrap ((i : Int) + 1) = (i : Int) + 1 := i64_in (by omega) (by omega)
      have hxs := hall x (List.mem_of_getElem? hx)
      have htk : lap.take (i + 1) = lap.take i ++ [x] := by rw [List.take_add_one, hx]; rfl
      have hlen : (lap.take i).length = i := by simp; omega
      obtain ⟨g7, hg7⟩ : ∃ g7, genO (AB.hget h 10) = g7 := ⟨_, rfl⟩
      simp only [go_sem, e38, hlt', h0, hx, hxp, Option.map_some, dStp, hg7]
      obtain ⟨h2, hh2⟩ : ∃ h2, AB.hset (AB.hset h 10 g7 [.int .i64 0, .int .i64 0, .int .i64 0]) 10 g7 [.int .i64 x.s, .int .i64 x.i, .int .i64 x.o] = h2 := ⟨_, rfl⟩
      have c7 : AB.hget h2 10 = some (g7, [.int .i64 x.s, .int .i64 x.i, .int .i64 x.o]) := by rw [← hh2]; simp [go_sem]
      have b' : NR n r h2 := by
        rw [← hh2]; exact (b.other _ _ (by decide) (by decide)).other _ _ (by decide) (by decide)
      rw [hh2]
      refine drawnP [2, 2, 2, 2, 2, 2, 2, 3, 1, 1] [(7, [2, 0, 0, 0, 0, 0, 0, 0, 3, 1]), (8, [0, 0, 0, 0, 0, 0, 0, 0, 0, 2])] 112 (by kernel_rfl) (by kernel_rfl) (by kernel_rfl) (by kernel_rfl) rfl ?_
      simp only [go_sem, c7, b'.b2, e5]
      refine quietD (f88 n hb x hxs.1 hxs.2) (fun _ => rfl) ?_
      simp only [go_sem]
      intro nx5 lv5 hn5 hl5
      intro nx6 lv6 hn6 hl6
      refine ⟨okT_mono hok fun j z => hl6 j (.inr (hl5 j z)), ?_, ?_⟩
      · simp only [List.length_append, tracksF_len, List.length_map, hlen]; omega
      have hnew : (tracksF n r.st 0 ++ (lap.take i).map (lapN n)).map dNd ++ [DV.agg [.int .i64 2, .int .i64 x.s, .int .i64 (posF n x), .int .i64 (-1)]] = (tracksF n r.st 0 ++ (lap.take (i + 1)).map (lapN n)).map dNd := by
        rw [htk]
        simp [lapN, dNd]
      rw [hnew]
      intro nx7 lv7 hn7 hl7
      simp only [hN, ew]
      refine ⟨by kernel_rfl, i + 1, ?_, by simp only; omega⟩
      simp only [go_sem]
      exact ⟨by simp, by omega, _, _, _, rfl, b', hl7 _ (.inl rfl)⟩
    · have hlt' : ((i : Int) < (lap.length : Int)) = False := by simp; omega
      rw [List.take_of_length_le (by omega)] at e5
      simp only [go_sem, e38, hlt', hX, e5, b.b3]
      refine AW_loopH [5, 11, 12, 13, 55, 56, 57, 58, 59, 60, 61, 62, 63, 64, 65, 66, 67, 68, 69, 70, 71, 72, 73, 74, 75, 76, 77, 78, 79, 80, 81, 82, 83, 84, 85, 86, 87, 88, 89, 90, 91, 92, 93, 94, 95, 96, 97, 98, 99, 100, 101, 102, 103, 104, 105]
        (fun (i : Nat) ρ m => ρ 55 = .int .i64 (i : Int) ∧ i ≤ r.st.length ∧ ∃ h nx lv tok l, ρ 5 = .sl 4 (l.map dNd) tok ∧ m = ⟨h, [], nx, lv⟩ ∧ NR n r h ∧ okT m tok ∧ l.length ≤ 100 + 512 * i ∧ looksF n r.fr r.st lap (r.st.drop i) i l ++ [⟨5, r.fr, 0, -1⟩] = F) (fun i => r.st.length - i) 0 ?_ ?_
      · simp only [go_sem]
        refine ⟨Nat.zero_le _, _, _, _, tok, _, ⟨rfl, rfl⟩, rfl, b, hok, ?_, hF⟩
        simp only [List.length_append, tracksF_len, List.length_map]; omega
      clear b hok e5
      rintro i ρ m ⟨e55, g1, h, nx4, lv4, tok, l, e5, rfl, b, hok, hll, g2⟩ Q hN hR hX
      by_cases hlt : i < r.st.length
      · obtain ⟨x, hx⟩ : ∃ x, r.st[i]? = some x := ⟨_, List.getElem?_eq_getElem hlt⟩
        have hxp : (r.st.map dStp)[i]? = some (dStp x) := by rw [List.getElem?_map, hx]; rfl
        have hlt' : ((i : Int) < (r.st.length : Int)) = True := by simp; omega
        have h0 : ((0 : Int) ≤ (i : Int)) = True := by simp
        have ew : IntKind.i64.wrap ((i : Int) + 1) = (i : Int) + 1 := i64_in (by omega) (by omega)
        have hxo := hr.st x (List.mem_of_getElem? hx)
        have hxs := hxo.sec
        obtain ⟨c, hc⟩ : ∃ c, n.sects[x.s.toNat]? = some c := ⟨_, List.getElem?_eq_getElem (by omega)⟩
        have hc2 : (n.sects.map dSect)[x.s.toNat]? = some (dSect c) := by rw [List.getElem?_map, hc]; rfl
        have hkd : kindAt n x.s = c.kind := by simp [kindAt, hc]
        have hkc := netE_kinds he c (List.mem_of_getElem? hc)
        have i1 : ((0 : Int) ≤ x.s) = True := eq_true hxs.1
        have i2 : (x.s < (n.sects.length : Int)) = True := eq_true hxs.2
        have hd : r.st.drop i = x :: r.st.drop (i + 1) := by
          rw [List.drop_eq_getElem_cons hlt]
          rw [List.getElem?_eq_getElem hlt] at hx
          cases hx; rfl
        rw [hd] at g2
        simp only [looksF] at g2
        have hlen := lookS_len n r.fr r.st lap i x l
        unfold lookS at g2 hlen
        rw [hkd] at g2 hlen
        obtain ⟨g7, hg7⟩ : ∃ g7, genO (AB.hget h 12) = g7 := ⟨_, rfl⟩
        obtain ⟨h2, hh2⟩ : ∃ h2, AB.hset (AB.hset h 12 g7 [.int .i64 0, .int .i64 0, .int .i64 0]) 12 g7 [.int .i64 x.s, .int .i64 x.i, .int .i64 x.o] = h2 := ⟨_, rfl⟩
        have c7 : AB.hget h2 12 = some (g7, [.int .i64 x.s, .int .i64 x.i, .int .i64 x.o]) := by rw [← hh2]; simp [go_sem]
        have b' : NR n r h2 := by
          rw [← hh2]; exact (b.other _ _ (by decide) (by decide)).other _ _ (by decide) (by decide)
        by_cases c2 : c.kind = 2
        · have c2a : (c.kind = 2) = True := eq_true c2
          simp only [go_sem, e55, hlt', h0, hx, hxp, Option.map_some, dStp, hg7, hh2, b'.b2, b'.b3, c7, i1, i2, hc, hc2, dSect, c2a]
          have hps : posF n x = max x.i x.o := by simp [posF, hkd, c2]
          have hpb : 0 ≤ max x.i x.o ∧ max x.i x.o ≤ 3 := by
            obtain ⟨⟨_, _⟩, q3, q4⟩ := hasF_iff.1 hxo.1
            have h2 := hxo.2
            have := endsF_bd (kindAt n x.s)
            have ho : ∀ k e o : Int, o ∈ outsF k e → 0 ≤ e → e ≤ 3 → 0 ≤ o ∧ o ≤ 3 := by
              intro k e o h h3 h4
              have he4 : e = 0 ∨ e = 1 ∨ e = 2 ∨ e = 3 := by omega
              unfold outsF at h
              split at h
              · simp at h; omega
              · split at h
                · simp at h; omega
                · rcases he4 with rfl | rfl | rfl | rfl <;> simp [bits01.1, bits01.2.1, bits01.2.2.1, bits01.2.2.2] at h <;> omega
            have := ho _ _ _ h2 q3 (by omega)
            omega
          have ew3 : IntKind.i64.wrap (3 - max x.i x.o) = 3 - max x.i x.o := i64_in (by omega) (by omega)
          refine drawnP [2, 2, 2, 2, 2, 2, 2, 2, 2, 2, 2, 3, 1] [(11, [0, 0, 0, 0, 0, 0, 0, 0, 0, 0, 0, 0, 2])] 112 (by kernel_rfl) (by kernel_rfl) (by kernel_rfl) (by kernel_rfl) rfl ?_
          simp only [go_sem, c7, b'.b2, b'.b3, e5]
          refine quietD (f88 n hb x hxs.1 hxs.2) (fun _ => rfl) ?_
          simp only [go_sem, hps, ew3]
          intro nx5 lv5 hn5 hl5
          have fe : freeE c.kind x = [3 - max x.i x.o] := by simp [freeE, c2]
          rw [fe, overO_cons, overO_nil] at g2 hlen
          refine callS (f89 n hb he r (by omega) lap (by omega) i 8 l x.s (3 - max x.i x.o) 0 tok nx5 lv5 (by omega) (by omega) (by omega) (okT_mono hok hl5)) rfl ?_
          intro tok6 nx6 lv6 hok6
          simp only [go_sem, kDraw_eq]
          intro nx7 lv7 hn7 hl7
          simp only [hN, ew]
          refine ⟨by kernel_rfl, i + 1, ?_, by simp only; omega⟩
          simp only [go_sem]
          exact ⟨by simp, by omega, _, _, _, tok6, _, ⟨rfl, rfl⟩, rfl, b', (hok6.mono hn7 hl7).t, by omega, by rw [← g2]; simp⟩
        have c2a : (c.kind = 2) = False := eq_false c2
        by_cases c3 : c.kind = 3
        · have c3a : (c.kind = 3) = True := eq_true c3
          by_cases d1 : 1 < x.i
          · have d1a : (1 < x.i) = True := eq_true d1
            have fe : freeE c.kind x = [0, 1] := by simp [freeE, c2, c3, d1]
            rw [fe, overO_cons, overO_cons, overO_nil] at g2 hlen
            have hlen2 := lookF_len n r.fr r.st lap i 8 l x.s 0
            simp only [go_sem, e55, e5, hlt', h0, hx, hxp, Option.map_some, dStp, hg7, hh2, b'.b2, b'.b3, c7, i1, i2, hc, hc2, dSect, c2a, c3a, d1a]
            refine callS (f89 n hb he r (by omega) lap (by omega) i 8 l x.s 0 0 tok nx4 lv4 (by omega) (by omega) (by omega) (okT_mono hok fun _ z => z)) rfl ?_
            intro tok5 nx5 lv5 hok5
            simp only [go_sem, b'.b2, b'.b3, c7]
            refine callS (f89 n hb he r (by omega) lap (by omega) i 8 _ x.s 1 0 tok5 nx5 lv5 (by omega) (by omega) (by omega) hok5.t) rfl ?_
            intro tok6 nx6 lv6 hok6
            simp only [go_sem, hN, ew]
            refine ⟨by kernel_rfl, i + 1, ?_, by simp only; omega⟩
            simp only [go_sem]
            exact ⟨by simp, by omega, _, _, _, tok6, _, ⟨rfl, rfl⟩, rfl, b', hok6.t, by omega, by rw [← g2]; simp⟩
          · have d1a : (1 < x.i) = False := eq_false d1
            have fe : freeE c.kind x = [2, 3] := by simp [freeE, c2, c3, d1]
            rw [fe, overO_cons, overO_cons, overO_nil] at g2 hlen
            have hlen2 := lookF_len n r.fr r.st lap i 8 l x.s 2
            simp only [go_sem, e55, e5, hlt', h0, hx, hxp, Option.map_some, dStp, hg7, hh2, b'.b2, b'.b3, c7, i1, i2, hc, hc2, dSect, c2a, c3a, d1a]
            refine callS (f89 n hb he r (by omega) lap (by omega) i 8 l x.s 2 0 tok nx4 lv4 (by omega) (by omega) (by omega) (okT_mono hok fun _ z => z)) rfl ?_
            intro tok5 nx5 lv5 hok5
            simp only [go_sem, b'.b2, b'.b3, c7]
            refine callS (f89 n hb he r (by omega) lap (by omega) i 8 _ x.s 3 0 tok5 nx5 lv5 (by omega) (by omega) (by omega) hok5.t) rfl ?_
            intro tok6 nx6 lv6 hok6
            simp only [go_sem, hN, ew]
            refine ⟨by kernel_rfl, i + 1, ?_, by simp only; omega⟩
            simp only [go_sem]
            exact ⟨by simp, by omega, _, _, _, tok6, _, ⟨rfl, rfl⟩, rfl, b', hok6.t, by omega, by rw [← g2]; simp⟩
        · have c3a : (c.kind = 3) = False := eq_false c3
          have fe : freeE c.kind x = [] := by simp [freeE, c2, c3]
          rw [fe, overO_nil] at g2 hlen
          simp only [go_sem, e55, e5, hlt', h0, hx, hxp, Option.map_some, dStp, hg7, hh2, b'.b2, b'.b3, c7, i1, i2, hc, hc2, dSect, c2a, c3a, hN, ew]
          refine ⟨by kernel_rfl, i + 1, ?_, by simp only; omega⟩
          simp only [go_sem]
          exact ⟨by simp, by omega, _, _, _, tok, l, ⟨rfl, rfl⟩, rfl, b', okT_mono hok fun _ z => z, by omega, by rw [← g2]; simp⟩
      · have hlt' : ((i : Int) < (r.st.length : Int)) = False := by simp; omega
        rw [List.drop_eq_nil_of_le (by omega)] at g2
        simp only [looksF] at g2
        subst g2
        simp only [go_sem, e55, e5, hlt', hX, b.b3]
        refine ⟨okT_mono hok fun j z => .inr z, by omega, ?_⟩
        simp [dNd]
end Go.Proofs.Yteadhjclchjfjaa
