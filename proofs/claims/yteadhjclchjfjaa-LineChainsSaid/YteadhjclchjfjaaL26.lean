/- Needs: the program's. -/
import Derived.Test.YteadhjclchjfjaaL260
namespace Go.Proofs.Yteadhjclchjfjaa
set_option linter.unusedSimpArgs false
set_option linter.unusedVariables false
open Go.AB

def eRt0 (r : Rt) : AV := .agg [.int .i64 r.fr, .int .i64 r.to, .sl 3 (r.st.map dStp) .no]
/-- A route's overlap, the program's and the reference's. -/
theorem f90r (n : Net) (hb : NetB n) (he : netE n = 0) (r : Rt) (hr : RtOk n r) : PCall Try.prog 90 [eNet n, eRt0 r] (RV (.sl 3 ((lapF n r).map dStp) .no)) := by
  obtain ⟨fr, to, p⟩ := r
  have h0 := hr.f0
  have h1 := hr.f1
  have h2 := hr.t1
  have h3 := hr.l1
  simp only at h0 h1 h2 h3
  unfold lapF eRt0
  simp only
  by_cases ht : to < 0
  · rw [if_pos ht]
    exact f90n n fr to ht p
  · rw [if_neg ht]
    obtain ⟨f, rfl⟩ : ∃ f : Nat, fr = f := ⟨fr.toNat, by omega⟩
    obtain ⟨t, rfl⟩ : ∃ f : Nat, to = f := ⟨to.toNat, by omega⟩
    obtain ⟨sg, hsg⟩ : ∃ x, n.sigs[f]? = some x := ⟨_, List.getElem?_eq_getElem (by omega)⟩
    obtain ⟨st, hst⟩ : ∃ x, n.sigs[t]? = some x := ⟨_, List.getElem?_eq_getElem (by omega)⟩
    simp only [Int.toNat_natCast, hst, homeF, hsg, Option.map_some, Option.getD_some]
    exact f90 n hb he f sg hsg t st hst p (by omega)
theorem f43r (n : Net) (hb : NetB n) (he : netE n = 0) (r : Rt) (hr : RtOk n r) : PCall Try.prog 43 [eNet n, eRt0 r] (RV (.sl 3 ((lapF n r).map dStp) .no)) := by
  obtain ⟨fr, to, p⟩ := r
  have h0 := hr.f0
  have h1 := hr.f1
  have h2 := hr.t1
  have h3 := hr.l1
  simp only at h0 h1 h2 h3
  unfold lapF eRt0
  simp only
  by_cases ht : to < 0
  · rw [if_pos ht]
    exact f43n n fr to ht p
  · rw [if_neg ht]
    obtain ⟨f, rfl⟩ : ∃ f : Nat, fr = f := ⟨fr.toNat, by omega⟩
    obtain ⟨t, rfl⟩ : ∃ f : Nat, to = f := ⟨to.toNat, by omega⟩
    obtain ⟨sg, hsg⟩ : ∃ x, n.sigs[f]? = some x := ⟨_, List.getElem?_eq_getElem (by omega)⟩
    obtain ⟨st, hst⟩ : ∃ x, n.sigs[t]? = some x := ⟨_, List.getElem?_eq_getElem (by omega)⟩
    simp only [Int.toNat_natCast, hst, homeF, hsg, Option.map_some, Option.getD_some]
    exact f43 n hb he f sg hsg t st hst p (by omega)

/-- What the variables of needs hold. -/
structure NB (n : Net) (r : Rt) (lap : List Stp) (l : List Nd) (tok : Tok) (ks vs : List AV) (h : List (Nat × Nat × List AV)) : Prop where
  b2 : AB.hget h 2 = some (0, [.sl 1 (n.names.map DV.str) .no, .sl 7 (n.sects.map dSect) .no, .sl 4 (n.links.map dLnk) .no, .sl 2 (n.sigs.map dPair) .no, .sl 2 (n.gates.map dPair) .no])
  b3 : AB.hget h 3 = some (0, [.int .i64 r.fr, .int .i64 r.to, .sl 3 (r.st.map dStp) .no])
  b18 : AB.hget h 18 = some (0, kCells n r lap l tok (.own 16 0))
  b16 : AB.hget h 16 = some (0, [.mapc ks vs])
  sn : SeenN l ks vs
theorem NB.set {n : Net} {r : Rt} {lap : List Stp} {l l' : List Nd} {tok tok' : Tok} {ks vs ks' vs' : List AV} {h : List (Nat × Nat × List AV)} (b : NB n r lap l tok ks vs h) (s : SeenN l' ks' vs') :
    NB n r lap l' tok' ks' vs' (AB.hset (AB.hset h 18 0 (kCells n r lap l' tok' (.own 16 0))) 16 0 [.mapc ks' vs']) :=
  ⟨by simp [go_sem, b.b2], by simp [go_sem, b.b3], by simp [go_sem], by simp [go_sem], s⟩
theorem NB.other {n : Net} {r : Rt} {lap : List Stp} {l : List Nd} {tok : Tok} {ks vs : List AV} {h : List (Nat × Nat × List AV)} (b : NB n r lap l tok ks vs h) {t : Nat} (g : Nat) (cs : List AV) (h2 : t ≠ 2) (h3 : t ≠ 3) (h18 : t ≠ 18) (h16 : t ≠ 16) : NB n r lap l tok ks vs (AB.hset h t g cs) :=
  ⟨by rw [hget_set_ne _ _ _ h2]; exact b.b2, by rw [hget_set_ne _ _ _ h3]; exact b.b3, by rw [hget_set_ne _ _ _ h18]; exact b.b18, by rw [hget_set_ne _ _ _ h16]; exact b.b16, b.sn⟩

set_option maxHeartbeats 4000000 in
set_option maxRecDepth 20000 in
theorem f86 (n : Net) (hb : NetB n) (he : netE n = 0) (r : Rt) (hr : RtOk n r) : PCall Try.prog 86 [eNet n, eRt0 r] (RV (.sl 4 ((needsR n r).map dNd) .no)) := by
  refine PCall.of_bodyE Try.func86 rfl Try.ntmps86 (congrArg Array.toList Try.results86) ?_
  intro E
  have hl1 := hr.l1
  have hlap := lapF_len n r
  have hall := lapF_all he r
  have honce := lapF_once n r
  generalize hF : needsR n r = F
  unfold needsR at hF
  have h90 := f90r n hb he r hr
  generalize lapF n r = lap at hF hlap hall honce h90 ⊢
  simp only [go_sem, eNet, nCells, eRt0]
  refine drawnT [2, 2, 2, 2, 2, 3, 1, 1, 1] (.alt 5 [2, 2, 2, 2, 2, 0, 2, 3, 1] (.alt 7 [0, 0, 0, 0, 0, 0, 0, 0, 2] .fin .nil) .nil) 74 (by kernel_rfl) (by kernel_rfl) (by kernel_rfl) (by kernel_rfl) rfl ?_
  simp only [go_sem]
  refine quietD h90 (fun _ => rfl) ?_
  simp only [go_sem]
  intro nx1 lv1 hn1
  refine quietD h90 (fun _ => rfl) ?_
  simp only [go_sem]
  intro nx2 lv2 hn2 hl2 nx3 lv3 hn3 hl3
  refine AW_loopH [6, 7, 22, 23, 24, 25, 26, 27, 28, 29, 30, 31, 32, 33, 34, 35, 36]
    (fun (i : Nat) ρ m => ρ 22 = .int .i64 (i : Int) ∧ i ≤ r.st.length ∧ ∃ h nx lv tok ks vs, m = ⟨h, [], nx, lv⟩ ∧ NB n r lap (tracksF n (r.st.take i) 0) tok ks vs h ∧ okT m tok) (fun i => r.st.length - i) 0 ?_ ?_
  · simp only [go_sem]
    exact ⟨Nat.zero_le _, _, _, _, .nil, [], [], rfl, ⟨by simp [go_sem], by simp [go_sem], by simp [go_sem, kCells, nCells, tracksF], by simp [go_sem], SeenN.nil⟩, trivial⟩
  rintro i ρ m ⟨e22, g1, h, nx4, lv4, tok, ks, vs, rfl, b, hok⟩ Q hN hR hX
  by_cases hlt : i < r.st.length
  · obtain ⟨x, hx⟩ : ∃ x, r.st[i]? = some x := ⟨_, List.getElem?_eq_getElem hlt⟩
    have hxp : (r.st.map dStp)[i]? = some (dStp x) := by rw [List.getElem?_map, hx]; rfl
    have hlt' : ((i : Int) < (r.st.length : Int)) = True := by simp; omega
    have h0 : ((0 : Int) ≤ (i : Int)) = True := by simp
    have ew : IntKind.i64.wrap ((i : Int) + 1) = (i : Int) + 1 := i64_in (by omega) (by omega)
    have hxs := (hr.st x (List.mem_of_getElem? hx)).sec
    have htk : r.st.take (i + 1) = r.st.take i ++ [x] := by rw [List.take_add_one, hx]; rfl
    have hlen : (r.st.take i).length = i := by simp; omega
    obtain ⟨g7, hg7⟩ : ∃ g7, genO (AB.hget h 7) = g7 := ⟨_, rfl⟩
    simp only [go_sem, e22, hlt', h0, hx, hxp, Option.map_some, dStp, hg7]
    obtain ⟨h2, hh2⟩ : ∃ h2, AB.hset (AB.hset h 7 g7 [.int .i64 0, .int .i64 0, .int .i64 0]) 7 g7 [.int .i64 x.s, .int .i64 x.i, .int .i64 x.o] = h2 := ⟨_, rfl⟩
    have c7 : AB.hget h2 7 = some (g7, [.int .i64 x.s, .int .i64 x.i, .int .i64 x.o]) := by rw [← hh2]; simp [go_sem]
    have b' : NB n r lap (tracksF n (r.st.take i) 0) tok ks vs h2 := by
      rw [← hh2]; exact (b.other _ _ (by decide) (by decide) (by decide) (by decide)).other _ _ (by decide) (by decide) (by decide) (by decide)
    rw [hh2]
    refine drawnP [2, 2, 2, 2, 2, 2, 2, 2, 3] [(8, [0, 0, 0, 0, 0, 0, 0, 0, 0])] 74 (by kernel_rfl) (by kernel_rfl) (by kernel_rfl) (by kernel_rfl) rfl ?_
    simp only [go_sem, c7, b'.b2]
    refine quietD (f118 n hb x hxs.1 hxs.2) (fun _ => rfl) ?_
    simp only [go_sem]
    intro nx5 lv5 hn5 hl5
    have hlf : (tracksF n (r.st.take i) 0).length ≤ 50000 := by rw [tracksF_len, hlen]; omega
    refine .inr (callN (f117 n r lap (tracksF n (r.st.take i) 0) ⟨1, x.s, posF n x, i⟩ tok ks vs nx5 lv5 hlf b'.sn (okT_mono hok fun j z => hl5 j z)) (fun _ => rfl) (fun _ => rfl) (l1 := .own 18 0) (l2 := .own 16 0) (by decide) (by simp [AH.cells, b'.b18]) (by simp [AH.cells, b'.b16]) b'.sn ?_)
    intro tok6 ks6 vs6 nx6 lv6 hok6 hs6
    have hnew : ndA (tracksF n (r.st.take i) 0) ⟨1, x.s, posF n x, i⟩ = tracksF n (r.st.take (i + 1)) 0 := by
      have := track_new n (r.st.take i) x
      rw [hlen] at this
      rw [htk, ← this]
      rfl
    rw [hnew] at hs6 ⊢
    simp only [go_sem, kDraw_eq]
    intro nx7 lv7 hn7 hl7
    simp only [hN, ew]
    refine ⟨by kernel_rfl, i + 1, ?_, by simp only; omega⟩
    simp only [go_sem]
    exact ⟨by simp, by omega, _, _, _, tok6, ks6, vs6, rfl, b'.set hs6, okT_mono hok6 fun j z => hl7 j z⟩
  · have hlt' : ((i : Int) < (r.st.length : Int)) = False := by simp; omega
    rw [List.take_of_length_le (by omega)] at b
    have h18 := b.b18
    simp only [kCells, nCells, List.cons_append, List.nil_append] at h18
    simp only [go_sem, e22, hlt', hX, h18]
    refine AW_loopH [9, 42, 43, 44, 45, 46, 47, 48, 49, 50, 51, 52, 53, 54]
      (fun (i : Nat) ρ m => ρ 42 = .int .i64 (i : Int) ∧ i ≤ lap.length ∧ ∃ h nx lv tok ks vs, m = ⟨h, [], nx, lv⟩ ∧ NB n r lap (tracksF n r.st 0 ++ (lap.take i).map (lapN n)) tok ks vs h ∧ okT m tok) (fun i => lap.length - i) 0 ?_ ?_
    · simp only [go_sem]
      exact ⟨Nat.zero_le _, _, _, _, tok, ks, vs, rfl, by simpa using b, hok⟩
    clear b hok h18
    rintro i ρ m ⟨e42, g1, h, nx4, lv4, tok, ks, vs, rfl, b, hok⟩ Q hN hR hX
    by_cases hlt : i < lap.length
    · obtain ⟨x, hx⟩ : ∃ x, lap[i]? = some x := ⟨_, List.getElem?_eq_getElem hlt⟩
      have hxp : (lap.map dStp)[i]? = some (dStp x) := by rw [List.getElem?_map, hx]; rfl
      have hlt' : ((i : Int) < (lap.length : Int)) = True := by simp; omega
      have h0 : ((0 : Int) ≤ (i : Int)) = True := by simp
      have ew : IntKind.i64.wrap ((i : Int) + 1) = (i : Int) + 1 := i64_in (by omega) (by omega)
      have hxs := hall x (List.mem_of_getElem? hx)
      have htk : lap.take (i + 1) = lap.take i ++ [x] := by rw [List.take_add_one, hx]; rfl
      have hlen : (lap.take i).length = i := by simp; omega
      obtain ⟨g7, hg7⟩ : ∃ g7, genO (AB.hget h 9) = g7 := ⟨_, rfl⟩
      simp only [go_sem, e42, hlt', h0, hx, hxp, Option.map_some, dStp, hg7]
      obtain ⟨h2, hh2⟩ : ∃ h2, AB.hset (AB.hset h 9 g7 [.int .i64 0, .int .i64 0, .int .i64 0]) 9 g7 [.int .i64 x.s, .int .i64 x.i, .int .i64 x.o] = h2 := ⟨_, rfl⟩
      have c7 : AB.hget h2 9 = some (g7, [.int .i64 x.s, .int .i64 x.i, .int .i64 x.o]) := by rw [← hh2]; simp [go_sem]
      have b' : NB n r lap (tracksF n r.st 0 ++ (lap.take i).map (lapN n)) tok ks vs h2 := by
        rw [← hh2]; exact (b.other _ _ (by decide) (by decide) (by decide) (by decide)).other _ _ (by decide) (by decide) (by decide) (by decide)
      rw [hh2]
      refine drawnP [2, 2, 2, 2, 2, 2, 2, 3] [(7, [0, 0, 0, 0, 0, 0, 0, 0])] 74 (by kernel_rfl) (by kernel_rfl) (by kernel_rfl) (by kernel_rfl) rfl ?_
      simp only [go_sem, c7, b'.b2]
      refine quietD (f118 n hb x hxs.1 hxs.2) (fun _ => rfl) ?_
      simp only [go_sem]
      intro nx5 lv5 hn5 hl5
      have hlf : (tracksF n r.st 0 ++ (lap.take i).map (lapN n)).length ≤ 50000 := by simp only [List.length_append, tracksF_len, List.length_map, hlen]; omega
      refine .inr (callN (f117 n r lap _ ⟨2, x.s, posF n x, -1⟩ tok ks vs nx5 lv5 hlf b'.sn (okT_mono hok fun j z => hl5 j z)) (fun _ => rfl) (fun _ => rfl) (l1 := .own 18 0) (l2 := .own 16 0) (by decide) (by simp [AH.cells, b'.b18]) (by simp [AH.cells, b'.b16]) b'.sn ?_)
      intro tok6 ks6 vs6 nx6 lv6 hok6 hs6
      have hnew : ndA (tracksF n r.st 0 ++ (lap.take i).map (lapN n)) ⟨2, x.s, posF n x, -1⟩ = tracksF n r.st 0 ++ (lap.take (i + 1)).map (lapN n) := by
        rw [htk]
        exact lap_new n r.st (lap.take i) x (honce i x hx)
      rw [hnew] at hs6 ⊢
      simp only [go_sem, kDraw_eq]
      intro nx7 lv7 hn7 hl7
      simp only [hN, ew]
      refine ⟨by kernel_rfl, i + 1, ?_, by simp only; omega⟩
      simp only [go_sem]
      exact ⟨by simp, by omega, _, _, _, tok6, ks6, vs6, rfl, b'.set hs6, okT_mono hok6 fun j z => hl7 j z⟩
    · have hlt' : ((i : Int) < (lap.length : Int)) = False := by simp; omega
      rw [List.take_of_length_le (by omega)] at b
      simp only [go_sem, e42, hlt', hX, b.b3]
      refine AW_loopH [10, 58, 59, 60, 61, 62, 63, 64]
        (fun (i : Nat) ρ m => ρ 58 = .int .i64 (i : Int) ∧ i ≤ r.st.length ∧ ∃ h nx lv tok ks vs l, m = ⟨h, [], nx, lv⟩ ∧ NB n r lap l tok ks vs h ∧ okT m tok ∧ l.length ≤ 100 + 512 * i ∧ (∀ y ∈ l, y.k ≠ 5) ∧ looksF n r.fr r.st lap (r.st.drop i) i l ++ [⟨5, r.fr, 0, -1⟩] = F) (fun i => r.st.length - i) 0 ?_ ?_
      · simp only [go_sem]
        refine ⟨Nat.zero_le _, _, _, _, tok, ks, vs, _, rfl, b, hok, ?_, ?_, hF⟩
        · simp only [List.length_append, tracksF_len, List.length_map]; omega
        · intro y hy
          simp only [List.mem_append, List.mem_map] at hy
          rcases hy with hy | ⟨z, _, rfl⟩
          · have := (tracksF_mem hy).1
            omega
          · simp [lapN]
      clear b hok
      rintro i ρ m ⟨e58, g1, h, nx4, lv4, tok, ks, vs, l, rfl, b, hok, hll, hk5, g2⟩ Q hN hR hX
      by_cases hlt : i < r.st.length
      · obtain ⟨x, hx⟩ : ∃ x, r.st[i]? = some x := ⟨_, List.getElem?_eq_getElem hlt⟩
        have hlt' : ((i : Int) < (r.st.length : Int)) = True := by simp; omega
        have ew : IntKind.i64.wrap ((i : Int) + 1) = (i : Int) + 1 := i64_in (by omega) (by omega)
        have hd : r.st.drop i = x :: r.st.drop (i + 1) := by
          rw [List.drop_eq_getElem_cons hlt]
          rw [List.getElem?_eq_getElem hlt] at hx
          cases hx; rfl
        rw [hd] at g2
        simp only [looksF] at g2
        have hlen := lookS_len n r.fr r.st lap i x l
        simp only [go_sem, e58, hlt']
        refine .inr (callN (f119 n hb he r (by omega) lap (by omega) i x hx (hr.st x (List.mem_of_getElem? hx)) l tok ks vs nx4 lv4 (by omega) b.sn (okT_mono hok fun j z => z)) (fun _ => rfl) (fun _ => rfl) (l1 := .own 18 0) (l2 := .own 16 0) (by decide) (by simp [AH.cells, b.b18]) (by simp [AH.cells, b.b16]) b.sn ?_)
        intro tok6 ks6 vs6 nx6 lv6 hok6 hs6
        simp only [go_sem, hN, ew]
        refine ⟨by kernel_rfl, i + 1, ?_, by simp only; omega⟩
        simp only [go_sem]
        exact ⟨by simp, by omega, _, _, _, tok6, ks6, vs6, _, rfl, b.set hs6, okT_mono hok6 fun j z => z, by omega, fun y hy => (overO_mem (fun l s e y h => lookF_mem n r.fr r.st lap i 8 l s e y h) _ _ _ y hy).elim (hk5 y) (fun z => by omega), by rw [← g2]; simp⟩
      · have hlt' : ((i : Int) < (r.st.length : Int)) = False := by simp; omega
        rw [List.drop_eq_nil_of_le (by omega)] at g2
        simp only [looksF] at g2
        simp only [go_sem, e58, hlt', hX, b.b3]
        refine .inr (callN (f117 n r lap l ⟨5, r.fr, 0, -1⟩ tok ks vs nx4 lv4 (by omega) b.sn (okT_mono hok fun j z => z)) (fun _ => rfl) (fun _ => rfl) (l1 := .own 18 0) (l2 := .own 16 0) (by decide) (by simp [AH.cells, b.b18]) (by simp [AH.cells, b.b16]) b.sn ?_)
        intro tok6 ks6 vs6 nx6 lv6 hok6 hs6
        have hnew : ndA l ⟨5, r.fr, 0, -1⟩ = F := by
          rw [← g2]
          unfold ndA
          rw [if_neg fun z => hk5 _ z rfl]
        rw [hnew] at hs6 ⊢
        simp only [go_sem, kCells, nCells, List.cons_append, List.nil_append]
end Go.Proofs.Yteadhjclchjfjaa
