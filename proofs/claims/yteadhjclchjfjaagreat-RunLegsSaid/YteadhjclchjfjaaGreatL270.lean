/- Needs: the program's. -/
import Derived.Test.YteadhjclchjfjaaGreatL260
namespace Go.Proofs.YteadhjclchjfjaaGreat
set_option linter.unusedSimpArgs false
set_option linter.unusedVariables false
open Go.AB

def eRt0 (r : Rt) : AV := .agg [.int .i64 r.fr, .int .i64 r.to, .sl 3 (r.st.map dStp) .no]
/-- A route's overlap, the program's and the reference's. -/
theorem f91r (n : Net) (hb : NetB n) (he : netE n = 0) (r : Rt) (hr : RtOk n r) : PCall Tryz.prog 91 [eNet n, eRt0 r] (RV (.sl 3 ((lapF n r).map dStp) .no)) := by
  obtain ⟨fr, to, p⟩ := r
  have h0 := hr.f0
  have h1 := hr.f1
  have h2 := hr.t1
  have h3 := hr.l1
  simp only at h0 h1 h2 h3
  unfold lapF eRt0
  simp only
  by_cases ht : to < 0
  · rw [if_pos ht]
    exact f91n n fr to ht p
  · rw [if_neg ht]
    obtain ⟨f, rfl⟩ : ∃ f : Nat, fr = f := ⟨fr.toNat, by omega⟩
    obtain ⟨t, rfl⟩ : ∃ f : Nat, to = f := ⟨to.toNat, by omega⟩
    obtain ⟨sg, hsg⟩ : ∃ x, n.sigs[f]? = some x := ⟨_, List.getElem?_eq_getElem (by omega)⟩
    obtain ⟨st, hst⟩ : ∃ x, n.sigs[t]? = some x := ⟨_, List.getElem?_eq_getElem (by omega)⟩
    simp only [Int.toNat_natCast, hst, homeF, hsg, Option.map_some, Option.getD_some]
    exact f91 n hb he f sg hsg t st hst p (by omega)
theorem f72r (n : Net) (hb : NetB n) (he : netE n = 0) (r : Rt) (hr : RtOk n r) : PCall Tryz.prog 72 [eNet n, eRt0 r] (RV (.sl 3 ((lapF n r).map dStp) .no)) := by
  obtain ⟨fr, to, p⟩ := r
  have h0 := hr.f0
  have h1 := hr.f1
  have h2 := hr.t1
  have h3 := hr.l1
  simp only at h0 h1 h2 h3
  unfold lapF eRt0
  simp only
  by_cases ht : to < 0
  · rw [if_pos ht]
    exact f72n n fr to ht p
  · rw [if_neg ht]
    obtain ⟨f, rfl⟩ : ∃ f : Nat, fr = f := ⟨fr.toNat, by omega⟩
    obtain ⟨t, rfl⟩ : ∃ f : Nat, to = f := ⟨to.toNat, by omega⟩
    obtain ⟨sg, hsg⟩ : ∃ x, n.sigs[f]? = some x := ⟨_, List.getElem?_eq_getElem (by omega)⟩
    obtain ⟨st, hst⟩ : ∃ x, n.sigs[t]? = some x := ⟨_, List.getElem?_eq_getElem (by omega)⟩
    simp only [Int.toNat_natCast, hst, homeF, hsg, Option.map_some, Option.getD_some]
    exact f72 n hb he f sg hsg t st hst p (by omega)

/-- What the variables of needs hold. -/
structure NB (n : Net) (r : Rt) (lap : List Stp) (l : List Nd) (tok : Tok) (ks vs : List AV) (h : List (Nat × Nat × List AV)) : Prop where
  b2 : AB.hget h 2 = some (0, [.sl 1 (n.names.map DV.str) .no, .sl 7 (n.sects.map dSect) .no, .sl 4 (n.links.map dLnk) .no, .sl 2 (n.sigs.map dPair) .no, .sl 2 (n.gates.map dPair) .no])
  b3 : AB.hget h 3 = some (0, [.int .i64 r.fr, .int .i64 r.to, .sl 3 (r.st.map dStp) .no])
  b18 : AB.hget h 18 = some (0, kCells n r lap l tok (.own 16 0))
  b16 : AB.hget h 16 = some (0, [.mapc ks vs])
  sn : SeenN l ks vs
theorem NB.set {n : Net} {r : Rt} {lap : List Stp} {l l' : List Nd} {tok tok' : Tok} {ks vs ks' vs' : List AV} {h : List (Nat × Nat × List AV)} (b : NB n r lap l tok ks vs h) (s : SeenN l' ks' vs') :
    NB n r lap l' tok' ks' vs' (AB.hset (AB.hset h 18 0 (kCells n r lap l' tok' (.own 16 0))) 16 0 [.mapc ks' vs']) :=
  ⟨by simp [go_sem, b.b2], by simp [go_sem, b.b3], by simp [go_sem], by simp [go_sem], s⟩
theorem NB.other {n : Net} {r : Rt} {lap : List Stp} {l : List Nd} {tok : Tok} {ks vs : List AV} {h : List (Nat × Nat × List AV)} (b : NB n r lap l tok ks vs h) {t : Nat} (g : Nat) (cs : List AV) (h2 : t ≠ 2) (h3 : t ≠ 3) (h18 : t ≠ 18) (h16 : t ≠ 16) : NB n r lap l tok ks vs (AB.hset h t g cs) :=
  ⟨by rw [hget_set_ne _ _ _ h2]; exact b.b2, by rw [hget_set_ne _ _ _ h3]; exact b.b3, by rw [hget_set_ne _ _ _ h18]; exact b.b18, by rw [hget_set_ne _ _ _ h16]; exact b.b16, b.sn⟩

set_option maxHeartbeats 4000000 in
set_option maxRecDepth 20000 in
theorem f57 (n : Net) (hb : NetB n) (he : netE n = 0) (r : Rt) (hr : RtOk n r) : PCall Tryz.prog 57 [eNet n, eRt0 r] (RV (.sl 4 ((needsR n r).map dNd) .no)) := by
  refine PCall.of_bodyE Tryz.func57 rfl Tryz.ntmps57 (congrArg Array.toList Tryz.results57) ?_
  intro E
  have hl1 := hr.l1
  have hlap := lapF_len n r
  have hall := lapF_all he r
  have honce := lapF_once n r
  generalize hF : needsR n r = F
  unfold needsR at hF
  have h90 := f91r n hb he r hr
  generalize lapF n r = lap at hF hlap hall honce h90 ⊢
  simp only [go_sem, eNet, nCells, eRt0]
  refine drawnT [2, 2, 2, 2, 2, 3, 1, 1, 1] (.alt 5 [2, 2, 2, 2, 2, 0, 2, 3, 1] (.alt 7 [0, 0, 0, 0, 0, 0, 0, 0, 2] .fin .nil) .nil) 74 (by kernel_rfl) (by kernel_rfl) (by kernel_rfl) (by kernel_rfl) rfl ?_
  simp only [go_sem]
  refine quietD h90 (fun _ => rfl) ?_
  simp only [go_sem]
  intro nx1 lv1 hn1
  refine quietD h90 (fun _ => rfl) ?_
  simp only [go_sem]
  intro nx2 lv2 hn2 hl2 nx3 lv3 hn3 hl3
  refine AW_loopH [6, 7, 22, 23, 24, 25, 26, 27, 28, 29, 30, 31, 32, 33, 34, 35, 36]
    (fun (i : Nat) ρ m => ρ 22 = .int .i64 (i : Int) ∧ i ≤ r.st.length ∧ ∃ h nx lv tok ks vs, m = ⟨h, [], nx, lv⟩ ∧ NB n r lap (tracksF n (r.st.take i) 0) tok ks vs h ∧ okT m tok) (fun i => r.st.length - i) 0 ?_ ?_
  · simp only [go_sem]
    exact ⟨Nat.zero_le _, _, _, _, .nil, [], [], rfl, ⟨by simp [go_sem], by simp [go_sem], by simp [go_sem, kCells, nCells, tracksF], by simp [go_sem], SeenN.nil⟩, trivial⟩
  rintro i ρ m ⟨e22, g1, h, nx4, lv4, tok, ks, vs, rfl, b, hok⟩ Q hN hR hX
  by_cases hlt : i < r.st.length
  · obtain ⟨x, hx⟩ : ∃ x, r.st[i]? = some x := ⟨_, List.getElem?_eq_getElem hlt⟩
    have hxp : (r.st.map dStp)[i]? = some (dStp x) := by rw [List.getElem?_map, hx]; rfl
    have hlt' : ((i : Int) < (r.st.length : Int)) = True := by simp; omega
    have h0 : ((0 : Int) ≤ (i : Int)) = True := by simp
    have ew : IntKind.i64.wrap ((i : Int) + 1) = (i : Int) + 1 := i64_in (by omega) (by omega)
    have hxs := (hr.st x (List.mem_of_getElem? hx)).sec
    have htk : r.st.take (i + 1) = r.st.take i ++ [x] := by rw [List.take_add_one, hx]; rfl
    have hlen : (r.st.take i).length = i := by simp; omega
    obtain ⟨g7, hg7⟩ : ∃ g7, genO (AB.hget h 7) = g7 := ⟨_, rfl⟩
    simp only [go_sem, e22, hlt', h0, hx, hxp, Option.map_some, dStp, hg7]
    obtain ⟨h2, hh2⟩ : ∃ h2, AB.hset (AB.hset h 7 g7 [.int .i64 0, .int .i64 0, .int .i64 0]) 7 g7 [.int .i64 x.s, .int .i64 x.i, .int .i64 x.o] = h2 := ⟨_, rfl⟩
    have c7 : AB.hget h2 7 = some (g7, [.int .i64 x.s, .int .i64 x.i, .int .i64 x.o]) := by rw [← hh2]; simp [go_sem]
    have b' : NB n r lap (tracksF n (r.st.take i) 0) tok ks vs h2 := by
      rw [← hh2]; exact (b.other _ _ (by decide) (by decide) (by decide) (by decide)).other _ _ (by decide) (by decide) (by decide) (by decide)
    rw [hh2]
    refine drawnP [2, 2, 2, 2, 2, 2, 2, 2, 3] [(8, [0, 0, 0, 0, 0, 0, 0, 0, 0])] 74 (by kernel_rfl) (by kernel_rfl) (by kernel_rfl) (by kernel_rfl) rfl ?_
    simp only [go_sem, c7, b'.b2]
    refine quietD (f94 n hb x hxs.1 hxs.2) (fun _ => rfl) ?_
    simp only [go_sem]
    intro nx5 lv5 hn5 hl5
    have hlf : (tracksF n (r.st.take i) 0).length ≤ 50000 := by rw [tracksF_len, hlen]; omega
    refine .inr (callN (f93 n r lap (tracksF n (r.st.take i) 0) ⟨1, x.s, posF n x, i⟩ tok ks vs nx5 lv5 hlf b'.sn (okT_mono hok fun j z => hl5 j z)) (fun _ => rfl) (fun _ => rfl) (l1 := .own 18 0) (l2 := .own 16 0) (by decide) (by simp [AH.cells, b'.b18]) (by simp [AH.cells, b'.b16]) b'.sn ?_)
    intro tok6 ks6 vs6 nx6 lv6 hok6 hs6
    have hnew : ndA (tracksF n (r.st.take i) 0) ⟨1, x.s, posF n x, i⟩ = tracksF n (r.st.take (i + 1)) 0 := by
      have := track_new n (r.st.take i) x
      rw [hlen] at this
      rw [htk, ← this]
      rfl
    rw [hnew] at hs6 ⊢
    simp only [go_sem, kDraw_eq]
    intro nx7 lv7 hn7 hl7
    simp only [hN, ew]
    refine ⟨by kernel_rfl, i + 1, ?_, by simp only; omega⟩
    simp only [go_sem]
    exact ⟨by simp, by omega, _, _, _, tok6, ks6, vs6, rfl, b'.set hs6, okT_mono hok6 fun j z => hl7 j z⟩
  · have hlt' : ((i : Int) < (r.st.length : Int)) = False := by simp; omega
    rw [List.take_of_length_le (by omega)] at b
    have h18 := b.b18
    simp only [kCells, nCells, List.cons_append, List.nil_append] at h18
    simp only [go_sem, e22, hlt', hX, h18]
    refine AW_loopH [9, 42, 43, 44, 45, 46, 47, 48, 49, 50, 51, 52, 53, 54]
      (fun (i : Nat) ρ m => ρ 42 = .int .i64 (i : Int) ∧ i ≤ lap.length ∧ ∃ h nx lv tok ks vs, m = ⟨h, [], nx, lv⟩ ∧ NB n r lap (tracksF n r.st 0 ++ (lap.take i).map (lapN n)) tok ks vs h ∧ okT m tok) (fun i => lap.length - i) 0 ?_ ?_
    · simp only [go_sem]
      exact ⟨Nat.zero_le _, _, _, _, tok, ks, vs, rfl, by simpa using b, hok⟩
    clear b hok h18
    rintro i ρ m ⟨e42, g1, h, nx4, lv4, tok, ks, vs, rfl, b, hok⟩ Q hN hR hX
    by_cases hlt : i < lap.length
    · obtain ⟨x, hx⟩ : ∃ x, lap[i]? = some x := ⟨_, List.getElem?_eq_getElem hlt⟩
      have hxp : (lap.map dStp)[i]? = some (dStp x) := by rw [List.getElem?_map, hx]; rfl
      have hlt' : ((i : Int) < (lap.length : Int)) = True := by simp; omega
      have h0 : ((0 : Int) ≤ (i : Int)) = True := by simp
      have ew : IntKind.i64.wrap ((i : Int) + 1) = (i : Int) + 1 := i64_in (by omega) (by omega)
      have hxs := hall x (List.mem_of_getElem? hx)
      have htk : lap.take (i + 1) = lap.take i ++ [x] := by rw [List.take_add_one, hx]; rfl
      have hlen : (lap.take i).length = i := by simp; omega
      obtain ⟨g7, hg7⟩ : ∃ g7, genO (AB.hget h 9) = g7 := ⟨_, rfl⟩
      simp only [go_sem, e42, hlt', h0, hx, hxp, Option.map_some, dStp, hg7]
      obtain ⟨h2, hh2⟩ : ∃ h2, AB.hset (AB.hset h 9 g7 [.int .i64 0, .int .i64 0, .int .i64 0]) 9 g7 [.int .i64 x.s, .int .i64 x.i, .int .i64 x.o] = h2 := ⟨_, rfl⟩
      have c7 : AB.hget h2 9 = some (g7, [.int .i64 x.s, .int .i64 x.i, .int .i64 x.o]) := by rw [← hh2]; simp [go_sem]
      have b' : NB n r lap (tracksF n r.st 0 ++ (lap.take i).map (lapN n)) tok ks vs h2 := by
        rw [← hh2]; exact (b.other _ _ (by decide) (by decide) (by decide) (by decide)).other _ _ (by decide) (by decide) (by decide) (by decide)
      rw [hh2]
      refine drawnP [2, 2, 2, 2, 2, 2, 2, 3] [(7, [0, 0, 0, 0, 0, 0, 0, 0])] 74 (by kernel_rfl) (by kernel_rfl) (by kernel_rfl) (by kernel_rfl) rfl ?_
      simp only [go_sem, c7, b'.b2]
      refine quietD (f94 n hb x hxs.1 hxs.2) (fun _ => rfl) ?_
      simp only [go_sem]
      intro nx5 lv5 hn5 hl5
      have hlf : (tracksF n r.st 0 ++ (lap.take i).map (lapN n)).length ≤ 50000 := by simp only [List.length_append, tracksF_len, List.length_map, hlen]; omega
      refine .inr (callN (f93 n r lap _ ⟨2, x.s, posF n x, -1⟩ tok ks vs nx5 lv5 hlf b'.sn (okT_mono hok fun j z => hl5 j z)) (fun _ => rfl) (fun _ => rfl) (l1 := .own 18 0) (l2 := .own 16 0) (by decide) (by simp [AH.cells, b'.b18]) (by simp [AH.cells, b'.b16]) b'.sn ?_)
      intro tok6 ks6 vs6 nx6 lv6 hok6 hs6
      have hnew : ndA (tracksF n r.st 0 ++ (lap.take i).map (lapN n)) ⟨2, x.s, posF n x, -1⟩ = tracksF n r.st 0 ++ (lap.take (i + 1)).map (lapN n) := by
        rw [htk]
        exact lap_new n r.st (lap.take i) x (honce i x hx)
      rw [hnew] at hs6 ⊢
      simp only [go_sem, kDraw_eq]
      intro nx7 lv7 hn7 hl7
      simp only [hN, ew]
      refine ⟨by kernel_rfl, i + 1, ?_, by simp only; omega⟩
      simp only [go_sem]
      exact ⟨by simp, by omega, _, _, _, tok6, ks6, vs6, rfl, b'.set hs6, okT_mono hok6 fun j z => hl7 j z⟩
    · have hlt' : ((i : Int) < (lap.length : Int)) = False := by simp; omega
      rw [List.take_of_length_le (by omega)] at b
      simp only [go_sem, e42, hlt', hX, b.b3]
      refine AW_loopH [10, 58, 59, 60, 61, 62, 63, 64]
        (fun (i : Nat) ρ m => ρ 58 = .int .i64 (i : Int) ∧ i ≤ r.st.length ∧ ∃ h nx lv tok ks vs l, m = ⟨h, [], nx, lv⟩ ∧ NB n r lap l tok ks vs h ∧ okT m tok ∧ l.length ≤ 100 + 512 * i ∧ (∀ y ∈ l, y.k ≠ 5) ∧ looksF n r.fr r.st lap (r.st.drop i) i l ++ [⟨5, r.fr, 0, -1⟩] = F) (fun i => r.st.length - i) 0 ?_ ?_
      · simp only [go_sem]
        refine ⟨Nat.zero_le _, _, _, _, tok, ks, vs, _, rfl, b, hok, ?_, ?_, hF⟩
        · simp only [List.length_append, tracksF_len, List.length_map]; omega
        · intro y hy
          simp only [List.mem_append, List.mem_map] at hy
          rcases hy with hy | ⟨z, _, rfl⟩
          · have := (tracksF_mem hy).1
            omega
          · simp [lapN]
      clear b hok
      rintro i ρ m ⟨e58, g1, h, nx4, lv4, tok, ks, vs, l, rfl, b, hok, hll, hk5, g2⟩ Q hN hR hX
      by_cases hlt : i < r.st.length
      · obtain ⟨x, hx⟩ : ∃ x, r.st[i]? = some x := ⟨_, List.getElem?_eq_getElem hlt⟩
        have hlt' : ((i : Int) < (r.st.length : Int)) = True := by simp; omega
        have ew : IntKind.i64.wrap ((i : Int) + 1) = (i : Int) + 1 := i64_in (by omega) (by omega)
        have hd : r.st.drop i = x :: r.st.drop (i + 1) := by
          rw [List.drop_eq_getElem_cons hlt]
          rw [List.getElem?_eq_getElem hlt] at hx
          cases hx; rfl
        rw [hd] at g2
        simp only [looksF] at g2
        have hlen := lookS_len n r.fr r.st lap i x l
        simp only [go_sem, e58, hlt']
        refine .inr (callN (f95 n hb he r (by omega) lap (by omega) i x hx (hr.st x (List.mem_of_getElem? hx)) l tok ks vs nx4 lv4 (by omega) b.sn (okT_mono hok fun j z => z)) (fun _ => rfl) (fun _ => rfl) (l1 := .own 18 0) (l2 := .own 16 0) (by decide) (by simp [AH.cells, b.b18]) (by simp [AH.cells, b.b16]) b.sn ?_)
        intro tok6 ks6 vs6 nx6 lv6 hok6 hs6
        simp only [go_sem, hN, ew]
        refine ⟨by kernel_rfl, i + 1, ?_, by simp only; omega⟩
        simp only [go_sem]
        exact ⟨by simp, by omega, _, _, _, tok6, ks6, vs6, _, rfl, b.set hs6, okT_mono hok6 fun j z => z, by omega, fun y hy => (overO_mem (fun l s e y h => lookF_mem n r.fr r.st lap i 8 l s e y h) _ _ _ y hy).elim (hk5 y) (fun z => by omega), by rw [← g2]; simp⟩
      · have hlt' : ((i : Int) < (r.st.length : Int)) = False := by simp; omega
        rw [List.drop_eq_nil_of_le (by omega)] at g2
        simp only [looksF] at g2
        simp only [go_sem, e58, hlt', hX, b.b3]
        refine .inr (callN (f93 n r lap l ⟨5, r.fr, 0, -1⟩ tok ks vs nx4 lv4 (by omega) b.sn (okT_mono hok fun j z => z)) (fun _ => rfl) (fun _ => rfl) (l1 := .own 18 0) (l2 := .own 16 0) (by decide) (by simp [AH.cells, b.b18]) (by simp [AH.cells, b.b16]) b.sn ?_)
        intro tok6 ks6 vs6 nx6 lv6 hok6 hs6
        have hnew : ndA l ⟨5, r.fr, 0, -1⟩ = F := by
          rw [← g2]
          unfold ndA
          rw [if_neg fun z => hk5 _ z rfl]
        rw [hnew] at hs6 ⊢
        simp only [go_sem, kCells, nCells, List.cons_append, List.nil_append]
end Go.Proofs.YteadhjclchjfjaaGreat

/- Needs: the reference's. -/
namespace Go.Proofs.YteadhjclchjfjaaGreat
set_option linter.unusedSimpArgs false
set_option linter.unusedVariables false
open Go.AB

/-- What a call comes to that hands on a list of needs. -/
def outS (l : List Nd) : AH → AV → Prop := fun m r => m.o = [] ∧ ∃ tok, r = .sl 4 (l.map dNd) tok ∧ okN m.nx m.lv tok
theorem callS {k : Nat} {bs args : List AV} {σ : AS} {dst : Option Nat} {K : AS → Prop} {g : List Nd} (h : QCall Tryz.prog k ⟨[], [], σ.m.nx, σ.m.lv⟩ args (outS g)) (h1 : rnAL (outF []) args = some args)
    (hK : ∀ tok' nx2 lv2, okN nx2 lv2 tok' → K (AS.put ⟨σ.s, ⟨σ.m.h, σ.m.o, nx2, lv2⟩⟩ dst (.sl 4 (g.map dNd) tok'))) : callX Tryz.prog k bs args σ dst K := by
  refine callX.own h1 h ?_
  rintro m' r ⟨ho, tok, rfl, hok⟩
  exact ⟨ho, .sl 4 (g.map dNd) tok, rfl, hK tok _ _ hok⟩

set_option maxHeartbeats 1000000 in
set_option maxRecDepth 20000 in
theorem f103 (l : List Nd) (x : Nd) (tok : Tok) (nx : Nat) (lv : Nat → Prop) (hl : l.length ≤ 50000) (hok : okT ⟨[], [], nx, lv⟩ tok) :
    QCall Tryz.prog 103 ⟨[], [], nx, lv⟩ [.sl 4 (l.map dNd) tok, eNd x] (outS (ndA l x)) := by
  refine QCall.lt fun hlt => ?_
  simp only at hlt
  refine QCall.of_body Tryz.func103 rfl Tryz.ntmps103 (congrArg Array.toList Tryz.results103) ?_
  intro E
  simp only [go_sem, eNd]
  refine AW_loopH [4, 6, 9, 10, 11, 12, 13, 14, 15, 16, 17]
    (fun (i : Nat) ρ m => ρ 9 = .int .i64 (i : Int) ∧ i ≤ l.length ∧ x ∉ l.take i ∧ ∃ h, m = ⟨h, [], nx, lv⟩ ∧ AB.hget h 3 = some (0, [.int .i64 x.k, .int .i64 x.p, .int .i64 x.o, .int .i64 x.a])) (fun i => l.length - i) 0 ?_ ?_
  · simp only [go_sem]
    exact ⟨Nat.zero_le _, by simp, _, rfl, by simp [go_sem]⟩
  rintro i ρ m ⟨e9, g1, g2, h, rfl, b3⟩ Q hN hR hX
  by_cases hlt2 : i < l.length
  · obtain ⟨y, hy⟩ : ∃ y, l[i]? = some y := ⟨_, List.getElem?_eq_getElem hlt2⟩
    have hyp : (l.map dNd)[i]? = some (dNd y) := by rw [List.getElem?_map, hy]; rfl
    have hlt' : ((i : Int) < (l.length : Int)) = True := by simp; omega
    have h0 : ((0 : Int) ≤ (i : Int)) = True := by simp
    have ew : IntKind.i64.wrap ((i : Int) + 1) = (i : Int) + 1 := i64_in (by omega) (by omega)
    obtain ⟨g6, hg6⟩ : ∃ g6, genO (AB.hget h 6) = g6 := ⟨_, rfl⟩
    have htk : l.take (i + 1) = l.take i ++ [y] := by rw [List.take_add_one, hy]; rfl
    simp only [go_sem, e9, hlt', h0, hyp, hy, Option.map_some, dNd, hg6, b3]
    refine ⟨fun hq => ?_, fun hq => ?_⟩
    · have : x = y := by
        obtain ⟨a, b, c, d⟩ := x
        obtain ⟨a', b', c', d'⟩ := y
        simpa using hq
      subst this
      have e : ndA l x = l := by simp [ndA, List.mem_of_getElem? hy]
      rw [hR, e]
      exact ⟨rfl, tok, rfl, okN.of hok hlt⟩
    · have hne : x ≠ y := by
        rintro rfl
        simp at hq
      rw [hN]
      simp only [go_sem, ew]
      refine ⟨by kernel_rfl, i + 1, ?_, by simp only; omega⟩
      simp only [go_sem]
      refine ⟨by simp, by omega, ?_, _, rfl, by simp [go_sem, b3]⟩
      rw [htk]
      simpa using ⟨g2, hne⟩
  · have hlt' : ((i : Int) < (l.length : Int)) = False := by simp; omega
    rw [List.take_of_length_le (by omega)] at g2
    have e : ndA l x = l ++ [x] := by simp [ndA, g2]
    simp only [go_sem, e9, hlt', hX, b3]
    refine ⟨okT_mono hok fun j z => .inr z, by omega, rfl, .own (nx + 1), ?_, .inl rfl, Nat.lt_succ_self _⟩
    rw [e]
    simp [dNd]

set_option maxHeartbeats 4000000 in
set_option maxRecDepth 20000 in
theorem f74 (n : Net) (hb : NetB n) (he : netE n = 0) (r : Rt) (hr : r.st.length ≤ 1000) (lap : List Stp) (hlap : lap.length ≤ 1000) (step : Int) : ∀ (k : Nat) (l : List Nd) (s e seen : Int) (tok : Tok) (nx : Nat) (lv : Nat → Prop), seen = 8 - (k : Int) → k ≤ 8 → l.length + 2 ^ k ≤ 50000 → okT ⟨[], [], nx, lv⟩ tok →
    QCall Tryz.prog 74 ⟨[], [], nx, lv⟩ [eNet n, eRt0 r, .sl 3 (lap.map dStp) .no, .sl 4 (l.map dNd) tok, .int .i64 step, .int .i64 s, .int .i64 e, .int .i64 seen] (outS (lookF n r.fr r.st lap step k l s e)) := by
  intro k
  induction k with
  | zero =>
    intro l s e seen tok nx lv hm hk hl hok
    have hm' : (seen = 8) = True := eq_true (by omega)
    refine QCall.lt fun hlt => ?_
    simp only at hlt
    refine QCall.of_body Tryz.func74 rfl Tryz.ntmps74 (congrArg Array.toList Tryz.results74) ?_
    intro E
    simp only [go_sem, eNet, nCells, eRt0]
    refine callVt (f66 n s e hb) ?_
    intro nx1 lv1 hn1 hl1
    have done : ∀ (h : List (Nat × Nat × List AV)) (nx2 : Nat) (lv2 : Nat → Prop), nx1 ≤ nx2 → (∀ j, lv1 j → lv2 j) → outS (lookF n r.fr r.st lap step 0 l s e) ⟨h, [], nx2, lv2⟩ (.sl 4 (l.map dNd) tok) := fun h nx2 lv2 hn2 hl2 =>
      ⟨rfl, tok, rfl, (okN.of hok hlt).mono (by simp only at hn1 ⊢; omega) fun j z => hl2 j (hl1 j z)⟩
    cases hj : (joinL n.links s e).isSome with
    | false =>
      simp only [go_sem, hj]
      exact done _ _ _ (Nat.le_refl _) fun _ z => z
    | true =>
      simp only [go_sem, hj]
      refine callVt (f68 r.st _ (by omega)) ?_
      intro nx2 lv2 hn2 hl2
      cases h1 : psec r.st (joinS (joinL n.links s e)) with
      | true =>
        simp only [go_sem]
        exact done _ _ _ hn2 hl2
      | false =>
        simp only [go_sem]
        refine callVt (f68 lap _ (by omega)) ?_
        intro nx3 lv3 hn3 hl3
        cases h2 : psec lap (joinS (joinL n.links s e)) with
        | true =>
          simp only [go_sem]
          exact done _ _ _ (Nat.le_trans hn2 hn3) fun j z => hl3 j (hl2 j z)
        | false =>
          simp only [go_sem, hm']
          exact done _ _ _ (Nat.le_trans hn2 hn3) fun j z => hl3 j (hl2 j z)
  | succ k ih =>
    intro l s e seen tok nx lv hm hk hl hok
    have hm' : (seen = 8) = False := eq_false (by omega)
    have hll : l.length ≤ 50000 := Nat.le_trans (Nat.le_add_right _ _) hl
    rw [Nat.pow_succ] at hl
    have ewm : IntKind.i64.wrap (seen + 1) = seen + 1 := i64_in (by omega) (by omega)
    refine QCall.lt fun hlt => ?_
    simp only at hlt
    refine QCall.of_body Tryz.func74 rfl Tryz.ntmps74 (congrArg Array.toList Tryz.results74) ?_
    intro E
    generalize hF : lookF n r.fr r.st lap step (k + 1) l s e = F
    unfold lookF lookG at hF
    have hok0 : okN nx lv tok := okN.of hok hlt
    simp only [go_sem, eNet, nCells, eRt0]
    refine callVt (f66 n s e hb) ?_
    intro nx1 lv1 hn1 hl1
    have hok1 : okN nx1 lv1 tok := hok0.mono hn1 hl1
    cases hj : joinL n.links s e with
    | none =>
      rw [hj] at hF
      simp only at hF
      subst hF
      simp only [go_sem, Option.isSome_none]
      exact ⟨rfl, tok, rfl, hok1⟩
    | some q =>
      obtain ⟨t, u⟩ := q
      rw [hj] at hF
      simp only at hF
      simp only [go_sem, hm', Option.isSome_some, joinS, joinE]
      refine callVt (f68 r.st t (by omega)) ?_
      intro nx2 lv2 hn2 hl2
      have hok2 : okN nx2 lv2 tok := hok1.mono hn2 hl2
      by_cases a1 : psec r.st t = true
      · rw [if_pos (.inl a1)] at hF
        subst hF
        simp only [go_sem, a1]
        exact ⟨rfl, tok, rfl, hok2⟩
      have a1 : psec r.st t = false := by simpa using a1
      simp only [go_sem, a1]
      refine callVt (f68 lap t (by omega)) ?_
      intro nx3 lv3 hn3 hl3
      have hok3 : okN nx3 lv3 tok := hok2.mono hn3 hl3
      by_cases a2 : psec lap t = true
      · rw [if_pos (.inr a2)] at hF
        subst hF
        simp only [go_sem, a2]
        exact ⟨rfl, tok, rfl, hok3⟩
      have a2 : psec lap t = false := by simpa using a2
      rw [if_neg (by simp [a1, a2])] at hF
      have hfl := joinL_has he hj
      obtain ⟨⟨q1, q2⟩, q3, q4⟩ := hasF_iff.1 hfl
      have hltt : t.toNat < n.sects.length := by omega
      obtain ⟨c, hc⟩ : ∃ c, n.sects[t.toNat]? = some c := ⟨_, List.getElem?_eq_getElem hltt⟩
      have hc2 : (n.sects.map dSect)[t.toNat]? = some (dSect c) := by rw [List.getElem?_map, hc]; rfl
      have hkd : kindAt n t = c.kind := by simp [kindAt, hc]
      have hkc := netE_kinds he c (List.mem_of_getElem? hc)
      have i1 : ((0 : Int) ≤ t) = True := eq_true q1
      have i2 : (t < (n.sects.length : Int)) = True := eq_true (by omega)
      have hu3 : u ≤ 3 := by have := endsF_bd (kindAt n t); omega
      rw [hkd] at hF
      by_cases b1 : c.kind = 2 ∧ 0 < u
      · rw [if_pos b1] at hF
        have b1a : (c.kind = 2) = True := eq_true b1.1
        have b1b : (0 < u) = True := eq_true b1.2
        have ew3 : IntKind.i64.wrap (3 - u) = 3 - u := i64_in (by omega) (by omega)
        simp only [go_sem, a2, hm', i1, i2, hc, hc2, Option.map_some, dSect, b1a, b1b]
        refine AW_loopH [16, 22, 66, 67, 68, 69, 70, 71, 72, 73, 74, 75, 76, 77, 78, 79, 80, 81, 82, 83, 84, 85, 86]
          (fun (i : Nat) ρ m => ρ 66 = .int .i64 (i : Int) ∧ i ≤ l.length ∧ flankP (l.drop i) t u = flankP l t u ∧ ∃ h, m = ⟨h, [], nx3, lv3⟩) (fun i => l.length - i) 0 ?_ ?_
        · simp only [go_sem]
          first | exact ⟨Nat.zero_le _, rfl, _, rfl⟩ | exact ⟨Nat.zero_le _, _, rfl⟩ | exact ⟨Nat.zero_le _, rfl⟩ | exact Nat.zero_le _ | simp
        rintro i ρ m ⟨e66, g1, g2, h, rfl⟩ Q hN hR hX
        by_cases hlt2 : i < l.length
        · obtain ⟨y, hy⟩ : ∃ y, l[i]? = some y := ⟨_, List.getElem?_eq_getElem hlt2⟩
          have hyp : (l.map dNd)[i]? = some (dNd y) := by rw [List.getElem?_map, hy]; rfl
          have hlt' : ((i : Int) < (l.length : Int)) = True := by simp; omega
          have h0 : ((0 : Int) ≤ (i : Int)) = True := by simp
          have ew : IntKind.i64.wrap ((i : Int) + 1) = (i : Int) + 1 := i64_in (by omega) (by omega)
          have hd : l.drop i = y :: l.drop (i + 1) := by
            rw [List.drop_eq_getElem_cons hlt2]
            rw [List.getElem?_eq_getElem hlt2] at hy
            cases hy; rfl
          rw [hd] at g2
          simp only [flankP, List.any_cons] at g2
          obtain ⟨g6, hg6⟩ : ∃ g6, genO (AB.hget h 22) = g6 := ⟨_, rfl⟩
          by_cases y1 : y.k = 3
          · have y1' : (y.k = 3) = True := eq_true y1
            by_cases y2 : y.p = t
            · have y2' : (y.p = t) = True := eq_true y2
              by_cases y3 : y.o = u
              · have y3' : (y.o = u) = True := eq_true y3
                have : flankP l t u = true := by unfold flankP; rw [← g2]; simp [y1, y2, y3]
                rw [if_pos this] at hF
                subst hF
                simp only [go_sem, e66, hlt', h0, hyp, hy, Option.map_some, dNd, hg6, y1', y2', y3', hR]
                exact ⟨rfl, tok, rfl, hok3⟩
              · have y3' : (y.o = u) = False := eq_false y3
                simp only [go_sem, e66, hlt', h0, hyp, hy, Option.map_some, dNd, hg6, y1', y2', y3', hN, ew]
                refine ⟨by kernel_rfl, i + 1, ?_, by simp only; omega⟩
                simp only [go_sem]
                refine ⟨by simp, by omega, ?_, _, rfl⟩
                unfold flankP; rw [← g2]; simp [y3]
            · have y2' : (y.p = t) = False := eq_false y2
              simp only [go_sem, e66, hlt', h0, hyp, hy, Option.map_some, dNd, hg6, y1', y2', hN, ew]
              refine ⟨by kernel_rfl, i + 1, ?_, by simp only; omega⟩
              simp only [go_sem]
              refine ⟨by simp, by omega, ?_, _, rfl⟩
              unfold flankP; rw [← g2]; simp [y2]
          · have y1' : (y.k = 3) = False := eq_false y1
            simp only [go_sem, e66, hlt', h0, hyp, hy, Option.map_some, dNd, hg6, y1', hN, ew]
            refine ⟨by kernel_rfl, i + 1, ?_, by simp only; omega⟩
            simp only [go_sem]
            refine ⟨by simp, by omega, ?_, _, rfl⟩
            unfold flankP; rw [← g2]; simp [y1]
        · have hlt' : ((i : Int) < (l.length : Int)) = False := by simp; omega
          rw [List.drop_eq_nil_of_le (by omega)] at g2
          rw [if_neg (by rw [← g2]; simp [flankP])] at hF
          subst hF
          simp only [go_sem, e66, hlt', hX, ew3]
          refine callS (f103 l ⟨3, t, 3 - u, step⟩ tok nx3 lv3 hll hok3.t) rfl ?_
          intro tok4 nx4 lv4 hok4
          simp only [go_sem]
          exact ⟨rfl, tok4, rfl, hok4⟩
      rw [if_neg b1] at hF
      by_cases c1 : c.kind = 1 ∧ 0 ≤ sigIdx n.sigs t u 0
      · rw [if_pos c1] at hF
        have c1a : (c.kind = 1) = True := eq_true c1.1
        have c1b : (c.kind = 2) = False := eq_false (by omega)
        have c2a : (0 ≤ sigIdx n.sigs t u 0) = True := eq_true c1.2
        simp only [go_sem, a2, hm', i1, i2, hc, hc2, Option.map_some, dSect, c1b]
        refine callVt (f70 n t u hb) ?_
        intro nx4 lv4 hn4 hl4
        have hok4 : okN nx4 lv4 tok := hok3.mono hn4 hl4
        by_cases c3 : sigIdx n.sigs t u 0 = r.fr
        · rw [if_pos c3] at hF
          have c3a : (sigIdx n.sigs t u 0 = r.fr) = True := eq_true c3
          subst hF
          simp only [go_sem, c1a, c2a, c3a]
          exact ⟨rfl, tok, rfl, hok4⟩
        · rw [if_neg c3] at hF
          have c3a : (sigIdx n.sigs t u 0 = r.fr) = False := eq_false c3
          simp only [go_sem, c1a, c2a, c3a]
          subst hF
          refine callS (f103 l ⟨4, sigIdx n.sigs t u 0, 0, step⟩ tok nx4 lv4 hll hok4.t) rfl ?_
          intro tok5 nx5 lv5 hok5
          simp only [go_sem]
          exact ⟨rfl, tok5, rfl, hok5⟩
      rw [if_neg c1] at hF
      have hcs : (c.kind = 2 ∧ ¬ 0 < u) ∨ (c.kind = 1 ∧ ¬ 0 ≤ sigIdx n.sigs t u 0) ∨ c.kind = 3 := by omega
      rcases hcs with ⟨c2, c3⟩ | ⟨c2, c3⟩ | c2
      · have c2a : (c.kind = 2) = True := eq_true c2
        have c2c : (c.kind = 1) = False := eq_false (by omega)
        have c2d : (0 < u) = False := eq_false c3
        simp only [go_sem, a2, hm', i1, i2, hc, hc2, Option.map_some, dSect, c2a, c2d]
        refine callVt (f70 n t u hb) ?_
        intro nx4 lv4 hn4 hl4
        have hok4 : okN nx4 lv4 tok := hok3.mono hn4 hl4
        simp only [go_sem, c2c]
        refine callVt (f69 c.kind u hkc.1 hkc.2 q3 (by rw [← hkd]; omega)) ?_
        intro nx6 lv6 hn6 hl6
        have hok6 : okN nx6 lv6 tok := hok4.mono hn6 hl6
        have hle := outsF_len c.kind u
        generalize outsF c.kind u = os at hF hle ⊢
        simp only [go_sem, lInts]
        refine AW_loopH [3, 25, 118, 119, 120, 121, 122, 123, 124, 125, 126, 127, 128, 129, 130, 131, 132]
          (fun (j : Nat) ρ m => ρ 118 = .int .i64 (j : Int) ∧ j ≤ os.length ∧ ∃ h nx lv tok l', ρ 3 = .sl 4 (l'.map dNd) tok ∧ m = ⟨h, [], nx, lv⟩ ∧ AB.hget h 8 = some (0, [.sl 1 (n.names.map DV.str) .no, .sl 7 (n.sects.map dSect) .no, .sl 4 (n.links.map dLnk) .no, .sl 2 (n.sigs.map dPair) .no, .sl 2 (n.gates.map dPair) .no]) ∧
            AB.hget h 9 = some (0, [.int .i64 r.fr, .int .i64 r.to, .sl 3 (r.st.map dStp) .no]) ∧ okN nx lv tok ∧
            l'.length + (os.length - j) * 2 ^ k ≤ 50000 ∧ overO (lookF n r.fr r.st lap step k) t (os.drop j) l' = F) (fun j => os.length - j) 0 ?_ ?_
        · simp only [go_sem]
          refine ⟨Nat.zero_le _, _, _, _, tok, l, ⟨rfl, rfl⟩, rfl, by simp [go_sem], by simp [go_sem], hok6, ?_, hF⟩
          have := Nat.mul_le_mul_right (2 ^ k) hle
          rw [Nat.sub_zero]
          omega
        rintro j ρ m ⟨e118, g1, h, nx7, lv7, tok7, l7, e3, rfl, b8, b9, hok7, hl7, g2⟩ Q hN hR hX
        by_cases hlt2 : j < os.length
        · obtain ⟨o, ho⟩ : ∃ o, os[j]? = some o := ⟨_, List.getElem?_eq_getElem hlt2⟩
          have hlt' : ((j : Int) < (os.length : Int)) = True := by simp; omega
          have h0 : ((0 : Int) ≤ (j : Int)) = True := by simp
          have ew : IntKind.i64.wrap ((j : Int) + 1) = (j : Int) + 1 := i64_in (by omega) (by omega)
          have hd : os.drop j = o :: os.drop (j + 1) := by
            rw [List.drop_eq_getElem_cons hlt2]
            rw [List.getElem?_eq_getElem hlt2] at ho
            cases ho; rfl
          rw [hd, overO_cons] at g2
          have hsub : os.length - j = (os.length - (j + 1)) + 1 := by omega
          rw [hsub, Nat.succ_mul] at hl7
          have hlen := lookF_len n r.fr r.st lap step k l7 t o
          simp only [go_sem, e118, e3, hlt', h0, ho, Option.map_some, b8, b9, ewm]
          refine callS (ih l7 t o (seen + 1) tok7 nx7 lv7 (by omega) (by omega) (by omega) hok7.t) rfl ?_
          intro tok8 nx8 lv8 hok8
          simp only [go_sem, hN, ew]
          refine ⟨by kernel_rfl, j + 1, ?_, by simp only; omega⟩
          simp only [go_sem]
          exact ⟨by simp, by omega, _, _, _, tok8, _, ⟨rfl, rfl⟩, rfl, b8, b9, hok8, by omega, g2⟩
        · have hlt' : ((j : Int) < (os.length : Int)) = False := by simp; omega
          rw [List.drop_eq_nil_of_le (by omega), overO_nil] at g2
          subst g2
          simp only [go_sem, e118, e3, hlt', hX]
          exact ⟨rfl, tok7, rfl, hok7⟩
      · have c2a : (c.kind = 1) = True := eq_true c2
        have c2c : (c.kind = 2) = False := eq_false (by omega)
        have c2d : (0 ≤ sigIdx n.sigs t u 0) = False := eq_false c3
        simp only [go_sem, a2, hm', i1, i2, hc, hc2, Option.map_some, dSect, c2c]
        refine callVt (f70 n t u hb) ?_
        intro nx4 lv4 hn4 hl4
        have hok4 : okN nx4 lv4 tok := hok3.mono hn4 hl4
        simp only [go_sem, c2a, c2d]
        refine callVt (f69 c.kind u hkc.1 hkc.2 q3 (by rw [← hkd]; omega)) ?_
        intro nx6 lv6 hn6 hl6
        have hok6 : okN nx6 lv6 tok := hok4.mono hn6 hl6
        have hle := outsF_len c.kind u
        generalize outsF c.kind u = os at hF hle ⊢
        simp only [go_sem, lInts]
        refine AW_loopH [3, 25, 118, 119, 120, 121, 122, 123, 124, 125, 126, 127, 128, 129, 130, 131, 132]
          (fun (j : Nat) ρ m => ρ 118 = .int .i64 (j : Int) ∧ j ≤ os.length ∧ ∃ h nx lv tok l', ρ 3 = .sl 4 (l'.map dNd) tok ∧ m = ⟨h, [], nx, lv⟩ ∧ AB.hget h 8 = some (0, [.sl 1 (n.names.map DV.str) .no, .sl 7 (n.sects.map dSect) .no, .sl 4 (n.links.map dLnk) .no, .sl 2 (n.sigs.map dPair) .no, .sl 2 (n.gates.map dPair) .no]) ∧
            AB.hget h 9 = some (0, [.int .i64 r.fr, .int .i64 r.to, .sl 3 (r.st.map dStp) .no]) ∧ okN nx lv tok ∧
            l'.length + (os.length - j) * 2 ^ k ≤ 50000 ∧ overO (lookF n r.fr r.st lap step k) t (os.drop j) l' = F) (fun j => os.length - j) 0 ?_ ?_
        · simp only [go_sem]
          refine ⟨Nat.zero_le _, _, _, _, tok, l, ⟨rfl, rfl⟩, rfl, by simp [go_sem], by simp [go_sem], hok6, ?_, hF⟩
          have := Nat.mul_le_mul_right (2 ^ k) hle
          rw [Nat.sub_zero]
          omega
        rintro j ρ m ⟨e118, g1, h, nx7, lv7, tok7, l7, e3, rfl, b8, b9, hok7, hl7, g2⟩ Q hN hR hX
        by_cases hlt2 : j < os.length
        · obtain ⟨o, ho⟩ : ∃ o, os[j]? = some o := ⟨_, List.getElem?_eq_getElem hlt2⟩
          have hlt' : ((j : Int) < (os.length : Int)) = True := by simp; omega
          have h0 : ((0 : Int) ≤ (j : Int)) = True := by simp
          have ew : IntKind.i64.wrap ((j : Int) + 1) = (j : Int) + 1 := i64_in (by omega) (by omega)
          have hd : os.drop j = o :: os.drop (j + 1) := by
            rw [List.drop_eq_getElem_cons hlt2]
            rw [List.getElem?_eq_getElem hlt2] at ho
            cases ho; rfl
          rw [hd, overO_cons] at g2
          have hsub : os.length - j = (os.length - (j + 1)) + 1 := by omega
          rw [hsub, Nat.succ_mul] at hl7
          have hlen := lookF_len n r.fr r.st lap step k l7 t o
          simp only [go_sem, e118, e3, hlt', h0, ho, Option.map_some, b8, b9, ewm]
          refine callS (ih l7 t o (seen + 1) tok7 nx7 lv7 (by omega) (by omega) (by omega) hok7.t) rfl ?_
          intro tok8 nx8 lv8 hok8
          simp only [go_sem, hN, ew]
          refine ⟨by kernel_rfl, j + 1, ?_, by simp only; omega⟩
          simp only [go_sem]
          exact ⟨by simp, by omega, _, _, _, tok8, _, ⟨rfl, rfl⟩, rfl, b8, b9, hok8, by omega, g2⟩
        · have hlt' : ((j : Int) < (os.length : Int)) = False := by simp; omega
          rw [List.drop_eq_nil_of_le (by omega), overO_nil] at g2
          subst g2
          simp only [go_sem, e118, e3, hlt', hX]
          exact ⟨rfl, tok7, rfl, hok7⟩
      · have c2a : (c.kind = 1) = False := eq_false (by omega)
        have c2c : (c.kind = 2) = False := eq_false (by omega)
        simp only [go_sem, a2, hm', i1, i2, hc, hc2, Option.map_some, dSect, c2c]
        refine callVt (f70 n t u hb) ?_
        intro nx4 lv4 hn4 hl4
        have hok4 : okN nx4 lv4 tok := hok3.mono hn4 hl4
        simp only [go_sem, c2a]
        refine callVt (f69 c.kind u hkc.1 hkc.2 q3 (by rw [← hkd]; omega)) ?_
        intro nx6 lv6 hn6 hl6
        have hok6 : okN nx6 lv6 tok := hok4.mono hn6 hl6
        have hle := outsF_len c.kind u
        generalize outsF c.kind u = os at hF hle ⊢
        simp only [go_sem, lInts]
        refine AW_loopH [3, 25, 118, 119, 120, 121, 122, 123, 124, 125, 126, 127, 128, 129, 130, 131, 132]
          (fun (j : Nat) ρ m => ρ 118 = .int .i64 (j : Int) ∧ j ≤ os.length ∧ ∃ h nx lv tok l', ρ 3 = .sl 4 (l'.map dNd) tok ∧ m = ⟨h, [], nx, lv⟩ ∧ AB.hget h 8 = some (0, [.sl 1 (n.names.map DV.str) .no, .sl 7 (n.sects.map dSect) .no, .sl 4 (n.links.map dLnk) .no, .sl 2 (n.sigs.map dPair) .no, .sl 2 (n.gates.map dPair) .no]) ∧
            AB.hget h 9 = some (0, [.int .i64 r.fr, .int .i64 r.to, .sl 3 (r.st.map dStp) .no]) ∧ okN nx lv tok ∧
            l'.length + (os.length - j) * 2 ^ k ≤ 50000 ∧ overO (lookF n r.fr r.st lap step k) t (os.drop j) l' = F) (fun j => os.length - j) 0 ?_ ?_
        · simp only [go_sem]
          refine ⟨Nat.zero_le _, _, _, _, tok, l, ⟨rfl, rfl⟩, rfl, by simp [go_sem], by simp [go_sem], hok6, ?_, hF⟩
          have := Nat.mul_le_mul_right (2 ^ k) hle
          rw [Nat.sub_zero]
          omega
        rintro j ρ m ⟨e118, g1, h, nx7, lv7, tok7, l7, e3, rfl, b8, b9, hok7, hl7, g2⟩ Q hN hR hX
        by_cases hlt2 : j < os.length
        · obtain ⟨o, ho⟩ : ∃ o, os[j]? = some o := ⟨_, List.getElem?_eq_getElem hlt2⟩
          have hlt' : ((j : Int) < (os.length : Int)) = True := by simp; omega
          have h0 : ((0 : Int) ≤ (j : Int)) = True := by simp
          have ew : IntKind.i64.wrap ((j : Int) + 1) = (j : Int) + 1 := i64_in (by omega) (by omega)
          have hd : os.drop j = o :: os.drop (j + 1) := by
            rw [List.drop_eq_getElem_cons hlt2]
            rw [List.getElem?_eq_getElem hlt2] at ho
            cases ho; rfl
          rw [hd, overO_cons] at g2
          have hsub : os.length - j = (os.length - (j + 1)) + 1 := by omega
          rw [hsub, Nat.succ_mul] at hl7
          have hlen := lookF_len n r.fr r.st lap step k l7 t o
          simp only [go_sem, e118, e3, hlt', h0, ho, Option.map_some, b8, b9, ewm]
          refine callS (ih l7 t o (seen + 1) tok7 nx7 lv7 (by omega) (by omega) (by omega) hok7.t) rfl ?_
          intro tok8 nx8 lv8 hok8
          simp only [go_sem, hN, ew]
          refine ⟨by kernel_rfl, j + 1, ?_, by simp only; omega⟩
          simp only [go_sem]
          exact ⟨by simp, by omega, _, _, _, tok8, _, ⟨rfl, rfl⟩, rfl, b8, b9, hok8, by omega, g2⟩
        · have hlt' : ((j : Int) < (os.length : Int)) = False := by simp; omega
          rw [List.drop_eq_nil_of_le (by omega), overO_nil] at g2
          subst g2
          simp only [go_sem, e118, e3, hlt', hX]
          exact ⟨rfl, tok7, rfl, hok7⟩
end Go.Proofs.YteadhjclchjfjaaGreat

/- Needs: all of the reference's. -/
namespace Go.Proofs.YteadhjclchjfjaaGreat
set_option linter.unusedSimpArgs false
set_option linter.unusedVariables false
open Go.AB

/-- What the variables of the reference's needs hold. -/
structure NR (n : Net) (r : Rt) (h : List (Nat × Nat × List AV)) : Prop where
  b2 : AB.hget h 2 = some (0, [.sl 1 (n.names.map DV.str) .no, .sl 7 (n.sects.map dSect) .no, .sl 4 (n.links.map dLnk) .no, .sl 2 (n.sigs.map dPair) .no, .sl 2 (n.gates.map dPair) .no])
  b3 : AB.hget h 3 = some (0, [.int .i64 r.fr, .int .i64 r.to, .sl 3 (r.st.map dStp) .no])
theorem NR.other {n : Net} {r : Rt} {h : List (Nat × Nat × List AV)} (b : NR n r h) {t : Nat} (g : Nat) (cs : List AV) (h2 : t ≠ 2) (h3 : t ≠ 3) : NR n r (AB.hset h t g cs) :=
  ⟨by rw [hget_set_ne _ _ _ h2]; exact b.b2, by rw [hget_set_ne _ _ _ h3]; exact b.b3⟩

set_option maxHeartbeats 4000000 in
set_option maxRecDepth 20000 in
theorem f34 (n : Net) (hb : NetB n) (he : netE n = 0) (r : Rt) (hr : RtOk n r) : PCall Tryz.prog 34 [eNet n, eRt0 r] (RV (.sl 4 ((needsR n r).map dNd) .no)) := by
  refine PCall.of_bodyE Tryz.func34 rfl Tryz.ntmps34 (congrArg Array.toList Tryz.results34) ?_
  intro E
  have hl1 := hr.l1
  have hlap := lapF_len n r
  have hall := lapF_all he r
  generalize hF : needsR n r = F
  unfold needsR needsF at hF
  have h43 := f72r n hb he r hr
  generalize lapF n r = lap at hF hlap hall h43 ⊢
  simp only [go_sem, eNet, nCells, eRt0]
  refine callVt h43 ?_
  intro nx1 lv1 hn1 hl1'
  simp only [go_sem]
  refine AW_loopH [5, 7, 8, 20, 21, 22, 23, 24, 25, 26, 27, 28, 29, 30, 31, 32, 33, 34, 35]
    (fun (i : Nat) ρ m => ρ 20 = .int .i64 (i : Int) ∧ i ≤ r.st.length ∧ ∃ h nx lv tok, ρ 5 = .sl 4 ((tracksF n (r.st.take i) 0).map dNd) tok ∧ m = ⟨h, [], nx, lv⟩ ∧ NR n r h ∧ okT m tok) (fun i => r.st.length - i) 0 ?_ ?_
  · simp only [go_sem]
    exact ⟨Nat.zero_le _, _, _, _, .nil, ⟨rfl, rfl⟩, rfl, ⟨by simp [go_sem], by simp [go_sem]⟩, trivial⟩
  rintro i ρ m ⟨e20, g1, h, nx4, lv4, tok, e5, rfl, b, hok⟩ Q hN hR hX
  by_cases hlt : i < r.st.length
  · obtain ⟨x, hx⟩ : ∃ x, r.st[i]? = some x := ⟨_, List.getElem?_eq_getElem hlt⟩
    have hxp : (r.st.map dStp)[i]? = some (dStp x) := by rw [List.getElem?_map, hx]; rfl
    have hlt' : ((i : Int) < (r.st.length : Int)) = True := by simp; omega
    have h0 : ((0 : Int) ≤ (i : Int)) = True := by simp
    have ew : IntKind.i64.wrap ((i : Int) + 1) = (i : Int) + 1 := i64_in (by omega) (by omega)
    have hxs := (hr.st x (List.mem_of_getElem? hx)).sec
    have htk : r.st.take (i + 1) = r.st.take i ++ [x] := by rw [List.take_add_one, hx]; rfl
    have hlen : (r.st.take i).length = i := by simp; omega
    obtain ⟨g7, hg7⟩ : ∃ g7, genO (AB.hget h 8) = g7 := ⟨_, rfl⟩
    simp only [go_sem, e20, hlt', h0, hx, hxp, Option.map_some, dStp, hg7]
    obtain ⟨h2, hh2⟩ : ∃ h2, AB.hset (AB.hset h 8 g7 [.int .i64 0, .int .i64 0, .int .i64 0]) 8 g7 [.int .i64 x.s, .int .i64 x.i, .int .i64 x.o] = h2 := ⟨_, rfl⟩
    have c7 : AB.hget h2 8 = some (g7, [.int .i64 x.s, .int .i64 x.i, .int .i64 x.o]) := by rw [← hh2]; simp [go_sem]
    have b' : NR n r h2 := by
      rw [← hh2]; exact (b.other _ _ (by decide) (by decide)).other _ _ (by decide) (by decide)
    rw [hh2]
    refine drawnP [2, 2, 2, 2, 2, 2, 2, 2, 3, 1, 1] [(8, [2, 0, 0, 0, 0, 0, 0, 0, 0, 3, 1]), (9, [0, 0, 0, 0, 0, 0, 0, 0, 0, 0, 2])] 112 (by kernel_rfl) (by kernel_rfl) (by kernel_rfl) (by kernel_rfl) rfl ?_
    simp only [go_sem, c7, b'.b2, e5]
    refine quietD (f73 n hb x hxs.1 hxs.2) (fun _ => rfl) ?_
    simp only [go_sem]
    intro nx5 lv5 hn5 hl5
    intro nx6 lv6 hn6 hl6
    refine ⟨okT_mono hok fun j z => hl6 j (.inr (hl5 j z)), ?_, ?_⟩
    · simp only [tracksF_len, hlen]; omega
    have hnew : (tracksF n (r.st.take i) 0).map dNd ++ [DV.agg [.int .i64 1, .int .i64 x.s, .int .i64 (posF n x), .int .i64 i]] = (tracksF n (r.st.take (i + 1)) 0).map dNd := by
      rw [htk, tracksF_app, hlen]
      simp [trackN, dNd]
    rw [hnew]
    intro nx7 lv7 hn7 hl7
    simp only [hN, ew]
    refine ⟨by kernel_rfl, i + 1, ?_, by simp only; omega⟩
    simp only [go_sem]
    exact ⟨by simp, by omega, _, _, _, rfl, b', hl7 _ (.inl rfl)⟩
  · have hlt' : ((i : Int) < (r.st.length : Int)) = False := by simp; omega
    rw [List.take_of_length_le (by omega)] at e5
    simp only [go_sem, e20, hlt', hX, e5]
    refine AW_loopH [5, 10, 38, 39, 40, 41, 42, 43, 44, 45, 46, 47, 48, 49, 50, 51]
      (fun (i : Nat) ρ m => ρ 38 = .int .i64 (i : Int) ∧ i ≤ lap.length ∧ ∃ h nx lv tok, ρ 5 = .sl 4 ((tracksF n r.st 0 ++ (lap.take i).map (lapN n)).map dNd) tok ∧ m = ⟨h, [], nx, lv⟩ ∧ NR n r h ∧ okT m tok) (fun i => lap.length - i) 0 ?_ ?_
    · simp only [go_sem]
      first | exact ⟨Nat.zero_le _, _, _, _, rfl, b, hok⟩ | exact ⟨Nat.zero_le _, _, _, _, tok, ⟨by simp, rfl⟩, rfl, b, hok⟩
    clear b hok e5
    rintro i ρ m ⟨e38, g1, h, nx4, lv4, tok, e5, rfl, b, hok⟩ Q hN hR hX
    by_cases hlt : i < lap.length
    · obtain ⟨x, hx⟩ : ∃ x, lap[i]? = some x := ⟨_, List.getElem?_eq_getElem hlt⟩
      have hxp : (lap.map dStp)[i]? = some (dStp x) := by rw [List.getElem?_map, hx]; rfl
      have hlt' : ((i : Int) < (lap.length : Int)) = True := by simp; omega
      have h0 : ((0 : Int) ≤ (i : Int)) = True := by simp
      have ew : IntKind.i64.wrap ((i : Int) + 1) = (i : Int) + 1 := i64_in (by omega) (by omega)
      have hxs := hall x (List.mem_of_getElem? hx)
      have htk : lap.take (i + 1) = lap.take i ++ [x] := by rw [List.take_add_one, hx]; rfl
      have hlen : (lap.take i).length = i := by simp; omega
      obtain ⟨g7, hg7⟩ : ∃ g7, genO (AB.hget h 10) = g7 := ⟨_, rfl⟩
      simp only [go_sem, e38, hlt', h0, hx, hxp, Option.map_some, dStp, hg7]
      obtain ⟨h2, hh2⟩ : ∃ h2, AB.hset (AB.hset h 10 g7 [.int .i64 0, .int .i64 0, .int .i64 0]) 10 g7 [.int .i64 x.s, .int .i64 x.i, .int .i64 x.o] = h2 := ⟨_, rfl⟩
      have c7 : AB.hget h2 10 = some (g7, [.int .i64 x.s, .int .i64 x.i, .int .i64 x.o]) := by rw [← hh2]; simp [go_sem]
      have b' : NR n r h2 := by
        rw [← hh2]; exact (b.other _ _ (by decide) (by decide)).other _ _ (by decide) (by decide)
      rw [hh2]
      refine drawnP [2, 2, 2, 2, 2, 2, 2, 3, 1, 1] [(7, [2, 0, 0, 0, 0, 0, 0, 0, 3, 1]), (8, [0, 0, 0, 0, 0, 0, 0, 0, 0, 2])] 112 (by kernel_rfl) (by kernel_rfl) (by kernel_rfl) (by kernel_rfl) rfl ?_
      simp only [go_sem, c7, b'.b2, e5]
      refine quietD (f73 n hb x hxs.1 hxs.2) (fun _ => rfl) ?_
      simp only [go_sem]
      intro nx5 lv5 hn5 hl5
      intro nx6 lv6 hn6 hl6
      refine ⟨okT_mono hok fun j z => hl6 j (.inr (hl5 j z)), ?_, ?_⟩
      · simp only [List.length_append, tracksF_len, List.length_map, hlen]; omega
      have hnew : (tracksF n r.st 0 ++ (lap.take i).map (lapN n)).map dNd ++ [DV.agg [.int .i64 2, .int .i64 x.s, .int .i64 (posF n x), .int .i64 (-1)]] = (tracksF n r.st 0 ++ (lap.take (i + 1)).map (lapN n)).map dNd := by
        rw [htk]
        simp [lapN, dNd]
      rw [hnew]
      intro nx7 lv7 hn7 hl7
      simp only [hN, ew]
      refine ⟨by kernel_rfl, i + 1, ?_, by simp only; omega⟩
      simp only [go_sem]
      exact ⟨by simp, by omega, _, _, _, rfl, b', hl7 _ (.inl rfl)⟩
    · have hlt' : ((i : Int) < (lap.length : Int)) = False := by simp; omega
      rw [List.take_of_length_le (by omega)] at e5
      simp only [go_sem, e38, hlt', hX, e5, b.b3]
      refine AW_loopH [5, 11, 12, 13, 55, 56, 57, 58, 59, 60, 61, 62, 63, 64, 65, 66, 67, 68, 69, 70, 71, 72, 73, 74, 75, 76, 77, 78, 79, 80, 81, 82, 83, 84, 85, 86, 87, 88, 89, 90, 91, 92, 93, 94, 95, 96, 97, 98, 99, 100, 101, 102, 103, 104, 105]
        (fun (i : Nat) ρ m => ρ 55 = .int .i64 (i : Int) ∧ i ≤ r.st.length ∧ ∃ h nx lv tok l, ρ 5 = .sl 4 (l.map dNd) tok ∧ m = ⟨h, [], nx, lv⟩ ∧ NR n r h ∧ okT m tok ∧ l.length ≤ 100 + 512 * i ∧ looksF n r.fr r.st lap (r.st.drop i) i l ++ [⟨5, r.fr, 0, -1⟩] = F) (fun i => r.st.length - i) 0 ?_ ?_
      · simp only [go_sem]
        refine ⟨Nat.zero_le _, _, _, _, tok, _, ⟨rfl, rfl⟩, rfl, b, hok, ?_, hF⟩
        simp only [List.length_append, tracksF_len, List.length_map]; omega
      clear b hok e5
      rintro i ρ m ⟨e55, g1, h, nx4, lv4, tok, l, e5, rfl, b, hok, hll, g2⟩ Q hN hR hX
      by_cases hlt : i < r.st.length
      · obtain ⟨x, hx⟩ : ∃ x, r.st[i]? = some x := ⟨_, List.getElem?_eq_getElem hlt⟩
        have hxp : (r.st.map dStp)[i]? = some (dStp x) := by rw [List.getElem?_map, hx]; rfl
        have hlt' : ((i : Int) < (r.st.length : Int)) = True := by simp; omega
        have h0 : ((0 : Int) ≤ (i : Int)) = True := by simp
        have ew : IntKind.i64.wrap ((i : Int) + 1) = (i : Int) + 1 := i64_in (by omega) (by omega)
        have hxo := hr.st x (List.mem_of_getElem? hx)
        have hxs := hxo.sec
        obtain ⟨c, hc⟩ : ∃ c, n.sects[x.s.toNat]? = some c := ⟨_, List.getElem?_eq_getElem (by omega)⟩
        have hc2 : (n.sects.map dSect)[x.s.toNat]? = some (dSect c) := by rw [List.getElem?_map, hc]; rfl
        have hkd : kindAt n x.s = c.kind := by simp [kindAt, hc]
        have hkc := netE_kinds he c (List.mem_of_getElem? hc)
        have i1 : ((0 : Int) ≤ x.s) = True := eq_true hxs.1
        have i2 : (x.s < (n.sects.length : Int)) = True := eq_true hxs.2
        have hd : r.st.drop i = x :: r.st.drop (i + 1) := by
          rw [List.drop_eq_getElem_cons hlt]
          rw [List.getElem?_eq_getElem hlt] at hx
          cases hx; rfl
        rw [hd] at g2
        simp only [looksF] at g2
        have hlen := lookS_len n r.fr r.st lap i x l
        unfold lookS at g2 hlen
        rw [hkd] at g2 hlen
        obtain ⟨g7, hg7⟩ : ∃ g7, genO (AB.hget h 12) = g7 := ⟨_, rfl⟩
        obtain ⟨h2, hh2⟩ : ∃ h2, AB.hset (AB.hset h 12 g7 [.int .i64 0, .int .i64 0, .int .i64 0]) 12 g7 [.int .i64 x.s, .int .i64 x.i, .int .i64 x.o] = h2 := ⟨_, rfl⟩
        have c7 : AB.hget h2 12 = some (g7, [.int .i64 x.s, .int .i64 x.i, .int .i64 x.o]) := by rw [← hh2]; simp [go_sem]
        have b' : NR n r h2 := by
          rw [← hh2]; exact (b.other _ _ (by decide) (by decide)).other _ _ (by decide) (by decide)
        by_cases c2 : c.kind = 2
        · have c2a : (c.kind = 2) = True := eq_true c2
          simp only [go_sem, e55, hlt', h0, hx, hxp, Option.map_some, dStp, hg7, hh2, b'.b2, b'.b3, c7, i1, i2, hc, hc2, dSect, c2a]
          have hps : posF n x = max x.i x.o := by simp [posF, hkd, c2]
          have hpb : 0 ≤ max x.i x.o ∧ max x.i x.o ≤ 3 := by
            obtain ⟨⟨_, _⟩, q3, q4⟩ := hasF_iff.1 hxo.1
            have h2 := hxo.2
            have := endsF_bd (kindAt n x.s)
            have ho : ∀ k e o : Int, o ∈ outsF k e → 0 ≤ e → e ≤ 3 → 0 ≤ o ∧ o ≤ 3 := by
              intro k e o h h3 h4
              have he4 : e = 0 ∨ e = 1 ∨ e = 2 ∨ e = 3 := by omega
              unfold outsF at h
              split at h
              · simp at h; omega
              · split at h
                · simp at h; omega
                · rcases he4 with rfl | rfl | rfl | rfl <;> simp [bits01.1, bits01.2.1, bits01.2.2.1, bits01.2.2.2] at h <;> omega
            have := ho _ _ _ h2 q3 (by omega)
            omega
          have ew3 : IntKind.i64.wrap (3 - max x.i x.o) = 3 - max x.i x.o := i64_in (by omega) (by omega)
          refine drawnP [2, 2, 2, 2, 2, 2, 2, 2, 2, 2, 2, 3, 1] [(11, [0, 0, 0, 0, 0, 0, 0, 0, 0, 0, 0, 0, 2])] 112 (by kernel_rfl) (by kernel_rfl) (by kernel_rfl) (by kernel_rfl) rfl ?_
          simp only [go_sem, c7, b'.b2, b'.b3, e5]
          refine quietD (f73 n hb x hxs.1 hxs.2) (fun _ => rfl) ?_
          simp only [go_sem, hps, ew3]
          intro nx5 lv5 hn5 hl5
          have fe : freeE c.kind x = [3 - max x.i x.o] := by simp [freeE, c2]
          rw [fe, overO_cons, overO_nil] at g2 hlen
          refine callS (f74 n hb he r (by omega) lap (by omega) i 8 l x.s (3 - max x.i x.o) 0 tok nx5 lv5 (by omega) (by omega) (by omega) (okT_mono hok hl5)) rfl ?_
          intro tok6 nx6 lv6 hok6
          simp only [go_sem, kDraw_eq]
          intro nx7 lv7 hn7 hl7
          simp only [hN, ew]
          refine ⟨by kernel_rfl, i + 1, ?_, by simp only; omega⟩
          simp only [go_sem]
          exact ⟨by simp, by omega, _, _, _, tok6, _, ⟨rfl, rfl⟩, rfl, b', (hok6.mono hn7 hl7).t, by omega, by rw [← g2]; simp⟩
        have c2a : (c.kind = 2) = False := eq_false c2
        by_cases c3 : c.kind = 3
        · have c3a : (c.kind = 3) = True := eq_true c3
          by_cases d1 : 1 < x.i
          · have d1a : (1 < x.i) = True := eq_true d1
            have fe : freeE c.kind x = [0, 1] := by simp [freeE, c2, c3, d1]
            rw [fe, overO_cons, overO_cons, overO_nil] at g2 hlen
            have hlen2 := lookF_len n r.fr r.st lap i 8 l x.s 0
            simp only [go_sem, e55, e5, hlt', h0, hx, hxp, Option.map_some, dStp, hg7, hh2, b'.b2, b'.b3, c7, i1, i2, hc, hc2, dSect, c2a, c3a, d1a]
            refine callS (f74 n hb he r (by omega) lap (by omega) i 8 l x.s 0 0 tok nx4 lv4 (by omega) (by omega) (by omega) (okT_mono hok fun _ z => z)) rfl ?_
            intro tok5 nx5 lv5 hok5
            simp only [go_sem, b'.b2, b'.b3, c7]
            refine callS (f74 n hb he r (by omega) lap (by omega) i 8 _ x.s 1 0 tok5 nx5 lv5 (by omega) (by omega) (by omega) hok5.t) rfl ?_
            intro tok6 nx6 lv6 hok6
            simp only [go_sem, hN, ew]
            refine ⟨by kernel_rfl, i + 1, ?_, by simp only; omega⟩
            simp only [go_sem]
            exact ⟨by simp, by omega, _, _, _, tok6, _, ⟨rfl, rfl⟩, rfl, b', hok6.t, by omega, by rw [← g2]; simp⟩
          · have d1a : (1 < x.i) = False := eq_false d1
            have fe : freeE c.kind x = [2, 3] := by simp [freeE, c2, c3, d1]
            rw [fe, overO_cons, overO_cons, overO_nil] at g2 hlen
            have hlen2 := lookF_len n r.fr r.st lap i 8 l x.s 2
            simp only [go_sem, e55, e5, hlt', h0, hx, hxp, Option.map_some, dStp, hg7, hh2, b'.b2, b'.b3, c7, i1, i2, hc, hc2, dSect, c2a, c3a, d1a]
            refine callS (f74 n hb he r (by omega) lap (by omega) i 8 l x.s 2 0 tok nx4 lv4 (by omega) (by omega) (by omega) (okT_mono hok fun _ z => z)) rfl ?_
            intro tok5 nx5 lv5 hok5
            simp only [go_sem, b'.b2, b'.b3, c7]
            refine callS (f74 n hb he r (by omega) lap (by omega) i 8 _ x.s 3 0 tok5 nx5 lv5 (by omega) (by omega) (by omega) hok5.t) rfl ?_
            intro tok6 nx6 lv6 hok6
            simp only [go_sem, hN, ew]
            refine ⟨by kernel_rfl, i + 1, ?_, by simp only; omega⟩
            simp only [go_sem]
            exact ⟨by simp, by omega, _, _, _, tok6, _, ⟨rfl, rfl⟩, rfl, b', hok6.t, by omega, by rw [← g2]; simp⟩
        · have c3a : (c.kind = 3) = False := eq_false c3
          have fe : freeE c.kind x = [] := by simp [freeE, c2, c3]
          rw [fe, overO_nil] at g2 hlen
          simp only [go_sem, e55, e5, hlt', h0, hx, hxp, Option.map_some, dStp, hg7, hh2, b'.b2, b'.b3, c7, i1, i2, hc, hc2, dSect, c2a, c3a, hN, ew]
          refine ⟨by kernel_rfl, i + 1, ?_, by simp only; omega⟩
          simp only [go_sem]
          exact ⟨by simp, by omega, _, _, _, tok, l, ⟨rfl, rfl⟩, rfl, b', okT_mono hok fun _ z => z, by omega, by rw [← g2]; simp⟩
      · have hlt' : ((i : Int) < (r.st.length : Int)) = False := by simp; omega
        rw [List.drop_eq_nil_of_le (by omega)] at g2
        simp only [looksF] at g2
        subst g2
        simp only [go_sem, e55, e5, hlt', hX, b.b3]
        refine ⟨okT_mono hok fun j z => .inr z, by omega, ?_⟩
        simp [dNd]
end Go.Proofs.YteadhjclchjfjaaGreat
