/- Routes: what the search calls: stands, Clone, walk. -/
import Derived.Test.YteadhjclchjfjaaLR
namespace Go.Proofs.Yteadhjclchjfjaa
set_option linter.unusedSimpArgs false
set_option linter.unusedVariables false
open Go.AB

theorem f142 (x : Stp) (s : Int) : PCall Try.prog 142 [eStp x, .ept [.int .i64 s]] (RV (.bool (decide (x.s = s)))) := by
  refine PCall.of_body Try.func142 rfl Try.ntmps142 (congrArg Array.toList Try.results142) ?_
  intro E
  simp only [go_sem, eStp]

/-- The place of a section in a path. -/
def idxP : List Stp → Int → Int → Int
  | [], _, _ => -1
  | x :: l, s, i => if x.s = s then i else idxP l s (i + 1)
theorem idxP_iff : ∀ {l : List Stp} {s : Int} {i : Int}, 0 ≤ i → (0 ≤ idxP l s i ↔ psec l s = true)
  | [], s, i, _ => by simp [idxP, psec]
  | x :: l, s, i, h => by
    have ih := idxP_iff (l := l) (s := s) (i := i + 1) (by omega)
    simp only [idxP, psec, List.any_cons] at ih ⊢
    by_cases hx : x.s = s
    · simp [hx, h]
    · simp only [hx, if_false, ih]; simp

set_option maxRecDepth 20000 in
theorem f146 (p : List Stp) (s : Int) (hl : p.length ≤ 5864062014634) : PCall Try.prog 146 [.sl 3 (p.map dStp) .no, .fn 142 [.ept [.int .i64 s]]] (RV (.int .i64 (idxP p s 0))) := by
  refine PCall.of_body Try.func146 rfl Try.ntmps146 (congrArg Array.toList Try.results146) ?_
  intro E
  simp only [go_sem]
  refine AW_loopH [4, 5, 8, 9, 10, 11, 12, 13, 14, 15, 16, 17, 18]
    (fun (i : Nat) ρ m => ρ 8 = .int .i64 (i : Int) ∧ i ≤ p.length ∧ idxP (p.drop i) s i = idxP p s 0 ∧ ∃ h nx lv, m = ⟨h, [], nx, lv⟩) (fun i => p.length - i) 0 ?_ ?_
  · simp [go_sem]
  rintro i ρ m ⟨e1, g1, g2, h, nx, lv, rfl⟩ Q hN hR hX
  by_cases hlt : i < p.length
  · obtain ⟨x, hx⟩ : ∃ x, p[i]? = some x := ⟨_, List.getElem?_eq_getElem hlt⟩
    have hxp : (p.map dStp)[i]? = some (dStp x) := by rw [List.getElem?_map, hx]; rfl
    have hlt' : ((i : Int) < (p.length : Int)) = True := by simp; omega
    have h0 : ((0 : Int) ≤ (i : Int)) = True := by simp
    have ew : IntKind.i64.wrap ((i : Int) + 1) = (i : Int) + 1 := i64_in (by omega) (by omega)
    have hd : p.drop i = x :: p.drop (i + 1) := by
      rw [List.drop_eq_getElem_cons hlt]
      rw [List.getElem?_eq_getElem hlt] at hx
      cases hx; rfl
    rw [hd] at g2
    simp only [idxP] at g2
    simp only [go_sem, e1, hlt', h0, hxp, dStp]
    refine callV (f142 x s) ?_
    intro nx2 lv2
    by_cases q : x.s = s
    · rw [if_pos q] at g2
      have q' : (x.s = s) = True := eq_true q
      simp only [go_sem, q', hR]
      exact g2
    · rw [if_neg q] at g2
      have q' : (x.s = s) = False := eq_false q
      simp only [go_sem, q', hN, ew]
      refine ⟨by kernel_rfl, i + 1, ?_, by simp only; omega⟩
      simp only [go_sem]
      exact ⟨by simp, by omega, by rw [← g2]; rfl, _, _, _, rfl⟩
  · have hlt' : ((i : Int) < (p.length : Int)) = False := by simp; omega
    rw [List.drop_eq_nil_of_le (by omega)] at g2
    simp only [idxP] at g2
    simp only [go_sem, e1, hlt', hX]
    exact g2

theorem f141 (p : List Stp) (s : Int) (hl : p.length ≤ 5864062014634) : PCall Try.prog 141 [.sl 3 (p.map dStp) .no, .fn 142 [.ept [.int .i64 s]]] (RV (.bool (psec p s))) := by
  refine PCall.of_body Try.func141 rfl Try.ntmps141 (congrArg Array.toList Try.results141) ?_
  intro E
  simp only [go_sem]
  refine callV (f146 p s hl) ?_
  intro nx lv
  have := idxP_iff (l := p) (s := s) (i := 0) (Int.le_refl 0)
  simp only [go_sem]
  cases hh : psec p s <;> simp [hh] at this ⊢ <;> omega

theorem f123 (p : List Stp) (s : Int) (hl : p.length ≤ 5864062014634) : PCall Try.prog 123 [.sl 3 (p.map dStp) .no, .int .i64 s] (RV (.bool (psec p s))) := by
  refine PCall.of_body Try.func123 rfl Try.ntmps123 (congrArg Array.toList Try.results123) ?_
  intro E
  simp only [go_sem]
  refine .inl (quiet (f141 p s hl) rfl ?_)
  simp only [go_sem]

/-- A slice of the callee's own, or nil. -/
def RT (z : Nat) (es : List DV) : AH → AV → Prop := fun m r => ∃ tok, r = .sl z es tok ∧ okT m tok
theorem callT {P : Go.Program} {k : Nat} {bs args : List AV} {σ : AS} {dst : Option Nat} {K : AS → Prop} {z : Nat} {es : List DV} (h : PCall P k bs (RT z es))
    (hK : ∀ tok nx2 lv2, σ.m.nx ≤ nx2 → (∀ j, σ.m.lv j → lv2 j) → (∀ i, tok = .own i → σ.m.nx ≤ i) → okT ⟨σ.m.h, σ.m.o, nx2, lv2⟩ tok → K (AS.put ⟨σ.s, ⟨σ.m.h, σ.m.o, nx2, lv2⟩⟩ dst (.sl z es tok))) : callX P k bs args σ dst K := by
  unfold callX
  refine .inl ⟨_, h, ?_⟩
  unfold callK
  rintro m' x ⟨tok, rfl, hok⟩ nx2 lv2 h1 h2 h3
  cases tok with
  | no => exact hok.elim
  | nil => exact hK .nil nx2 lv2 h1 h2 (fun i hi => by cases hi) trivial
  | own i => exact hK (.own (σ.m.nx + i)) nx2 lv2 h1 h2 (fun j hj => by cases hj; exact Nat.le_add_right _ _) (h3 i hok)

set_option maxRecDepth 20000 in
theorem f130 (p : List Stp) (hl : p.length ≤ 60) : PCall Try.prog 130 [.sl 3 (p.map dStp) .no] (RT 3 (p.map dStp)) := by
  refine PCall.of_body Try.func130 rfl Try.ntmps130 (congrArg Array.toList Try.results130) ?_
  intro E
  simp only [go_sem]
  intro b h1
  refine ⟨fun hb => ?_, fun _ => ?_⟩
  · by_cases hn : p.map dStp = []
    · rw [hn]
      first
        | exact ⟨.nil, rfl, trivial⟩
        | (refine ⟨rfl, ?_⟩; exact ⟨.nil, rfl, trivial⟩)
    · have := h1 hn
      rw [hb] at this
      cases this
  · exact ⟨.inl trivial, by omega, .own 1, rfl, .inl rfl⟩

theorem f122 (n : Net) (s e : Int) : PCall Try.prog 122 [eNet n, .agg [.int .i64 s, .int .i64 e]] (RV (.fn 140 [.ept [.sl 1 (n.names.map DV.str), .sl 7 (n.sects.map dSect), .sl 4 (n.links.map dLnk), .sl 2 (n.sigs.map dPair), .sl 2 (n.gates.map dPair)], .ept [.int .i64 s, .int .i64 e]])) := by
  refine PCall.of_bodyF Try.func122 rfl Try.ntmps122 (congrArg Array.toList Try.results122) ?_
  intro E _
  refine AW_of ?_
  simp only [go_sem, eNet, nCells]
  refine ⟨140, [(.own 2 0, [.sl 1 (n.names.map DV.str), .sl 7 (n.sects.map dSect), .sl 4 (n.links.map dLnk), .sl 2 (n.sigs.map dPair), .sl 2 (n.gates.map dPair)]), (.own 3 0, [.int .i64 s, .int .i64 e])], rfl, ?_, rfl⟩
  intro q hq
  simp at hq
  rcases hq with rfl | rfl
  · exact ⟨_, by simp [go_sem]; rfl, rfl⟩
  · exact ⟨_, by simp [go_sem]; rfl, rfl⟩

theorem netE_links {n : Net} (h : netE n = 0) : ∀ (i : Nat) l, n.links[i]? = some l → hasF n l.a l.ea = true ∧ hasF n l.b l.eb = true := by
  have hs : linksE n = 0 := by
    unfold netE at h
    split at h
    · cases h
    · split at h
      · cases h
      · split at h
        · rename_i h1; exact absurd h h1
        · split at h
          · rename_i h1; exact absurd h h1
          · split at h
            · rename_i h1; exact absurd h h1
            · rename_i h1
              simpa using h1
  intro i l hl
  have := firstE_zero (j := i) hs (Nat.zero_le _) (by have := (List.getElem?_eq_some_iff.1 hl).1; omega)
  unfold linkE at this
  rw [hl] at this
  simp only at this
  split at this
  · cases this
  · rename_i h2
    constructor
    · cases hc : hasF n l.a l.ea with
      | true => rfl
      | false => exact absurd (.inl hc) h2
    · cases hc : hasF n l.b l.eb with
      | true => rfl
      | false => exact absurd (.inr hc) h2
theorem joinL_has {n : Net} (h : netE n = 0) {s e t i : Int} (hj : joinL n.links s e = some (t, i)) : hasF n t i = true := by
  have key : ∀ L : List Lnk, (∀ l ∈ L, hasF n l.a l.ea = true ∧ hasF n l.b l.eb = true) → joinL L s e = some (t, i) → hasF n t i = true := by
    intro L
    induction L with
    | nil => intro _ h; cases h
    | cons l L ih =>
      intro hL hj
      have h1 := hL l (List.mem_cons_self ..)
      unfold joinL at hj
      split at hj
      · cases hj; exact h1.2
      · split at hj
        · cases hj; exact h1.1
        · exact ih (fun l hl => hL l (List.mem_cons_of_mem _ hl)) hj
  refine key n.links (fun l hl => ?_) hj
  obtain ⟨k, hk⟩ := List.getElem?_of_mem hl
  exact netE_links h k l hk

def walkX (n : Net) (s e : Int) : List (List AV) := (walkS n s e).map fun x => [eStp x]
def dNet (n : Net) : List DV := [.sl 1 (n.names.map DV.str), .sl 7 (n.sects.map dSect), .sl 4 (n.links.map dLnk), .sl 2 (n.sigs.map dPair), .sl 2 (n.gates.map dPair)]

set_option maxHeartbeats 4000000 in
set_option maxRecDepth 20000 in
theorem f140 (n : Net) (s e : Int) (hb : NetB n) (h : netE n = 0) : ICall Try.prog 140 [.ept (dNet n), .ept [.int .i64 s, .int .i64 e]] (walkX n s e) := by
  refine ICall.of_body Try.func140 rfl Try.ntmps140 (congrArg Array.toList Try.results140) ?_
  intro N Nx l J Jx hN hY m hm
  have hsc := hb.sc
  refine IW_pre hN rfl ?_
  intro E
  refine AW_of ?_
  simp only [go_sem, dNet]
  refine callV (f59 n s e hb) ?_
  intro nx lv
  simp only [go_sem, preK, sealS, sealV, List.map_cons, List.map_nil]
  intro nx2 lv2 hn2 hl2
  have hm2 : J 0 ⟨m.h, m.o, nx2, lv2⟩ := hY.1 0 _ _ _ _ _ _ hm hn2 hl2
  refine IW_seq hN ?_
  refine IW_ex hN ?_
  cases hj : joinL n.links s e with
  | none =>
    simp only [go_sem, hj, Option.isSome_none]
    have : (walkX n s e).length = 0 := by simp [walkX, walkS, hj]
    rw [this]
    exact hm2
  | some q =>
    obtain ⟨t, i⟩ := q
    simp only [go_sem, hj, Option.isSome_some]
    have hf := joinL_has h hj
    obtain ⟨⟨q1, q2⟩, q3, q4⟩ := hasF_iff.1 hf
    have hlt : t.toNat < n.sects.length := by omega
    obtain ⟨c, hc⟩ : ∃ c, n.sects[t.toNat]? = some c := ⟨_, List.getElem?_eq_getElem hlt⟩
    have hc2 : (n.sects.map dSect)[t.toNat]? = some (dSect c) := by rw [List.getElem?_map, hc]; rfl
    have hk : kindAt n t = c.kind := by simp [kindAt, hc]
    have i1 : ((0 : Int) ≤ t) = True := eq_true q1
    have i2 : (t < (n.sects.length : Int)) = True := eq_true (by omega)
    have jS : joinS (some (t, i)) = t := rfl
    have jE : joinE (some (t, i)) = i := rfl
    refine IW_seq hN (IW_of hN (drawn (by kernel_rfl) (by kernel_rfl) ?_))
    simp only [go_sem, i1, i2, hc2, jS, jE, dSect]
    refine quietD (f60 c.kind i) (fun _ => rfl) ?_
    simp only [go_sem, kDraw_eq]
    intro nx3 lv3 hn3 hl3
    have hm3 : J 0 ⟨m.h, m.o, nx3, lv3⟩ := hY.1 0 _ _ _ _ _ _ hm2 hn3 hl3
    refine IW_block (IW_loopH [7, 27, 28, 29, 30, 31, 32, 33, 34, 35, 36, 37, 38, 39, 40]
      (fun (k : Nat) ρ m' => ρ 27 = .int .i64 (k : Int) ∧ k ≤ (outsF c.kind i).length ∧ J k m') (fun k => (outsF c.kind i).length - k) 0 ?_ ?_)
    · simp [go_sem, hm3]
    rintro k ρ m' ⟨e27, g1, hJ⟩ Q' hN' hR hX
    refine IW_seq hN (IW_ex hN ?_)
    have hwl : (walkX n s e).length = (outsF c.kind i).length := by simp [walkX, walkS, hj, hk]
    by_cases hlt : k < (outsF c.kind i).length
    · have h1 : ((k : Int) < ((outsF c.kind i).length : Int)) = True := by simp; omega
      have h0 : ((0 : Int) ≤ (k : Int)) = True := by simp
      have hle := outsF_len c.kind i
      have ew : IntKind.i64.wrap ((k : Int) + 1) = (k : Int) + 1 := i64_in (by omega) (by omega)
      obtain ⟨o, ho⟩ : ∃ o, (outsF c.kind i)[k]? = some o := ⟨_, List.getElem?_eq_getElem hlt⟩
      have ho2 : ((outsF c.kind i).map fun x => DV.int .i64 x)[k]? = some (.int .i64 o) := by rw [List.getElem?_map, ho]; rfl
      have hxk : (walkX n s e)[k]? = some [eStp ⟨t, i, o⟩] := by simp [walkX, walkS, hj, hk, ho]
      simp only [go_sem, e27, h1]
      refine IW_seq hN (IW_ex hN ?_)
      simp only [go_sem]
      refine IW_seq hN (IW_block (IW_seq hN (IW_ex hN ?_)))
      simp only [go_sem, lInts, h0, h1, ho2]
      refine IW_seq hN (IW_yield (n := 7) (k := k) hN hY ?_)
      simp only [go_sem]
      refine ⟨_, _, _, rfl, rfl, by simp only [go_sem], ?_, hJ, ?_, ?_⟩
      · simp only [go_sem]
        exact hxk
      · intro m2 hJ2
        simp only [go_sem]
        refine IW_ex hN ?_
        simp only [go_sem]
        refine IW_ex hN ?_
        simp only [go_sem, hN', ew]
        refine ⟨by kernel_rfl, k + 1, ?_, by simp only; omega⟩
        simp only [go_sem]
        exact ⟨by simp, by omega, hJ2⟩
      · intro c' m2 hJ2
        simp only [go_sem]
        refine AW_of ?_
        simp only [go_sem]
        exact hJ2
    · have h1 : ((k : Int) < ((outsF c.kind i).length : Int)) = False := by simp; omega
      simp only [go_sem, e27, h1, hX]
      refine IW_seq hN (IW_ex hN ?_)
      simp only [go_sem, hX]
      have : k = (outsF c.kind i).length := by omega
      rw [hwl, ← this]
      exact hJ
end Go.Proofs.Yteadhjclchjfjaa
