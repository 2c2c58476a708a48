/- Names. -/
import Derived.Test.YteadhjclchjfjaaT
import Derived.Test.YteadhjclchjfjaaB140
namespace Go.Proofs.Yteadhjclchjfjaa
set_option linter.unusedSimpArgs false
set_option linter.unusedVariables false
open Go.AB
def within (n lo hi : Int) : Bool := decide (lo ≤ n) && decide (n ≤ hi)
def okc (c : UInt8) : Bool := decide (97 ≤ (c.toNat : Int)) && decide ((c.toNat : Int) ≤ 122)
def nameOk (s : List UInt8) : Bool := s.all okc && (decide (1 ≤ (s.length : Int)) && decide ((s.length : Int) ≤ 12))

theorem take_all_succ {s : List UInt8} {x : Nat} {c : UInt8} (h : s[x]? = some c) : (s.take (x + 1)).all okc = ((s.take x).all okc && okc c) := by
  rw [List.take_add_one, h]
  simp
theorem nameOk_bad {s : List UInt8} {x : Nat} {c : UInt8} (h : s[x]? = some c) (hc : okc c = false) : false = nameOk s := by
  have : s.all okc = false := List.all_eq_false.2 ⟨c, List.mem_of_getElem? h, by simp [hc]⟩
  simp [nameOk, this]

theorem f63 (s : List UInt8) (hs : s.length ≤ 140737488351232) : PCall Try.prog 63 [.str s] (RV (.bool (nameOk s))) := by
  refine PCall.of_body Try.func63 rfl Try.ntmps63 (congrArg Array.toList Try.results63) ?_
  intro E
  simp only [go_sem]
  refine AW_loopS [3, 4, 5, 6, 7, 8, 9, 10, 11, 12, 13, 14, 15, 16, 17, 18, 19] (fun (x : Nat) ρ m => ρ 3 = .int .i64 (x : Int) ∧ (∃ nx lv, m = ⟨[], [], nx, lv⟩) ∧ x ≤ s.length ∧ (s.take x).all okc = true) (fun x => s.length - x) 0 ?_ ?_
  · simp only [go_sem]
    exact ⟨⟨_, _, rfl⟩, Nat.zero_le _⟩
  · rintro x ρ m ⟨e8, ⟨nx, lv, rfl⟩, hx, hall⟩
    by_cases hlt : x < s.length
    · have hlt' : ((x : Int) < (s.length : Int)) = True := by simp; omega
      obtain ⟨c, hc⟩ : ∃ c, s[x]? = some c := ⟨_, List.getElem?_eq_getElem hlt⟩
      have ht := take_all_succ hc
      simp (disch := omega) only [go_sem, e8, hlt', hc, i64_in]
      refine ⟨by omega, fun h1 => nameOk_bad hc (by simp [okc]; omega), fun h1 => ⟨by omega, fun h2 => nameOk_bad hc (by simp [okc]; omega), fun h2 => ?_⟩⟩
      refine ⟨by kernel_rfl, x + 1, ?_, by simp only; omega⟩
      simp only [go_sem]
      refine ⟨by simp, ⟨_, _, rfl⟩, by omega, ?_⟩
      rw [ht, hall]
      simp [okc]; omega
    · have hlt' : ((x : Int) < (s.length : Int)) = False := by simp; omega
      simp (disch := omega) only [go_sem, e8, hlt', i64_in]
      have : s.take x = s := List.take_of_length_le (by omega)
      rw [this] at hall
      unfold nameOk
      rw [hall]
      grind

end Go.Proofs.Yteadhjclchjfjaa

/- Nets: the small functions of package line and of the reference. -/
/- Nets: the small functions of package line and of the reference. -/
namespace Go.Proofs.Yteadhjclchjfjaa
set_option linter.unusedSimpArgs false
set_option linter.unusedVariables false
open Go.AB

theorem f56 (n lo hi : Int) : PCall Try.prog 56 [.int .i64 n, .int .i64 lo, .int .i64 hi] (RV (.bool (within n lo hi))) := by
  refine PCall.of_body Try.func56 rfl Try.ntmps56 (congrArg Array.toList Try.results56) ?_
  intro E
  simp only [go_sem]
  unfold within
  grind

def endsF (k : Int) : Int := if k = 1 then 2 else if k = 2 then 3 else if k = 3 then 4 else 0
theorem endsF_bd (k : Int) : 0 ≤ endsF k ∧ endsF k ≤ 4 := by unfold endsF; grind

theorem f57 (k : Int) : PCall Try.prog 57 [.int .i64 k] (RV (.int .i64 (endsF k))) := by
  refine PCall.of_body Try.func57 rfl Try.ntmps57 (congrArg Array.toList Try.results57) ?_
  intro E
  simp only [go_sem]
  unfold endsF
  grind

theorem f67 (k : Int) (h1 : 1 ≤ k) (h2 : k ≤ 3) : PCall Try.prog 67 [.int .i64 k] (RV (.int .i64 (endsF k))) := by
  refine PCall.of_body Try.func67 rfl Try.ntmps67 (congrArg Array.toList Try.results67) ?_
  intro E
  have : k = 1 ∨ k = 2 ∨ k = 3 := by omega
  rcases this with rfl | rfl | rfl
  · simp (disch := omega) only [go_sem, i64_in]
    rfl
  · simp (disch := omega) only [go_sem, i64_in]
    rfl
  · simp (disch := omega) only [go_sem, i64_in]
    rfl

theorem f144 (k : Int) : PCall Try.prog 144 [.int .i64 k] (RV (.bool false)) := by
  refine PCall.of_body Try.func144 rfl Try.ntmps144 (congrArg Array.toList Try.results144) ?_
  intro E
  simp only [go_sem]

def cmpF (a b : Int) : Int := if a < b then -1 else if b < a then 1 else 0
theorem f128 (a b : Int) : PCall Try.prog 128 [.int .i64 a, .int .i64 b] (RV (.int .i64 (cmpF a b))) := by
  refine PCall.of_body Try.func128 rfl Try.ntmps128 (congrArg Array.toList Try.results128) ?_
  intro E
  simp only [go_sem]
  refine callV (f144 a) ?_
  intro nx lv
  simp only [go_sem]
  refine callV (f144 b) ?_
  intro nx lv
  simp only [go_sem]
  unfold cmpF
  grind

def orF (a b : Int) : Int := if a ≠ 0 then a else b

theorem f127 (a b : Int) : PCall Try.prog 127 [.sl 1 [.int .i64 a, .int .i64 b] .no] (RV (.int .i64 (orF a b))) := by
  refine PCall.of_body Try.func127 rfl Try.ntmps127 (congrArg Array.toList Try.results127) ?_
  intro E
  simp only [go_sem]
  refine AW_loopS [2, 5, 8, 9, 10, 11, 12, 13, 14, 15, 16] (fun (x : Nat) ρ m => ρ 8 = .int .i64 (x : Int) ∧ (∃ nx lv, m = ⟨[], [], nx, lv⟩) ∧ x ≤ 2 ∧ (1 ≤ x → a = 0) ∧ (2 ≤ x → b = 0)) (fun x => 2 - x) 0 ?_ ?_
  · simp only [go_sem]
    exact ⟨_, _, rfl⟩
  · rintro x ρ m ⟨e8, ⟨nx, lv, rfl⟩, hx, ha, hb⟩
    by_cases hlt : x < 2
    · obtain ⟨v, hv, hv0, hv1⟩ : ∃ v, ([DV.int .i64 a, DV.int .i64 b] : List DV)[x]? = some (.int .i64 v) ∧ (x = 0 → v = a) ∧ (x = 1 → v = b) := by
        have h3 : x = 0 ∨ x = 1 := by omega
        rcases h3 with rfl | rfl
        · exact ⟨a, rfl, fun _ => rfl, fun h => by omega⟩
        · exact ⟨b, rfl, fun h => by omega, fun _ => rfl⟩
      have hlt' : ((x : Int) < 2) = True := by simp; omega
      simp (disch := omega) only [go_sem, e8, hlt', hv, i64_in]
      refine ⟨by omega, fun h1 => ?_, fun h1 => ⟨by kernel_rfl, x + 1, ?_, by simp only; omega⟩⟩
      · have : orF a b = v := by unfold orF; grind
        rw [this]
      · simp only [go_sem]
        exact ⟨by simp, ⟨_, _, rfl⟩, by omega, by grind, by grind⟩
    · have hlt' : ((x : Int) < 2) = False := by simp; omega
      simp (disch := omega) only [go_sem, e8, hlt', i64_in]
      have : orF a b = 0 := by unfold orF; grind
      rw [this]

def lessF (a b c d : Int) : Bool := decide (a < c) || (decide (a = c) && decide (b < d))
theorem f106 (a b c d : Int) : PCall Try.prog 106 [.int .i64 a, .int .i64 b, .int .i64 c, .int .i64 d] (RV (.bool (lessF a b c d))) := by
  refine PCall.of_body Try.func106 rfl Try.ntmps106 (congrArg Array.toList Try.results106) ?_
  intro E
  simp only [go_sem]
  unfold lessF
  grind
theorem order_F (a b c d : Int) : (0 ≤ orF (cmpF a c) (cmpF b d)) ↔ lessF a b c d = false := by
  unfold orF cmpF lessF
  grind
theorem f100 (s : List UInt8) (hs : s.length ≤ 140737488351232) : PCall Try.prog 100 [.str s] (RV (.bool (nameOk s))) := by
  refine PCall.of_body Try.func100 rfl Try.ntmps100 (congrArg Array.toList Try.results100) ?_
  intro E
  simp only [go_sem]
  refine ⟨by omega, ?_⟩
  refine AW_loopS [2, 4, 8, 9, 10, 11, 12, 13, 14, 15, 16, 17, 18] (fun (x : Nat) ρ m => ρ 8 = .int .i64 (x : Int) ∧ (∃ nx lv, m = ⟨[], [], nx, lv⟩) ∧ x ≤ s.length ∧ (s.take x).all okc = true) (fun x => s.length - x) 0 ?_ ?_
  · simp only [go_sem]
    exact ⟨⟨_, _, rfl⟩, Nat.zero_le _⟩
  · rintro x ρ m ⟨e8, ⟨nx, lv, rfl⟩, hx, hall⟩
    by_cases hlt : x < s.length
    · have hlt' : ((x : Int) < (s.length : Int)) = True := by simp; omega
      obtain ⟨c, hc⟩ : ∃ c, s[x]? = some c := ⟨_, List.getElem?_eq_getElem hlt⟩
      have ht := take_all_succ hc
      simp (disch := omega) only [go_sem, e8, hlt', hc, i64_in]
      refine ⟨by omega, fun h1 => nameOk_bad hc (by simp [okc]; omega), fun h1 => ⟨fun h2 => nameOk_bad hc (by simp [okc]; omega), fun h2 => ?_⟩⟩
      refine ⟨by kernel_rfl, x + 1, ?_, by simp only; omega⟩
      simp only [go_sem]
      refine ⟨by simp, ⟨_, _, rfl⟩, by omega, ?_⟩
      rw [ht, hall]
      simp [okc]; omega
    · have hlt' : ((x : Int) < (s.length : Int)) = False := by simp; omega
      simp (disch := omega) only [go_sem, e8, hlt', i64_in]
      have : s.take x = s := List.take_of_length_le (by omega)
      rw [this] at hall
      unfold nameOk
      rw [hall]
      grind
end Go.Proofs.Yteadhjclchjfjaa

/- Nets: their parts; ends; the checks of a section; what is joined. -/
/- Nets: their parts; whether an end is there; the checks of a section; the search in lists of names. -/
namespace Go.Proofs.Yteadhjclchjfjaa
set_option linter.unusedSimpArgs false
set_option linter.unusedVariables false
open Go.AB

structure Lnk where
  (a ea b eb : Int)
structure Sect where
  (kind len grade speed slow station : Int)
  axles : Bool
structure Pair where
  (s e : Int)
def dLnk (l : Lnk) : DV := .agg [.int .i64 l.a, .int .i64 l.ea, .int .i64 l.b, .int .i64 l.eb]
def dSect (s : Sect) : DV := .agg [.int .i64 s.kind, .int .i64 s.len, .int .i64 s.grade, .int .i64 s.speed, .int .i64 s.slow, .int .i64 s.station, .bool s.axles]
def eSect (s : Sect) : AV := .agg [.int .i64 s.kind, .int .i64 s.len, .int .i64 s.grade, .int .i64 s.speed, .int .i64 s.slow, .int .i64 s.station, .bool s.axles]
def dPair (p : Pair) : DV := .agg [.int .i64 p.s, .int .i64 p.e]
def ePair (p : Pair) : AV := .agg [.int .i64 p.s, .int .i64 p.e]
structure Net where
  names : List (List UInt8)
  sects : List Sect
  links : List Lnk
  sigs : List Pair
  gates : List Pair
def nCells (n : Net) : List AV := [.sl 1 (n.names.map DV.str) .no, .sl 7 (n.sects.map dSect) .no, .sl 4 (n.links.map dLnk) .no, .sl 2 (n.sigs.map dPair) .no, .sl 2 (n.gates.map dPair) .no]
def eNet (n : Net) : AV := .agg (nCells n)
/-- What a net of the language's own bounds is. -/
structure NetB (n : Net) : Prop where
  nm : n.names.length ≤ 140737488351232
  sc : n.sects.length ≤ 140737488351232
  lk : n.links.length ≤ 140737488351232
  sg : n.sigs.length ≤ 140737488351232
  gt : n.gates.length ≤ 140737488351232
  str : ∀ s ∈ n.names, s.length ≤ 140737488351232

def kindAt (n : Net) (s : Int) : Int := ((n.sects[s.toNat]?).map Sect.kind).getD 0
def hasF (n : Net) (s e : Int) : Bool := within s 0 (n.sects.length - 1) && within e 0 (endsF (kindAt n s) - 1)
def KindsOk (n : Net) : Prop := ∀ s ∈ n.sects, 1 ≤ s.kind ∧ s.kind ≤ 3

set_option maxHeartbeats 1000000 in
set_option maxRecDepth 20000 in
theorem f72 (n : Net) (s e : Int) (hb : NetB n) : PCall Try.prog 72 [eNet n, .agg [.int .i64 s, .int .i64 e]] (RV (.bool (hasF n s e))) := by
  refine PCall.of_body Try.func72 rfl Try.ntmps72 (congrArg Array.toList Try.results72) ?_
  intro E
  have := hb.sc
  simp only [go_sem, eNet, nCells]
  refine drawn (by kernel_rfl) (by kernel_rfl) ?_
  simp (disch := omega) only [go_sem, i64_in]
  refine quietD (f56 _ _ _) (fun _ => rfl) ?_
  by_cases hw : within s 0 (n.sects.length - 1) = true
  · have h2 : 0 ≤ s ∧ s ≤ n.sects.length - 1 := by simpa [within] using hw
    obtain ⟨c, hc⟩ : ∃ c, n.sects[s.toNat]? = some c := ⟨_, List.getElem?_eq_getElem (by omega)⟩
    have hk : kindAt n s = c.kind := by simp [kindAt, hc]
    have he := endsF_bd c.kind
    simp (disch := omega) only [go_sem, hw, hc, dSect, i64_in]
    refine ⟨by omega, ?_⟩
    refine quietD (f57 _) (fun _ => rfl) ?_
    simp (disch := omega) only [go_sem, i64_in]
    refine quietD (f56 _ _ _) (fun _ => rfl) ?_
    simp (disch := omega) only [go_sem, i64_in]
    simp [hasF, hw, hk]
  · have hw : within s 0 (n.sects.length - 1) = false := by simpa using hw
    simp (disch := omega) only [go_sem, hw]
    simp [hasF, hw]

set_option maxHeartbeats 1000000 in
set_option maxRecDepth 20000 in
theorem f74 (n : Net) (s e : Int) (hb : NetB n) (hk : KindsOk n) : PCall Try.prog 74 [eNet n, .int .i64 s, .int .i64 e] (RV (.bool (hasF n s e))) := by
  refine PCall.of_body Try.func74 rfl Try.ntmps74 (congrArg Array.toList Try.results74) ?_
  intro E
  have := hb.sc
  simp only [go_sem, eNet, nCells]
  by_cases h0 : 0 ≤ s
  · by_cases h1 : s < n.sects.length
    · obtain ⟨c, hc⟩ : ∃ c, n.sects[s.toNat]? = some c := ⟨_, List.getElem?_eq_getElem (by omega)⟩
      have hke : kindAt n s = c.kind := by simp [kindAt, hc]
      have he := endsF_bd c.kind
      have hkc := hk c (List.mem_of_getElem? hc)
      by_cases h2 : 0 ≤ e
      · simp (disch := omega) only [go_sem, h0, h1, h2, hc, dSect, i64_in]
        refine callV (f67 _ hkc.1 hkc.2) ?_
        intro nx lv
        simp (disch := omega) only [go_sem, i64_in]
        have h0' : within s 0 (n.sects.length - 1) = true := by simp [within]; omega
        simp only [hasF, h0', hke, Bool.true_and]
        unfold within
        simp only [h2, decide_true, Bool.true_and]
        by_cases q : e < endsF c.kind
        · have q2 : e ≤ endsF c.kind - 1 := by omega
          simp [q, q2]
        · have q2 : ¬ e ≤ endsF c.kind - 1 := by omega
          simp [q, q2]
      · simp (disch := omega) only [go_sem, h0, h1, h2]
        simp [hasF, within, h2]
    · simp (disch := omega) only [go_sem, h0, h1]
      have : ¬ s ≤ (n.sects.length : Int) - 1 := by omega
      simp [hasF, within, this]
  · simp (disch := omega) only [go_sem, h0]
    simp [hasF, within, h0]

/-- The error of a section. -/
def secE (s : Sect) (st : Int) : Int :=
  if endsF s.kind = 0 then 1
  else if (within s.len 10 3000 && within s.grade (-40) 40 && within s.speed 300 6000) = false then 2
  else if (decide (s.kind = 2) && !within s.slow 300 s.speed || decide (s.kind = 1) && !within s.station 0 st) = true then 2
  else if (decide (s.slow ≠ 0) && decide (s.kind ≠ 2) || decide (s.station ≠ 0) && decide (s.kind ≠ 1) || decide (s.grade ≠ 0) && decide (s.kind = 3)) = true then 1
  else 0
theorem secE_kind {s : Sect} {st : Int} (h : secE s st = 0) : 1 ≤ s.kind ∧ s.kind ≤ 3 := by
  have h1 : endsF s.kind ≠ 0 := fun e => by simp [secE, e] at h
  unfold endsF at h1
  grind

set_option maxHeartbeats 4000000 in
set_option maxRecDepth 20000 in
theorem f102 (s : Sect) (st : Int) : PCall Try.prog 102 [eSect s, .int .i64 st] (RV (.int .i64 (secE s st))) := by
  refine PCall.of_body Try.func102 rfl Try.ntmps102 (congrArg Array.toList Try.results102) ?_
  intro E
  simp only [go_sem, eSect]
  refine drawn (by kernel_rfl) (by kernel_rfl) ?_
  simp only [go_sem]
  intro nx _ _
  refine callV (f57 _) ?_
  intro nx2 lv2
  simp only [go_sem]
  repeat' first | (refine callV (f56 _ _ _) ?_; intro _ _; simp only [go_sem]) | refine And.intro ?_ ?_ | intro _
  all_goals (try simp_all [secE])
  all_goals trace_state

set_option maxHeartbeats 4000000 in
set_option maxRecDepth 20000 in
theorem f64 (s : Sect) (st : Int) : PCall Try.prog 64 [eSect s, .int .i64 st] (RV (.int .i64 (secE s st))) := by
  refine PCall.of_body Try.func64 rfl Try.ntmps64 (congrArg Array.toList Try.results64) ?_
  intro E
  by_cases a0 : s.kind < 1
  · simp (config := {maxSteps := 1000000}) only [go_sem, eSect, a0]
    have h0 : endsF s.kind = 0 := by unfold endsF; grind
    simp [secE, h0]
  by_cases a1 : 3 < s.kind
  · simp (config := {maxSteps := 1000000}) only [go_sem, eSect, a0, a1]
    have h0 : endsF s.kind = 0 := by unfold endsF; grind
    simp [secE, h0]
  by_cases a2 : s.len < 10
  · simp (config := {maxSteps := 1000000}) only [go_sem, eSect, a0, a1, a2]; grind [secE, endsF, within]
  by_cases a3 : 3000 < s.len
  · simp (config := {maxSteps := 1000000}) only [go_sem, eSect, a0, a1, a2, a3]; grind [secE, endsF, within]
  by_cases a4 : s.grade < -40
  · simp (config := {maxSteps := 1000000}) only [go_sem, eSect, a0, a1, a2, a3, a4]; grind [secE, endsF, within]
  by_cases a5 : 40 < s.grade
  · simp (config := {maxSteps := 1000000}) only [go_sem, eSect, a0, a1, a2, a3, a4, a5]; grind [secE, endsF, within]
  by_cases a6 : s.speed < 300
  · simp (config := {maxSteps := 1000000}) only [go_sem, eSect, a0, a1, a2, a3, a4, a5, a6]; grind [secE, endsF, within]
  by_cases a7 : 6000 < s.speed
  · simp (config := {maxSteps := 1000000}) only [go_sem, eSect, a0, a1, a2, a3, a4, a5, a6, a7]; grind [secE, endsF, within]
  have hk : s.kind = 1 ∨ s.kind = 2 ∨ s.kind = 3 := by omega
  rcases hk with k | k | k
  · by_cases b1 : s.station < 0
    · simp (config := {maxSteps := 1000000}) only [go_sem, eSect, k, a2, a3, a4, a5, a6, a7, b1]; grind [secE, endsF, within]
    by_cases b2 : st < s.station
    · simp (config := {maxSteps := 1000000}) only [go_sem, eSect, k, a2, a3, a4, a5, a6, a7, b1, b2]; grind [secE, endsF, within]
    simp (config := {maxSteps := 1000000}) only [go_sem, eSect, k, a2, a3, a4, a5, a6, a7, b1, b2]; grind [secE, endsF, within]
  · by_cases b1 : s.slow < 300
    · simp (config := {maxSteps := 1000000}) only [go_sem, eSect, k, a2, a3, a4, a5, a6, a7, b1]; grind [secE, endsF, within]
    by_cases b2 : s.speed < s.slow
    · simp (config := {maxSteps := 1000000}) only [go_sem, eSect, k, a2, a3, a4, a5, a6, a7, b1, b2]; grind [secE, endsF, within]
    simp (config := {maxSteps := 1000000}) only [go_sem, eSect, k, a2, a3, a4, a5, a6, a7, b1, b2]; grind [secE, endsF, within]
  · by_cases b1 : s.slow = 0
    · by_cases b2 : s.station = 0
      · simp (config := {maxSteps := 1000000}) only [go_sem, eSect, k, a2, a3, a4, a5, a6, a7, b1, b2]; grind [secE, endsF, within]
      · simp (config := {maxSteps := 1000000}) only [go_sem, eSect, k, a2, a3, a4, a5, a6, a7, b1, b2]; grind [secE, endsF, within]
    · simp (config := {maxSteps := 1000000}) only [go_sem, eSect, k, a2, a3, a4, a5, a6, a7, b1]; grind [secE, endsF, within]

/-- What is joined to an end. -/
def joinL : List Lnk → Int → Int → Option (Int × Int)
  | [], _, _ => none
  | l :: r, s, e => if l.a = s ∧ l.ea = e then some (l.b, l.eb) else if l.b = s ∧ l.eb = e then some (l.a, l.ea) else joinL r s e
def joinS (o : Option (Int × Int)) : Int := match o with
  | some p => p.1
  | none => 0
def joinE (o : Option (Int × Int)) : Int := match o with
  | some p => p.2
  | none => 0

set_option maxHeartbeats 4000000 in
set_option maxRecDepth 20000 in
theorem f59 (n : Net) (s e : Int) (hb : NetB n) : PCall Try.prog 59 [eNet n, .agg [.int .i64 s, .int .i64 e]]
    (RV (.tup [.agg [.int .i64 (joinS (joinL n.links s e)), .int .i64 (joinE (joinL n.links s e))], .bool (joinL n.links s e).isSome])) := by
  refine PCall.of_body Try.func59 rfl Try.ntmps59 (congrArg Array.toList Try.results59) ?_
  intro E
  have hlk := hb.lk
  simp only [go_sem, eNet, nCells]
  refine AW_loopH [5, 7, 11, 12, 13, 14, 15, 16, 17, 18, 19, 20, 21, 22, 23, 24, 25, 26, 27, 28, 29, 30, 31, 32, 33, 34, 35, 36, 37, 38, 39, 40, 41, 42, 43, 44, 45, 46, 47, 48, 49, 50, 51]
    (fun (i : Nat) ρ m => ρ 11 = .int .i64 (i : Int) ∧ i ≤ n.links.length ∧ joinL (n.links.drop i) s e = joinL n.links s e ∧
      ∃ h nx lv, m = ⟨h, [], nx, lv⟩ ∧ AB.hget h 3 = some (0, [.int .i64 s, .int .i64 e]) ∧ AB.hget h 4 = some (0, [.int .i64 0, .int .i64 0])) (fun i => n.links.length - i) 0 ?_ ?_
  · simp only [go_sem, List.drop_zero]
    exact ⟨Nat.zero_le _, _, _, _, rfl, by simp [go_sem]⟩
  · rintro i ρ m ⟨e1, g1, g2, h, nx, lv, rfl, hb3, hb4⟩ Q hN hR hX
    by_cases hlt : i < n.links.length
    · obtain ⟨p, hp⟩ : ∃ p, n.links[i]? = some p := ⟨_, List.getElem?_eq_getElem hlt⟩
      have hd : n.links.drop i = p :: n.links.drop (i + 1) := by
        rw [List.drop_eq_getElem_cons hlt]
        rw [List.getElem?_eq_getElem hlt] at hp
        cases hp; rfl
      rw [hd] at g2
      have hlt' : ((i : Int) < (n.links.length : Int)) = True := by simp; omega
      by_cases q1 : p.a = s ∧ p.ea = e
      · have r : joinL n.links s e = some (p.b, p.eb) := by rw [← g2]; simp [joinL, q1]
        simp (config := {maxSteps := 1000000}) (disch := omega) only [go_sem, e1, hN, hR, hX, hlt', hp, dLnk, i64_in, q1, r, joinS, joinE, Option.isSome, hb3, hb4]
        omega
      by_cases q2 : p.b = s ∧ p.eb = e
      · have r : joinL n.links s e = some (p.a, p.ea) := by rw [← g2]; simp [joinL, q1, q2]
        by_cases q3 : p.a = s
        · have q4 : ¬ p.ea = e := fun x => q1 ⟨q3, x⟩
          have q5 := q2.1
          have q6 := q2.2
          clear q2
          simp (config := {maxSteps := 1000000}) (disch := omega) only [go_sem, e1, hN, hR, hX, hlt', hp, dLnk, i64_in, q4, q5, q6, q3, r, joinS, joinE, Option.isSome, hb3, hb4]
          omega
        · simp (config := {maxSteps := 1000000}) (disch := omega) only [go_sem, e1, hN, hR, hX, hlt', hp, dLnk, i64_in, q2, q3, r, joinS, joinE, Option.isSome, hb3, hb4]
          omega
      have r : joinL (n.links.drop (i + 1)) s e = joinL n.links s e := by rw [← g2]; simp [joinL, q1, q2]
      by_cases q3 : p.a = s
      · have q4 : ¬ p.ea = e := fun x => q1 ⟨q3, x⟩
        by_cases q5 : p.b = s
        · have q6 : ¬ p.eb = e := fun x => q2 ⟨q5, x⟩
          simp (config := {maxSteps := 1000000}) (disch := omega) only [go_sem, e1, hN, hR, hX, hlt', hp, dLnk, i64_in, q3, q4, q5, q6, hb3, hb4]
          refine ⟨by omega, by kernel_rfl, i + 1, ?_, by simp only; omega⟩
          simp only [go_sem]
          exact ⟨by simp, by omega, r, _, _, _, rfl, by simp [go_sem, hb3], by simp [go_sem, hb4]⟩
        · simp (config := {maxSteps := 1000000}) (disch := omega) only [go_sem, e1, hN, hR, hX, hlt', hp, dLnk, i64_in, q3, q4, q5, hb3, hb4]
          refine ⟨by omega, by kernel_rfl, i + 1, ?_, by simp only; omega⟩
          simp only [go_sem]
          exact ⟨by simp, by omega, r, _, _, _, rfl, by simp [go_sem, hb3], by simp [go_sem, hb4]⟩
      · by_cases q5 : p.b = s
        · have q6 : ¬ p.eb = e := fun x => q2 ⟨q5, x⟩
          simp (config := {maxSteps := 1000000}) (disch := omega) only [go_sem, e1, hN, hR, hX, hlt', hp, dLnk, i64_in, q3, q5, q6, hb3, hb4]
          refine ⟨by omega, by kernel_rfl, i + 1, ?_, by simp only; omega⟩
          simp only [go_sem]
          exact ⟨by simp, by omega, r, _, _, _, rfl, by simp [go_sem, hb3], by simp [go_sem, hb4]⟩
        · simp (config := {maxSteps := 1000000}) (disch := omega) only [go_sem, e1, hN, hR, hX, hlt', hp, dLnk, i64_in, q3, q5, hb3, hb4]
          refine ⟨by omega, by kernel_rfl, i + 1, ?_, by simp only; omega⟩
          simp only [go_sem]
          exact ⟨by simp, by omega, r, _, _, _, rfl, by simp [go_sem, hb3], by simp [go_sem, hb4]⟩
    · have hlt' : ((i : Int) < (n.links.length : Int)) = False := by simp; omega
      rw [List.drop_eq_nil_of_le (by omega)] at g2
      simp (config := {maxSteps := 1000000}) (disch := omega) only [go_sem, e1, hN, hR, hX, hlt', ← g2, joinL, joinS, joinE, Option.isSome, hb3, hb4]

set_option maxHeartbeats 4000000 in
set_option maxRecDepth 20000 in
theorem f77 (n : Net) (s e : Int) (hb : NetB n) : PCall Try.prog 77 [eNet n, .int .i64 s, .int .i64 e]
    (RV (.tup [.int .i64 (joinS (joinL n.links s e)), .int .i64 (joinE (joinL n.links s e)), .bool (joinL n.links s e).isSome])) := by
  refine PCall.of_body Try.func77 rfl Try.ntmps77 (congrArg Array.toList Try.results77) ?_
  intro E
  have hlk := hb.lk
  simp only [go_sem, eNet, nCells]
  refine AW_loopH [6, 7, 8, 10, 14, 15, 16, 17, 18, 19, 20, 21, 22, 23, 24, 25, 26, 27, 28, 29, 30, 31, 32, 33, 34, 35, 36, 37, 38, 39, 40, 41, 42, 43, 44, 45, 46]
    (fun (i : Nat) ρ m => ρ 14 = .int .i64 (i : Int) ∧ i ≤ n.links.length ∧ joinL (n.links.drop i) s e = joinL n.links s e ∧
      ∃ h nx lv, m = ⟨h, [], nx, lv⟩) (fun i => n.links.length - i) 0 ?_ ?_
  · simp only [go_sem, List.drop_zero]
    exact ⟨Nat.zero_le _, _, _, _, rfl⟩
  · rintro i ρ m ⟨e1, g1, g2, h, nx, lv, rfl⟩ Q hN hR hX
    by_cases hlt : i < n.links.length
    · obtain ⟨p, hp⟩ : ∃ p, n.links[i]? = some p := ⟨_, List.getElem?_eq_getElem hlt⟩
      have hd : n.links.drop i = p :: n.links.drop (i + 1) := by
        rw [List.drop_eq_getElem_cons hlt]
        rw [List.getElem?_eq_getElem hlt] at hp
        cases hp; rfl
      rw [hd] at g2
      have hlt' : ((i : Int) < (n.links.length : Int)) = True := by simp; omega
      by_cases q1 : p.a = s ∧ p.ea = e
      · have r : joinL n.links s e = some (p.b, p.eb) := by rw [← g2]; simp [joinL, q1]
        simp (config := {maxSteps := 1000000}) (disch := omega) only [go_sem, e1, hN, hR, hX, hlt', hp, dLnk, i64_in, q1, r, joinS, joinE, Option.isSome]
        refine ⟨by omega, ?_⟩
        refine drawn (by kernel_rfl) (by kernel_rfl) ?_
        simp (config := {maxSteps := 1000000}) only [go_sem, hN, hR, hX, r, joinS, joinE, Option.isSome]
      by_cases q2 : p.b = s ∧ p.eb = e
      · have r : joinL n.links s e = some (p.a, p.ea) := by rw [← g2]; simp [joinL, q1, q2]
        by_cases q3 : p.a = s
        · have q4 : ¬ p.ea = e := fun x => q1 ⟨q3, x⟩
          have q5 := q2.1
          have q6 := q2.2
          clear q2
          simp (config := {maxSteps := 1000000}) (disch := omega) only [go_sem, e1, hN, hR, hX, hlt', hp, dLnk, i64_in, q4, q5, q6, q3, r, joinS, joinE, Option.isSome]
          refine ⟨by omega, ?_⟩
          refine drawn (by kernel_rfl) (by kernel_rfl) ?_
          simp (config := {maxSteps := 1000000}) only [go_sem, hN, hR, hX, r, joinS, joinE, Option.isSome]
          intro _ _ _ _
          exact q3.symm
        · simp (config := {maxSteps := 1000000}) (disch := omega) only [go_sem, e1, hN, hR, hX, hlt', hp, dLnk, i64_in, q2, q3, r, joinS, joinE, Option.isSome]
          refine ⟨by omega, ?_⟩
          refine drawn (by kernel_rfl) (by kernel_rfl) ?_
          simp (config := {maxSteps := 1000000}) only [go_sem, hN, hR, hX, r, joinS, joinE, Option.isSome]
      have r : joinL (n.links.drop (i + 1)) s e = joinL n.links s e := by rw [← g2]; simp [joinL, q1, q2]
      by_cases q3 : p.a = s
      · have q4 : ¬ p.ea = e := fun x => q1 ⟨q3, x⟩
        by_cases q5 : p.b = s
        · have q6 : ¬ p.eb = e := fun x => q2 ⟨q5, x⟩
          simp (config := {maxSteps := 1000000}) (disch := omega) only [go_sem, e1, hN, hR, hX, hlt', hp, dLnk, i64_in, q3, q4, q5, q6]
          refine ⟨by omega, by kernel_rfl, i + 1, ?_, by simp only; omega⟩
          simp only [go_sem]
          exact ⟨by simp, by omega, r, _, _, _, rfl⟩
        · simp (config := {maxSteps := 1000000}) (disch := omega) only [go_sem, e1, hN, hR, hX, hlt', hp, dLnk, i64_in, q3, q4, q5]
          refine ⟨by omega, by kernel_rfl, i + 1, ?_, by simp only; omega⟩
          simp only [go_sem]
          exact ⟨by simp, by omega, r, _, _, _, rfl⟩
      · by_cases q5 : p.b = s
        · have q6 : ¬ p.eb = e := fun x => q2 ⟨q5, x⟩
          simp (config := {maxSteps := 1000000}) (disch := omega) only [go_sem, e1, hN, hR, hX, hlt', hp, dLnk, i64_in, q3, q5, q6]
          refine ⟨by omega, by kernel_rfl, i + 1, ?_, by simp only; omega⟩
          simp only [go_sem]
          exact ⟨by simp, by omega, r, _, _, _, rfl⟩
        · simp (config := {maxSteps := 1000000}) (disch := omega) only [go_sem, e1, hN, hR, hX, hlt', hp, dLnk, i64_in, q3, q5]
          refine ⟨by omega, by kernel_rfl, i + 1, ?_, by simp only; omega⟩
          simp only [go_sem]
          exact ⟨by simp, by omega, r, _, _, _, rfl⟩
    · have hlt' : ((i : Int) < (n.links.length : Int)) = False := by simp; omega
      rw [List.drop_eq_nil_of_le (by omega)] at g2
      simp (config := {maxSteps := 1000000}) (disch := omega) only [go_sem, e1, hN, hR, hX, hlt', ← g2, joinL, joinS, joinE, Option.isSome]
end Go.Proofs.Yteadhjclchjfjaa

/- Nets: the search in lists of names; the check of gates. -/
/- Nets: the search in lists of names; the checks of gates and signals. -/
namespace Go.Proofs.Yteadhjclchjfjaa
set_option linter.unusedSimpArgs false
set_option linter.unusedVariables false
open Go.AB

def idxF : List (List UInt8) → List UInt8 → Int → Int
  | [], _, _ => -1
  | x :: r, s, i => if s = x then i else idxF r s (i + 1)
theorem idxF_iff : ∀ {l : List (List UInt8)} {s : List UInt8} {i : Int}, 0 ≤ i → (0 ≤ idxF l s i ↔ s ∈ l)
  | [], _, _, _ => by simp [idxF]
  | x :: r, s, i, h => by
    unfold idxF
    split
    · rename_i e; simp [e, h]
    · rename_i e
      rw [idxF_iff (l := r) (s := s) (i := i + 1) (by omega)]
      simp [e]

set_option maxHeartbeats 4000000 in
set_option maxRecDepth 20000 in
theorem f126 (l : List (List UInt8)) (s : List UInt8) (hl : l.length ≤ 140737488351232) : PCall Try.prog 126 [.sl 1 (l.map DV.str) .no, .str s] (RV (.int .i64 (idxF l s 0))) := by
  refine PCall.of_body Try.func126 rfl Try.ntmps126 (congrArg Array.toList Try.results126) ?_
  intro E
  simp only [go_sem]
  refine AW_loopH [4, 5, 8, 9, 10, 11, 12, 13, 14, 15, 16, 17, 18]
    (fun (i : Nat) ρ m => ρ 8 = .int .i64 (i : Int) ∧ i ≤ l.length ∧ idxF (l.drop i) s (i : Int) = idxF l s 0 ∧ ∃ nx lv, m = ⟨[], [], nx, lv⟩) (fun i => l.length - i) 0 ?_ ?_
  · simp only [go_sem]
    exact ⟨Nat.zero_le _, _, _, rfl⟩
  · rintro i ρ m ⟨e1, g1, g2, nx, lv, rfl⟩ Q hN hR hX
    by_cases hlt : i < l.length
    · obtain ⟨p, hp⟩ : ∃ p, l[i]? = some p := ⟨_, List.getElem?_eq_getElem hlt⟩
      have hd : l.drop i = p :: l.drop (i + 1) := by
        rw [List.drop_eq_getElem_cons hlt]
        rw [List.getElem?_eq_getElem hlt] at hp
        cases hp; rfl
      have hlt' : ((i : Int) < (l.length : Int)) = True := by simp; omega
      rw [hd, show idxF (p :: l.drop (i + 1)) s (i : Int) = if s = p then (i : Int) else idxF (l.drop (i + 1)) s (i + 1) from rfl] at g2
      by_cases q : s = p
      · rw [if_pos q] at g2
        simp (disch := omega) only [go_sem, e1, hN, hR, hX, hlt', hp, i64_in, q]
        rw [← q]
        exact ⟨by omega, g2⟩
      · rw [if_neg q] at g2
        simp (disch := omega) only [go_sem, e1, hN, hR, hX, hlt', hp, i64_in, q]
        refine ⟨by omega, by kernel_rfl, i + 1, ?_, by simp only; omega⟩
        simp only [go_sem]
        exact ⟨by simp, by omega, by simpa using g2, _, _, rfl⟩
    · have hlt' : ((i : Int) < (l.length : Int)) = False := by simp; omega
      rw [List.drop_eq_nil_of_le (by omega)] at g2
      simp (disch := omega) only [go_sem, e1, hN, hR, hX, hlt']
      exact g2

theorem f101 (l : List (List UInt8)) (s : List UInt8) (hl : l.length ≤ 140737488351232) : PCall Try.prog 101 [.sl 1 (l.map DV.str) .no, .str s] (RV (.bool (decide (s ∈ l)))) := by
  refine PCall.of_body Try.func101 rfl Try.ntmps101 (congrArg Array.toList Try.results101) ?_
  intro E
  simp only [go_sem]
  refine callV (f126 l s hl) ?_
  intro nx lv
  simp only [go_sem]
  exact decide_eq_decide.2 (idxF_iff (Int.le_refl 0))

/-- The error of the gate with this number. -/
def gateE (n : Net) (i : Nat) : Int := match n.gates[i]? with
  | none => 0
  | some g => if within g.s 0 (n.sects.length - 1) = false then 3 else if kindAt n g.s ≠ 1 then 1 else if within g.e 1 12 = false then 2 else if 0 < i ∧ g.s ≤ ((n.gates[i - 1]?).map Pair.s).getD 0 then 5 else 0
def firstE (f : Nat → Int) : Nat → Nat → Int
  | 0, _ => 0
  | k + 1, i => if f i ≠ 0 then f i else firstE f k (i + 1)
def gatesE (n : Net) : Int := firstE (gateE n) n.gates.length 0

set_option maxHeartbeats 4000000 in
set_option maxRecDepth 20000 in
theorem f105 (n : Net) (hb : NetB n) : PCall Try.prog 105 [eNet n] (RV (.int .i64 (gatesE n))) := by
  refine PCall.of_body Try.func105 rfl Try.ntmps105 (congrArg Array.toList Try.results105) ?_
  intro E
  have hgt := hb.gt
  have hsc := hb.sc
  simp only [go_sem, eNet, nCells]
  refine AW_loopH [2, 3, 4, 8, 9, 10, 11, 12, 13, 14, 15, 16, 17, 18, 19, 20, 21, 22, 23, 24, 25, 26, 27, 28, 29, 30, 31, 32, 33, 34, 35, 36, 37, 38, 39, 40, 41, 42, 43, 44, 45, 46, 47, 48, 49, 50, 51]
    (fun (i : Nat) ρ m => ρ 8 = .int .i64 (i : Int) ∧ i ≤ n.gates.length ∧ firstE (gateE n) (n.gates.length - i) i = gatesE n ∧
      ∃ h nx lv, m = ⟨h, [], nx, lv⟩ ∧ AB.hget h 1 = some (0, nCells n)) (fun i => n.gates.length - i) 0 ?_ ?_
  · simp only [go_sem]
    exact ⟨Nat.zero_le _, rfl, _, _, _, rfl, by simp [go_sem, nCells]⟩
  · rintro i ρ m ⟨e1, g1, g2, h, nx, lv, rfl, hb1⟩ Q hN hR hX
    simp only [nCells] at hb1
    by_cases hlt : i < n.gates.length
    · obtain ⟨p, hp⟩ : ∃ p, n.gates[i]? = some p := ⟨_, List.getElem?_eq_getElem hlt⟩
      have hlt' : ((i : Int) < (n.gates.length : Int)) = True := by simp; omega
      have hf : firstE (gateE n) (n.gates.length - i) i = if gateE n i ≠ 0 then gateE n i else firstE (gateE n) (n.gates.length - (i + 1)) (i + 1) := by
        have : n.gates.length - i = (n.gates.length - (i + 1)) + 1 := by omega
        rw [this]; rfl
      rw [hf] at g2
      have hge : gateE n i = if within p.s 0 (n.sects.length - 1) = false then 3 else if kindAt n p.s ≠ 1 then 1 else if within p.e 1 12 = false then 2 else if 0 < i ∧ p.s ≤ ((n.gates[i - 1]?).map Pair.s).getD 0 then 5 else 0 := by
        simp [gateE, hp]
      rw [hge] at g2
      simp (disch := omega) only [go_sem, e1, hN, hR, hX, hlt', hp, dPair, i64_in, hb1]
      generalize genO (AB.hget h 4) = G
      refine ⟨by omega, ?_⟩
      refine callV (f56 _ _ _) ?_
      intro nx2 lv2
      by_cases q1 : within p.s 0 (n.sects.length - 1) = true
      · have h2 : 0 ≤ p.s ∧ p.s ≤ n.sects.length - 1 := by simpa [within] using q1
        obtain ⟨c, hc⟩ : ∃ c, n.sects[p.s.toNat]? = some c := ⟨_, List.getElem?_eq_getElem (by omega)⟩
        have hk : kindAt n p.s = c.kind := by simp [kindAt, hc]
        by_cases q2 : c.kind = 1
        · simp (disch := omega) only [go_sem, hN, hR, hX, hb1, q1, hc, dSect, q2]
          refine ⟨by omega, ?_⟩
          refine callV (f56 _ _ _) ?_
          intro nx3 lv3
          by_cases q3 : within p.e 1 12 = true
          · simp (disch := omega) only [go_sem, hN, hR, hX, hb1, q3]
            by_cases q4 : 0 < i
            · have q4' : ((0 : Int) < (i : Int)) = True := by simp; omega
              obtain ⟨r, hr⟩ : ∃ r, n.gates[i - 1]? = some r := ⟨_, List.getElem?_eq_getElem (by omega)⟩
              have ei : ((i : Int) - 1).toNat = i - 1 := by omega
              refine drawn (by kernel_rfl) (by kernel_rfl) ?_
              by_cases q5 : p.s ≤ r.s
              · simp (disch := omega) only [go_sem, hN, hR, hX, hb1, q4', ei, hr, dPair, q5, i64_in]
                refine ⟨by omega, fun _ _ _ _ => ?_⟩
                rw [← g2]; simp [q1, hk, q2, q3, hr, q4, q5]
              · simp (disch := omega) only [go_sem, hN, hR, hX, hb1, q4', ei, hr, dPair, q5, i64_in]
                refine ⟨by omega, fun nx4 lv4 _ _ => ⟨by kernel_rfl, i + 1, ?_, by simp only; omega⟩⟩
                simp only [go_sem]
                exact ⟨by simp, by omega, by rw [← g2]; simp [q1, hk, q2, q3, hr, q4, q5], _, _, _, rfl, by simp [go_sem, hb1, nCells]⟩
            · have q4' : ((0 : Int) < (i : Int)) = False := by simp; omega
              refine drawn (by kernel_rfl) (by kernel_rfl) ?_
              simp (disch := omega) only [go_sem, hN, hR, hX, hb1, q4', i64_in]
              refine fun nx4 lv4 _ _ => ⟨by kernel_rfl, i + 1, ?_, by simp only; omega⟩
              simp only [go_sem]
              exact ⟨by simp, by omega, by rw [← g2]; simp [q1, hk, q2, q3, q4], _, _, _, rfl, by simp [go_sem, hb1, nCells]⟩
          · have q3 : within p.e 1 12 = false := by simpa using q3
            simp (disch := omega) only [go_sem, hN, hR, hX, hb1, q3]
            rw [← g2]; simp [q1, hk, q2, q3]
        · simp (disch := omega) only [go_sem, hN, hR, hX, hb1, q1, hc, dSect, q2]
          refine ⟨by omega, ?_⟩
          rw [← g2]; simp [q1, hk, q2]
      · have q1 : within p.s 0 (n.sects.length - 1) = false := by simpa using q1
        simp (disch := omega) only [go_sem, hN, hR, hX, hb1, q1]
        rw [← g2]; simp [q1]
    · have hlt' : ((i : Int) < (n.gates.length : Int)) = False := by simp; omega
      have : n.gates.length - i = 0 := by omega
      rw [this] at g2
      simp (disch := omega) only [go_sem, e1, hN, hR, hX, hlt']
      rw [← g2]; rfl
end Go.Proofs.Yteadhjclchjfjaa

/- Nets: the check of signals. -/
/- Nets: the check of signals. -/
namespace Go.Proofs.Yteadhjclchjfjaa
set_option linter.unusedSimpArgs false
set_option linter.unusedVariables false
open Go.AB

/-- The error of the signal with this number. -/
def sigE (n : Net) (i : Nat) : Int := match n.sigs[i]? with
  | none => 0
  | some g => if hasF n g.s g.e = false then 3 else if kindAt n g.s ≠ 1 ∨ (joinL n.links g.s g.e).isSome = false then 1
    else if 0 < i ∧ lessF (((n.sigs[i - 1]?).map Pair.s).getD 0) (((n.sigs[i - 1]?).map Pair.e).getD 0) g.s g.e = false then 5 else 0
def sigsE (n : Net) : Int := firstE (sigE n) n.sigs.length 0

set_option maxHeartbeats 4000000 in
set_option maxRecDepth 20000 in
theorem f104 (n : Net) (hb : NetB n) : PCall Try.prog 104 [eNet n] (RV (.int .i64 (sigsE n))) := by
  refine PCall.of_body Try.func104 rfl Try.ntmps104 (congrArg Array.toList Try.results104) ?_
  intro E
  have hsg := hb.sg
  have hsc := hb.sc
  simp only [go_sem, eNet, nCells]
  refine AW_loopH [2, 3, 4, 5, 6, 7, 8, 12, 13, 14, 15, 16, 17, 18, 19, 20, 21, 22, 23, 24, 25, 26, 27, 28, 29, 30, 31, 32, 33, 34, 35, 36, 37, 38, 39, 40, 41, 42, 43, 44, 45, 46, 47, 48, 49, 50, 51, 52, 53, 54, 55, 56, 57, 58, 59, 60, 61, 62, 63, 64, 65]
    (fun (i : Nat) ρ m => ρ 12 = .int .i64 (i : Int) ∧ i ≤ n.sigs.length ∧ firstE (sigE n) (n.sigs.length - i) i = sigsE n ∧
      ∃ h nx lv, m = ⟨h, [], nx, lv⟩ ∧ AB.hget h 1 = some (0, nCells n)) (fun i => n.sigs.length - i) 0 ?_ ?_
  · simp only [go_sem]
    exact ⟨Nat.zero_le _, rfl, _, _, _, rfl, by simp [go_sem, nCells]⟩
  · rintro i ρ m ⟨e1, g1, g2, h, nx, lv, rfl, hb1⟩ Q hN hR hX
    simp only [nCells] at hb1
    by_cases hlt : i < n.sigs.length
    · obtain ⟨p, hp⟩ : ∃ p, n.sigs[i]? = some p := ⟨_, List.getElem?_eq_getElem hlt⟩
      have hlt' : ((i : Int) < (n.sigs.length : Int)) = True := by simp; omega
      have hf : firstE (sigE n) (n.sigs.length - i) i = if sigE n i ≠ 0 then sigE n i else firstE (sigE n) (n.sigs.length - (i + 1)) (i + 1) := by
        have : n.sigs.length - i = (n.sigs.length - (i + 1)) + 1 := by omega
        rw [this]; rfl
      rw [hf] at g2
      have hge : sigE n i = if hasF n p.s p.e = false then 3 else if kindAt n p.s ≠ 1 ∨ (joinL n.links p.s p.e).isSome = false then 1
          else if 0 < i ∧ lessF (((n.sigs[i - 1]?).map Pair.s).getD 0) (((n.sigs[i - 1]?).map Pair.e).getD 0) p.s p.e = false then 5 else 0 := by
        simp [sigE, hp]
      rw [hge] at g2
      simp (disch := omega) only [go_sem, e1, hN, hR, hX, hlt', hp, dPair, i64_in, hb1]
      refine ⟨by omega, ?_⟩
      refine callV (f72 n p.s p.e hb) ?_
      intro nx2 lv2
      by_cases q1 : hasF n p.s p.e = true
      · have h2 : 0 ≤ p.s ∧ p.s ≤ n.sects.length - 1 := by
          have : within p.s 0 (n.sects.length - 1) = true := by
            unfold hasF at q1
            simp at q1; exact q1.1
          simpa [within] using this
        obtain ⟨c, hc⟩ : ∃ c, n.sects[p.s.toNat]? = some c := ⟨_, List.getElem?_eq_getElem (by omega)⟩
        have hk : kindAt n p.s = c.kind := by simp [kindAt, hc]
        simp (disch := omega) only [go_sem, hN, hR, hX, hb1, q1]
        refine callV (f59 n p.s p.e hb) ?_
        intro nx3 lv3
        by_cases q2 : (joinL n.links p.s p.e).isSome = true
        · by_cases q3 : c.kind = 1
          · by_cases q4 : 0 < i
            · have q4' : ((0 : Int) < (i : Int)) = True := by simp; omega
              obtain ⟨r, hr⟩ : ∃ r, n.sigs[i - 1]? = some r := ⟨_, List.getElem?_eq_getElem (by omega)⟩
              have ei : ((i : Int) - 1).toNat = i - 1 := by omega
              simp (disch := omega) only [go_sem, hN, hR, hX, hb1, q2, hc, dSect, q3, q4', ei, hr, dPair, i64_in]
              refine ⟨by omega, by omega, ?_⟩
              refine drawn (by kernel_rfl) (by kernel_rfl) ?_
              simp (disch := omega) only [go_sem, hN, hR, hX, hb1, i64_in]
              refine quietD (f128 _ _) (fun _ => rfl) ?_
              simp (disch := omega) only [go_sem, hN, hR, hX, hb1, i64_in]
              refine quietD (f128 _ _) (fun _ => rfl) ?_
              simp (disch := omega) only [go_sem, hN, hR, hX, hb1, i64_in]
              refine quietD (f127 _ _) (fun _ => rfl) ?_
              by_cases q5 : lessF r.s r.e p.s p.e = false
              · have q6 := (order_F _ _ _ _).2 q5
                simp (disch := omega) only [go_sem, hN, hR, hX, hb1, q6]
                intro _ _ _ _
                rw [← g2]; simp [q1, hk, q2, q3, hr, q4, q5]
              · have q6 : ¬ _ := fun x => q5 ((order_F _ _ _ _).1 x)
                simp (disch := omega) only [go_sem, hN, hR, hX, hb1, q6, i64_in]
                have q5' : lessF r.s r.e p.s p.e = true := by simpa using q5
                refine fun nx4 lv4 _ _ => ⟨by kernel_rfl, i + 1, ?_, by simp only; omega⟩
                simp only [go_sem]
                exact ⟨by simp, by omega, by rw [← g2]; simp [q1, hk, q2, q3, hr, q4, q5'], _, _, _, rfl, by simp [go_sem, hb1, nCells]⟩
            · have q4' : ((0 : Int) < (i : Int)) = False := by simp; omega
              simp (disch := omega) only [go_sem, hN, hR, hX, hb1, q2, hc, dSect, q3, q4', i64_in]
              refine ⟨by omega, by kernel_rfl, i + 1, ?_, by simp only; omega⟩
              simp only [go_sem]
              exact ⟨by simp, by omega, by rw [← g2]; simp [q1, hk, q2, q3, q4], _, _, _, rfl, by simp [go_sem, hb1, nCells]⟩
          · simp (disch := omega) only [go_sem, hN, hR, hX, hb1, q2, hc, dSect, q3]
            refine ⟨by omega, ?_⟩
            rw [← g2]; simp [q1, hk, q3]
        · have q2 : (joinL n.links p.s p.e).isSome = false := by simpa using q2
          simp (disch := omega) only [go_sem, hN, hR, hX, hb1, q2]
          rw [← g2]; simp [q1, q2]
      · have q1 : hasF n p.s p.e = false := by simpa using q1
        simp (disch := omega) only [go_sem, hN, hR, hX, hb1, q1]
        rw [← g2]; simp [q1]
    · have hlt' : ((i : Int) < (n.sigs.length : Int)) = False := by simp; omega
      have : n.sigs.length - i = 0 := by omega
      rw [this] at g2
      simp (disch := omega) only [go_sem, e1, hN, hR, hX, hlt']
      rw [← g2]; rfl
end Go.Proofs.Yteadhjclchjfjaa

/- Nets: the reference's checks of signals and gates. -/
/- Nets: the reference's checks of signals and gates. -/
namespace Go.Proofs.Yteadhjclchjfjaa
set_option linter.unusedSimpArgs false
set_option linter.unusedVariables false
open Go.AB

def restE (n : Net) : Int := if sigsE n ≠ 0 then sigsE n else gatesE n

set_option maxHeartbeats 4000000 in
set_option maxRecDepth 20000 in
theorem f66 (n : Net) (hb : NetB n) (hks : KindsOk n) : PCall Try.prog 66 [eNet n] (RV (.int .i64 (restE n))) := by
  refine PCall.of_body Try.func66 rfl Try.ntmps66 (congrArg Array.toList Try.results66) ?_
  intro E
  have hsg := hb.sg
  have hsc := hb.sc
  have hgt := hb.gt
  simp only [go_sem, eNet, nCells]
  refine AW_loopH [2, 3, 4, 5, 6, 7, 13, 14, 15, 16, 17, 18, 19, 20, 21, 22, 23, 24, 25, 26, 27, 28, 29, 30, 31, 32, 33, 34, 35, 36, 37, 38, 39, 40, 41, 42, 43, 44, 45, 46, 47, 48, 49, 50, 51, 52, 53, 54, 55, 56, 57, 58, 59, 60, 61, 62, 63, 64, 65, 66, 67, 68, 69, 70, 71]
    (fun (i : Nat) ρ m => ρ 13 = .int .i64 (i : Int) ∧ i ≤ n.sigs.length ∧ firstE (sigE n) (n.sigs.length - i) i = sigsE n ∧
      ∃ h nx lv, m = ⟨h, [], nx, lv⟩ ∧ AB.hget h 1 = some (0, nCells n)) (fun i => n.sigs.length - i) 0 ?_ ?_
  · simp only [go_sem]
    exact ⟨Nat.zero_le _, rfl, _, _, _, rfl, by simp [go_sem, nCells]⟩
  · rintro i ρ m ⟨e1, g1, g2, h, nx, lv, rfl, hb1⟩ Q hN hR hX
    simp only [nCells] at hb1
    by_cases hlt : i < n.sigs.length
    · obtain ⟨p, hp⟩ : ∃ p, n.sigs[i]? = some p := ⟨_, List.getElem?_eq_getElem hlt⟩
      have hlt' : ((i : Int) < (n.sigs.length : Int)) = True := by simp; omega
      have hf : firstE (sigE n) (n.sigs.length - i) i = if sigE n i ≠ 0 then sigE n i else firstE (sigE n) (n.sigs.length - (i + 1)) (i + 1) := by
        have : n.sigs.length - i = (n.sigs.length - (i + 1)) + 1 := by omega
        rw [this]; rfl
      rw [hf] at g2
      have hge : sigE n i = if hasF n p.s p.e = false then 3 else if kindAt n p.s ≠ 1 ∨ (joinL n.links p.s p.e).isSome = false then 1
          else if 0 < i ∧ lessF (((n.sigs[i - 1]?).map Pair.s).getD 0) (((n.sigs[i - 1]?).map Pair.e).getD 0) p.s p.e = false then 5 else 0 := by
        simp [sigE, hp]
      rw [hge] at g2
      simp (disch := omega) only [go_sem, e1, hN, hR, hX, hlt', hp, dPair, i64_in, hb1]
      refine ⟨by omega, ?_⟩
      refine callV (f74 n p.s p.e hb hks) ?_
      intro nx2 lv2
      by_cases q1 : hasF n p.s p.e = true
      · have h2 : 0 ≤ p.s ∧ p.s ≤ n.sects.length - 1 := by
          have : within p.s 0 (n.sects.length - 1) = true := by
            unfold hasF at q1
            simp at q1; exact q1.1
          simpa [within] using this
        obtain ⟨c, hc⟩ : ∃ c, n.sects[p.s.toNat]? = some c := ⟨_, List.getElem?_eq_getElem (by omega)⟩
        have hk : kindAt n p.s = c.kind := by simp [kindAt, hc]
        simp (disch := omega) only [go_sem, hN, hR, hX, hb1, q1]
        refine callV (f77 n p.s p.e hb) ?_
        intro nx3 lv3
        by_cases q3 : c.kind = 1
        · by_cases q2 : (joinL n.links p.s p.e).isSome = true
          · by_cases q4 : 0 < i
            · have q4' : ((0 : Int) < (i : Int)) = True := by simp; omega
              obtain ⟨r, hr⟩ : ∃ r, n.sigs[i - 1]? = some r := ⟨_, List.getElem?_eq_getElem (by omega)⟩
              have ei : ((i : Int) - 1).toNat = i - 1 := by omega
              simp (disch := omega) only [go_sem, hN, hR, hX, hb1, q2, hc, dSect, q3, i64_in]
              refine ⟨by omega, ?_⟩
              refine drawn (by kernel_rfl) (by kernel_rfl) ?_
              simp (disch := omega) only [go_sem, hN, hR, hX, hb1, q4', ei, hr, dPair, i64_in]
              refine ⟨by omega, by omega, ?_⟩
              refine quietD (f106 _ _ _ _) (fun _ => rfl) ?_
              by_cases q5 : lessF r.s r.e p.s p.e = false
              · simp (disch := omega) only [go_sem, hN, hR, hX, hb1, q5]
                intro _ _ _ _
                have : sigsE n = 5 := by rw [← g2]; simp [q1, hk, q2, q3, hr, q4, q5]
                simp [restE, this]
              · have q5' : lessF r.s r.e p.s p.e = true := by simpa using q5
                simp (disch := omega) only [go_sem, hN, hR, hX, hb1, q5', i64_in]
                refine fun nx4 lv4 _ _ => ⟨by kernel_rfl, i + 1, ?_, by simp only; omega⟩
                simp only [go_sem]
                exact ⟨by simp, by omega, by rw [← g2]; simp [q1, hk, q2, q3, hr, q4, q5'], _, _, _, rfl, by simp [go_sem, hb1, nCells]⟩
            · have q4' : ((0 : Int) < (i : Int)) = False := by simp; omega
              simp (disch := omega) only [go_sem, hN, hR, hX, hb1, q2, hc, dSect, q3, i64_in]
              refine ⟨by omega, ?_⟩
              refine drawn (by kernel_rfl) (by kernel_rfl) ?_
              simp (disch := omega) only [go_sem, hN, hR, hX, hb1, q4', i64_in]
              refine fun nx4 lv4 _ _ => ⟨by kernel_rfl, i + 1, ?_, by simp only; omega⟩
              simp only [go_sem]
              exact ⟨by simp, by omega, by rw [← g2]; simp [q1, hk, q2, q3, q4], _, _, _, rfl, by simp [go_sem, hb1, nCells]⟩
          · have q2 : (joinL n.links p.s p.e).isSome = false := by simpa using q2
            simp (disch := omega) only [go_sem, hN, hR, hX, hb1, q2, hc, dSect, q3]
            refine ⟨by omega, ?_⟩
            have : sigsE n = 1 := by rw [← g2]; simp [q1, q2]
            simp [restE, this]
        · simp (disch := omega) only [go_sem, hN, hR, hX, hb1, hc, dSect, q3]
          refine ⟨by omega, ?_⟩
          have : sigsE n = 1 := by rw [← g2]; simp [q1, hk, q3]
          simp [restE, this]
      · have q1 : hasF n p.s p.e = false := by simpa using q1
        simp (disch := omega) only [go_sem, hN, hR, hX, hb1, q1]
        have : sigsE n = 3 := by rw [← g2]; simp [q1]
        simp [restE, this]
    · have hlt' : ((i : Int) < (n.sigs.length : Int)) = False := by simp; omega
      have : n.sigs.length - i = 0 := by omega
      rw [this] at g2
      simp (disch := omega) only [go_sem, e1, hN, hR, hX, hlt', hb1]
      have hz : restE n = gatesE n := by
        have : sigsE n = 0 := by rw [← g2]; rfl
        simp [restE, this]
      rw [hz]
      clear g2 hN hR hX e1
      refine AW_loopH [2, 8, 9, 75, 76, 77, 78, 79, 80, 81, 82, 83, 84, 85, 86, 87, 88, 89, 90, 91, 92, 93, 94, 95, 96, 97, 98, 99, 100, 101, 102, 103, 104, 105, 106, 107, 108, 109, 110, 111, 112, 113, 114, 115, 116, 117, 118, 119, 120, 121]
        (fun (i : Nat) ρ m => ρ 75 = .int .i64 (i : Int) ∧ i ≤ n.gates.length ∧ firstE (gateE n) (n.gates.length - i) i = gatesE n ∧
          ∃ h nx lv, m = ⟨h, [], nx, lv⟩ ∧ AB.hget h 1 = some (0, nCells n)) (fun i => n.gates.length - i) 0 ?_ ?_
      · simp only [go_sem]
        exact ⟨Nat.zero_le _, rfl, _, _, _, rfl, by simp [go_sem, nCells, hb1]⟩
      · rintro i ρ m ⟨e1, g1, g2, h, nx, lv, rfl, hb1⟩ Q hN hR hX
        simp only [nCells] at hb1
        by_cases hlt : i < n.gates.length
        · obtain ⟨p, hp⟩ : ∃ p, n.gates[i]? = some p := ⟨_, List.getElem?_eq_getElem hlt⟩
          have hlt' : ((i : Int) < (n.gates.length : Int)) = True := by simp; omega
          have hf : firstE (gateE n) (n.gates.length - i) i = if gateE n i ≠ 0 then gateE n i else firstE (gateE n) (n.gates.length - (i + 1)) (i + 1) := by
            have : n.gates.length - i = (n.gates.length - (i + 1)) + 1 := by omega
            rw [this]; rfl
          rw [hf] at g2
          have hge : gateE n i = if within p.s 0 (n.sects.length - 1) = false then 3 else if kindAt n p.s ≠ 1 then 1 else if within p.e 1 12 = false then 2 else if 0 < i ∧ p.s ≤ ((n.gates[i - 1]?).map Pair.s).getD 0 then 5 else 0 := by
            simp [gateE, hp]
          rw [hge] at g2
          by_cases a1 : p.s < 0
          · have q1 : within p.s 0 (n.sects.length - 1) = false := by simp [within]; omega
            simp (disch := omega) only [go_sem, e1, hN, hR, hX, hlt', hp, dPair, i64_in, hb1, a1]
            refine ⟨by omega, ?_⟩
            rw [← g2]; simp [q1]
          by_cases a2 : (n.sects.length : Int) ≤ p.s
          · have q1 : within p.s 0 (n.sects.length - 1) = false := by simp [within]; omega
            simp (disch := omega) only [go_sem, e1, hN, hR, hX, hlt', hp, dPair, i64_in, hb1, a1, a2]
            refine ⟨by omega, ?_⟩
            rw [← g2]; simp [q1]
          have q1 : within p.s 0 (n.sects.length - 1) = true := by simp [within]; omega
          obtain ⟨c, hc⟩ : ∃ c, n.sects[p.s.toNat]? = some c := ⟨_, List.getElem?_eq_getElem (by omega)⟩
          have hk : kindAt n p.s = c.kind := by simp [kindAt, hc]
          by_cases q2 : c.kind = 1
          · by_cases b1 : p.e < 1
            · have q3 : within p.e 1 12 = false := by simp [within]; omega
              simp (config := {maxSteps := 2000000}) (disch := omega) only [go_sem, e1, hN, hR, hX, hlt', hp, dPair, i64_in, hb1, a1, a2, hc, dSect, q2, b1]
              refine ⟨by omega, by omega, ?_⟩
              rw [← g2]; simp [q1, hk, q2, q3]
            by_cases b2 : 12 < p.e
            · have q3 : within p.e 1 12 = false := by simp [within]; omega
              simp (config := {maxSteps := 2000000}) (disch := omega) only [go_sem, e1, hN, hR, hX, hlt', hp, dPair, i64_in, hb1, a1, a2, hc, dSect, q2, b1, b2]
              refine ⟨by omega, by omega, ?_⟩
              rw [← g2]; simp [q1, hk, q2, q3]
            have q3 : within p.e 1 12 = true := by simp [within]; omega
            simp (disch := omega) only [go_sem, e1, hN, hR, hX, hlt', hp, dPair, i64_in, hb1, a1, a2, hc, dSect, q2, b1, b2]
            refine ⟨by omega, by omega, ?_⟩
            refine drawn (by kernel_rfl) (by kernel_rfl) ?_
            by_cases q4 : 0 < i
            · have q4' : ((0 : Int) < (i : Int)) = True := by simp; omega
              obtain ⟨r, hr⟩ : ∃ r, n.gates[i - 1]? = some r := ⟨_, List.getElem?_eq_getElem (by omega)⟩
              have ei : ((i : Int) - 1).toNat = i - 1 := by omega
              by_cases q5 : p.s ≤ r.s
              · simp (disch := omega) only [go_sem, hN, hR, hX, hb1, q4', ei, hr, dPair, q5, i64_in]
                refine ⟨by omega, fun _ _ _ _ => ?_⟩
                rw [← g2]; simp [q1, hk, q2, q3, hr, q4, q5]
              · simp (disch := omega) only [go_sem, hN, hR, hX, hb1, q4', ei, hr, dPair, q5, i64_in]
                refine ⟨by omega, fun nx4 lv4 _ _ => ⟨by kernel_rfl, i + 1, ?_, by simp only; omega⟩⟩
                simp only [go_sem]
                exact ⟨by simp, by omega, by rw [← g2]; simp [q1, hk, q2, q3, hr, q4, q5], _, _, _, rfl, by simp [go_sem, hb1, nCells]⟩
            · have q4' : ((0 : Int) < (i : Int)) = False := by simp; omega
              simp (disch := omega) only [go_sem, hN, hR, hX, hb1, q4', i64_in]
              refine fun nx4 lv4 _ _ => ⟨by kernel_rfl, i + 1, ?_, by simp only; omega⟩
              simp only [go_sem]
              exact ⟨by simp, by omega, by rw [← g2]; simp [q1, hk, q2, q3, q4], _, _, _, rfl, by simp [go_sem, hb1, nCells]⟩
          · simp (disch := omega) only [go_sem, e1, hN, hR, hX, hlt', hp, dPair, i64_in, hb1, a1, a2, hc, dSect, q2]
            refine ⟨by omega, by omega, ?_⟩
            rw [← g2]; simp [q1, hk, q2]
        · have hlt' : ((i : Int) < (n.gates.length : Int)) = False := by simp; omega
          have : n.gates.length - i = 0 := by omega
          rw [this] at g2
          simp (disch := omega) only [go_sem, e1, hN, hR, hX, hlt']
          rw [← g2]; rfl
end Go.Proofs.Yteadhjclchjfjaa

/- Nets: the reference's check of a link. -/
/- Nets: the reference's check of a link. -/
namespace Go.Proofs.Yteadhjclchjfjaa
set_option linter.unusedSimpArgs false
set_option linter.unusedVariables false
open Go.AB

def endEq (k l : Lnk) : Bool := (decide (k.a = l.a) && decide (k.ea = l.ea)) || (decide (k.a = l.b) && decide (k.ea = l.eb)) || (decide (k.b = l.a) && decide (k.eb = l.ea)) || (decide (k.b = l.b) && decide (k.eb = l.eb))
def linkE (n : Net) (i : Nat) : Int := match n.links[i]? with
  | none => 0
  | some l => if hasF n l.a l.ea = false ∨ hasF n l.b l.eb = false then 3 else if l.a = l.b then 1
    else if l.b < l.a ∨ (0 < i ∧ lessF (((n.links[i - 1]?).map Lnk.a).getD 0) (((n.links[i - 1]?).map Lnk.ea).getD 0) l.a l.ea = false) then 5
    else if ((n.links.take i).any fun k => endEq k l) = true then 6 else 0

set_option maxHeartbeats 4000000 in
set_option maxRecDepth 20000 in
theorem f65 (n : Net) (i : Nat) (l : Lnk) (hl : n.links[i]? = some l) (hb : NetB n) (hks : KindsOk n) : PCall Try.prog 65 [eNet n, .int .i64 (i : Int)] (RV (.int .i64 (linkE n i))) := by
  refine PCall.of_body Try.func65 rfl Try.ntmps65 (congrArg Array.toList Try.results65) ?_
  intro E
  have hlk := hb.lk
  have hi : i < n.links.length := (List.getElem?_eq_some_iff.1 hl).1
  have hge : linkE n i = if hasF n l.a l.ea = false ∨ hasF n l.b l.eb = false then 3 else if l.a = l.b then 1
    else if l.b < l.a ∨ (0 < i ∧ lessF (((n.links[i - 1]?).map Lnk.a).getD 0) (((n.links[i - 1]?).map Lnk.ea).getD 0) l.a l.ea = false) then 5
    else if ((n.links.take i).any fun k => endEq k l) = true then 6 else 0 := by simp [linkE, hl]
  have h0i : ((0 : Int) ≤ (i : Int)) = True := by simp
  simp (disch := omega) only [go_sem, eNet, nCells, hl, dLnk]
  refine ⟨by omega, ?_⟩
  refine callV (f74 n l.a l.ea hb hks) ?_
  intro nx lv
  by_cases q1 : hasF n l.a l.ea = true
  · simp only [go_sem, q1]
    refine callV (f74 n l.b l.eb hb hks) ?_
    intro nx2 lv2
    by_cases q2 : hasF n l.b l.eb = true
    · by_cases q3 : l.a = l.b
      · simp only [go_sem, q1, q2, q3]
        rw [hge, if_neg (by rw [q1, q2]; simp), if_pos q3]
      · by_cases q4 : l.b < l.a
        · simp only [go_sem, q1, q2, q3]
          refine drawn (by kernel_rfl) (by kernel_rfl) ?_
          simp only [go_sem, q4]
          intro _ _ _ _
          rw [hge]; simp [q1, q2, q3, q4]
        · by_cases q5 : 0 < i
          · have q5' : ((0 : Int) < (i : Int)) = True := by simp; omega
            obtain ⟨r, hr⟩ : ∃ r, n.links[i - 1]? = some r := ⟨_, List.getElem?_eq_getElem (by omega)⟩
            have ei : ((i : Int) - 1).toNat = i - 1 := by omega
            have ew : IntKind.i64.wrap ((i : Int) - 1) = (i : Int) - 1 := i64_in (by omega) (by omega)
            simp only [go_sem, q1, q2, q3]
            refine drawn (by kernel_rfl) (by kernel_rfl) ?_
            simp only [go_sem, q4, q5', ew, ei, hr, dLnk]
            refine ⟨by omega, by omega, ?_⟩
            refine quietD (f106 _ _ _ _) (fun _ => rfl) ?_
            by_cases q6 : lessF r.a r.ea l.a l.ea = true
            · simp only [go_sem, q6]
              intro nx4 lv4 _ _
              simp only [h0i, if_true]
              refine ⟨by omega, by omega, ?_⟩
              have hge : linkE n i = if ((n.links.take i).any fun k => endEq k l) = true then 6 else 0 := by rw [hge]; simp [q1, q2, q3, q4, hr, q6]
              refine AW_loopH [4, 7, 9, 72, 73, 74, 75, 76, 77, 78, 79, 80, 81, 82, 83, 84, 85, 86, 87, 88, 89, 90, 91, 92, 93, 94, 95, 96, 97, 98, 99, 100, 101, 102, 103, 104, 105, 106, 107, 108, 109]
                (fun (x : Nat) ρ m => ρ 72 = .int .i64 (x : Int) ∧ x ≤ i ∧ (∀ k ∈ n.links.take x, endEq k l = false) ∧
                  ∃ h nx lv, m = ⟨h, [], nx, lv⟩ ∧ AB.hget h 5 = some (0, [.int .i64 l.a, .int .i64 l.ea, .int .i64 l.b, .int .i64 l.eb])) (fun x => i - x) 0 ?_ ?_
              · simp only [go_sem]
                exact ⟨Nat.zero_le _, by simp, _, _, _, rfl, by simp [go_sem]⟩
              · rintro x ρ m ⟨e1, g1, g2, h, nx, lv, rfl, hb5⟩ Q hN hR hX
                have hmin : min i n.links.length = i := by omega
                by_cases hlt : x < i
                · obtain ⟨k, hk⟩ : ∃ k, n.links[x]? = some k := ⟨_, List.getElem?_eq_getElem (by omega)⟩
                  have hlt' : ((x : Int) < (i : Int)) = True := by simp; omega
                  have hlen : (List.take (i - 0) (List.map dLnk n.links)).length = i := by simp; omega
                  have hk' : (List.take (i - 0) (List.map dLnk n.links))[x]? = some (dLnk k) := by
                    rw [List.getElem?_take, if_pos (by omega), List.getElem?_map, hk]; rfl
                  have hltL : ((x : Int) < ((List.take (i - 0) (List.map dLnk n.links)).length : Int)) = True := by rw [hlen]; exact hlt'
                  simp only [go_sem, e1, hltL, hb5, hk', dLnk]
                  generalize genO (AB.hget h 7) = G7
                  refine ⟨by omega, ?_⟩
                  refine AW_loopH [4, 9, 88, 89, 90, 91, 92, 93, 94, 95, 96, 97, 98, 99, 100, 101, 102, 103, 104, 105, 106, 107, 108]
                    (fun (y : Nat) ρ m => ρ 88 = .int .i64 (y : Int) ∧ y ≤ 2 ∧ (1 ≤ y → ¬ ((k.a = l.a ∧ k.ea = l.ea) ∨ (k.a = l.b ∧ k.ea = l.eb))) ∧ (2 ≤ y → ¬ ((k.b = l.a ∧ k.eb = l.ea) ∨ (k.b = l.b ∧ k.eb = l.eb))) ∧
                      ∃ h nx lv, m = ⟨h, [], nx, lv⟩ ∧ AB.hget h 5 = some (0, [.int .i64 l.a, .int .i64 l.ea, .int .i64 l.b, .int .i64 l.eb])) (fun y => 2 - y) 0 ?_ ?_
                  · simp only [go_sem]
                    exact ⟨_, _, _, rfl, by simp [go_sem, hb5]⟩
                  · rintro y ρ m ⟨f1, r1, r2, r3, h, nx, lv, rfl, hb5⟩ Q2 hN2 hR2 hX2
                    by_cases hy : y < 2
                    · obtain ⟨u, v, hv, hv0, hv1⟩ : ∃ u v, ([DV.agg [.int .i64 k.a, .int .i64 k.ea], .agg [.int .i64 k.b, .int .i64 k.eb]] : List DV)[y]? = some (.agg [.int .i64 u, .int .i64 v]) ∧ (y = 0 → u = k.a ∧ v = k.ea) ∧ (y = 1 → u = k.b ∧ v = k.eb) := by
                        have h3 : y = 0 ∨ y = 1 := by omega
                        rcases h3 with rfl | rfl
                        · exact ⟨k.a, k.ea, rfl, fun _ => ⟨rfl, rfl⟩, fun h => by omega⟩
                        · exact ⟨k.b, k.eb, rfl, fun h => by omega, fun _ => ⟨rfl, rfl⟩⟩
                      have hy' : ((y : Int) < 2) = True := by simp; omega
                      have wy : IntKind.i64.wrap ((y : Int) + 1) = (y : Int) + 1 := i64_in (by omega) (by omega)
                      have six : ((u = l.a ∧ v = l.ea) ∨ (u = l.b ∧ v = l.eb)) → linkE n i = 6 := fun t => by
                        have hm : k ∈ n.links.take i := by
                          refine List.mem_of_getElem? (i := x) ?_
                          rw [List.getElem?_take, if_pos hlt]; exact hk
                        have he : endEq k l = true := by
                          have h3 : y = 0 ∨ y = 1 := by omega
                          unfold endEq
                          rcases h3 with rfl | rfl
                          · obtain ⟨rfl, rfl⟩ := hv0 rfl
                            rcases t with t | t <;> simp [t.1, t.2]
                          · obtain ⟨rfl, rfl⟩ := hv1 rfl
                            rcases t with t | t <;> simp [t.1, t.2]
                        rw [hge, if_pos (List.any_eq_true.2 ⟨k, hm, he⟩)]
                      simp only [go_sem, f1, hy', hv, hb5, hN2, hR2, hX2, hR, wy]
                      refine ⟨by omega, fun t1 => (six (.inl t1)).symm, fun t1 => ⟨fun t2 => (six (.inr t2)).symm, fun t2 => ⟨by kernel_rfl, y + 1, ?_, by simp only; omega⟩⟩⟩
                      simp only [go_sem]
                      exact ⟨by simp, by omega, by grind, by grind, _, _, _, rfl, by simp [go_sem, hb5]⟩
                    · have hy' : ((y : Int) < 2) = False := by simp; omega
                      have wx : IntKind.i64.wrap ((x : Int) + 1) = (x : Int) + 1 := i64_in (by omega) (by omega)
                      simp only [go_sem, f1, hy', hX2, hN, e1, wx]
                      refine ⟨by kernel_rfl, x + 1, ?_, by simp only; omega⟩
                      simp only [go_sem]
                      refine ⟨by simp, by omega, ?_, _, _, _, rfl, by simp [go_sem, hb5]⟩
                      intro k' hk'
                      rw [List.take_add_one, hk] at hk'
                      simp only [List.mem_append, Option.toList_some, List.mem_singleton] at hk'
                      rcases hk' with hk' | rfl
                      · exact g2 k' hk'
                      · have r2 := r2 (by omega)
                        have r3 := r3 (by omega)
                        unfold endEq
                        simp
                        grind
                · have hlen : (List.take (i - 0) (List.map dLnk n.links)).length = i := by simp; omega
                  have hlt' : ((x : Int) < (i : Int)) = False := by simp; omega
                  have hx : x = i := by omega
                  simp only [go_sem, e1, hlen, hlt', hX]
                  rw [hge, if_neg]
                  rw [hx] at g2
                  simpa using g2
            · have q6 : lessF r.a r.ea l.a l.ea = false := by simpa using q6
              simp only [go_sem, q6]
              intro _ _ _ _
              rw [hge]; simp [q1, q2, q3, q5, hr, q6]
          · have q5' : ((0 : Int) < (i : Int)) = False := by simp; omega
            have hi0 : i = 0 := by omega
            simp only [go_sem, q1, q2, q3]
            refine drawn (by kernel_rfl) (by kernel_rfl) ?_
            simp only [go_sem, q4, q5']
            intro nx4 lv4 _ _
            simp only [h0i, if_true]
            refine ⟨by omega, by omega, ?_⟩
            have hge : linkE n i = 0 := by rw [hge]; simp [q1, q2, q3, q4, hi0]
            refine AW_loopH [72]
              (fun (_ : Nat) ρ _ => ρ 72 = .int .i64 0) (fun x => x) 0 ?_ ?_
            · simp only [go_sem]
            · rintro x ρ m e1 Q hN hR hX
              have hlen : (List.take (i - 0) (List.map dLnk n.links)).length = 0 := by simp; omega
              have hlt' : ((0 : Int) < 0) = False := by simp
              simp only [go_sem, e1, hlen, hX]
              rw [hge]
    · have q2 : hasF n l.b l.eb = false := by simpa using q2
      simp only [go_sem, q2]
      rw [hge]; simp [q1, q2]
  · have q1 : hasF n l.a l.ea = false := by simpa using q1
    simp only [go_sem, q1]
    rw [hge]; simp [q1]
end Go.Proofs.Yteadhjclchjfjaa

/- Nets: the check of links. -/
namespace Go.Proofs.Yteadhjclchjfjaa
set_option linter.unusedSimpArgs false
set_option linter.unusedVariables false
open Go.AB

/-- Whether an end is one of those that the links join. -/
def endsAt (L : List Lnk) (s e : Int) : Bool := L.any fun k => (decide (k.a = s) && decide (k.ea = e)) || (decide (k.b = s) && decide (k.eb = e))
theorem twice_eq (l : Lnk) : ∀ L : List Lnk, (L.any fun k => endEq k l) = (endsAt L l.a l.ea || endsAt L l.b l.eb)
  | [] => rfl
  | k :: L => by
    have ih := twice_eq l L
    simp only [endsAt, List.any_cons] at ih ⊢
    rw [ih]
    unfold endEq
    generalize (L.any fun k => (decide (k.a = l.a) && decide (k.ea = l.ea)) || (decide (k.b = l.a) && decide (k.eb = l.ea))) = x
    generalize (L.any fun k => (decide (k.a = l.b) && decide (k.ea = l.eb)) || (decide (k.b = l.b) && decide (k.eb = l.eb))) = y
    generalize (decide (k.a = l.a) && decide (k.ea = l.ea)) = a
    generalize (decide (k.b = l.a) && decide (k.eb = l.ea)) = b
    generalize (decide (k.a = l.b) && decide (k.ea = l.eb)) = c
    generalize (decide (k.b = l.b) && decide (k.eb = l.eb)) = d
    cases a <;> cases b <;> cases c <;> cases d <;> cases x <;> cases y <;> rfl
open Classical in
theorem mget_mset : ∀ (ks vs : List AV) (k v k' : AV), mget (mset ks vs k v).1 (mset ks vs k v).2 k' = if k = k' then some v else mget ks vs k'
  | [], vs, k, v, k' => by simp [mset, mget]
  | q :: ks, [], k, v, k' => by simp [mset, mget]
  | q :: ks, u :: vs, k, v, k' => by
    have ih := mget_mset ks vs k v k'
    by_cases h : q = k
    · subst h
      simp only [mset, if_true, mget]
      split <;> rfl
    · simp only [mset, h, if_false, mget, ih]
      by_cases h2 : q = k'
      · subst h2
        simp [Ne.symm h]
      · simp [h2]
theorem mset_keys {P : AV → Bool} : ∀ {ks vs : List AV} {k v : AV}, ks.all P = true → P k = true → (mset ks vs k v).1.all P = true
  | [], vs, k, v, _, h => by simp [mset, h]
  | q :: ks, [], k, v, _, h => by simp [mset, h]
  | q :: ks, u :: vs, k, v, h1, h2 => by
    simp only [List.all_cons, Bool.and_eq_true] at h1
    by_cases hq : q = k
    · simp only [mset, hq, if_true, List.all_cons, h2, h1.2, Bool.and_self]
    · simp only [mset, hq, if_false, List.all_cons, h1.1, Bool.true_and]
      exact mset_keys h1.2 h2
def linksE (n : Net) : Int := firstE (linkE n) n.links.length 0
def eEnd (s e : Int) : AV := .agg [.int .i64 s, .int .i64 e]
/-- What lies in the map of ends. -/
def seenOk (L : List Lnk) (ks vs : List AV) : Prop := ks.all (keyA Try.prog 108) = true ∧ ∀ s e, mget ks vs (.agg [.int .i64 s, .int .i64 e]) = if endsAt L s e = true then some (.bool true) else none
theorem key_end (s e : Int) : keyA Try.prog 108 (.agg [.int .i64 s, .int .i64 e]) = true := by simp only [go_sem]
theorem seen_step {L : List Lnk} {l : Lnk} {ks vs : List AV} (h : seenOk L ks vs) :
    seenOk (L ++ [l]) (mset (mset ks vs (.agg [.int .i64 l.a, .int .i64 l.ea]) (.bool true)).1 (mset ks vs (.agg [.int .i64 l.a, .int .i64 l.ea]) (.bool true)).2 (.agg [.int .i64 l.b, .int .i64 l.eb]) (.bool true)).1
      (mset (mset ks vs (.agg [.int .i64 l.a, .int .i64 l.ea]) (.bool true)).1 (mset ks vs (.agg [.int .i64 l.a, .int .i64 l.ea]) (.bool true)).2 (.agg [.int .i64 l.b, .int .i64 l.eb]) (.bool true)).2 := by
  refine ⟨mset_keys (mset_keys h.1 (key_end _ _)) (key_end _ _), fun s e => ?_⟩
  rw [mget_mset, mget_mset, h.2]
  simp only [AV.agg.injEq, List.cons.injEq, AV.int.injEq, true_and, and_true]
  unfold endsAt
  simp only [List.any_append, List.any_cons, List.any_nil, Bool.or_false, Bool.or_eq_true, Bool.and_eq_true, decide_eq_true_eq]
  by_cases h1 : l.a = s ∧ l.ea = e <;> by_cases h2 : l.b = s ∧ l.eb = e <;> simp [h1, h2]
theorem gate_seen {L : List Lnk} {ks vs : List AV} (h : seenOk L ks vs) (s e : Int) : (endsAt L s e = true ∧ mget ks vs (.agg [.int .i64 s, .int .i64 e]) = some (.bool true)) ∨ (endsAt L s e = false ∧ mget ks vs (.agg [.int .i64 s, .int .i64 e]) = none) := by
  have := h.2 s e
  cases hh : endsAt L s e with
  | true => rw [hh] at this; exact .inl ⟨rfl, by simpa using this⟩
  | false => rw [hh] at this; exact .inr ⟨rfl, by simpa using this⟩

set_option maxHeartbeats 4000000 in
set_option maxRecDepth 20000 in
theorem f103 (n : Net) (hb : NetB n) : PCall Try.prog 103 [eNet n] (RV (.int .i64 (linksE n))) := by
  refine PCall.of_body Try.func103 rfl Try.ntmps103 (congrArg Array.toList Try.results103) ?_
  intro E
  have hlk := hb.lk
  have hsc := hb.sc
  simp only [go_sem, eNet, nCells]
  refine AW_loopH [2, 4, 5, 6, 7, 8, 13, 14, 15, 16, 17, 18, 19, 20, 21, 22, 23, 24, 25, 26, 27, 28, 29, 30, 31, 32, 33, 34, 35, 36, 37, 38, 39, 40, 41, 42, 43, 44, 45, 46, 47, 48, 49, 50, 51, 52, 53, 54, 55, 56, 57, 58, 59, 60, 61, 62, 63, 64, 65, 66, 67, 68, 69, 70, 71, 72, 73, 74, 75, 76, 77, 78, 79, 80, 81, 82, 83, 84]
    (fun (i : Nat) ρ m => ρ 13 = .int .i64 (i : Int) ∧ i ≤ n.links.length ∧ firstE (linkE n) (n.links.length - i) i = linksE n ∧
      ∃ h nx lv ks vs, m = ⟨h, [], nx, lv⟩ ∧ AB.hget h 1 = some (0, nCells n) ∧ AB.hget h 9 = some (0, [.mapc ks vs]) ∧ seenOk (n.links.take i) ks vs) (fun i => n.links.length - i) 0 ?_ ?_
  · simp only [go_sem]
    refine ⟨Nat.zero_le _, rfl, _, _, _, [], [], rfl, by simp [go_sem, nCells], by simp [go_sem], rfl, fun s e => ?_⟩
    simp [mget, endsAt]
  · rintro i ρ m ⟨e1, g1, g2, h, nx, lv, ks, vs, rfl, hb1, hb9, hs⟩ Q hN hR hX
    simp only [nCells] at hb1
    by_cases hlt : i < n.links.length
    · obtain ⟨l, hl⟩ : ∃ l, n.links[i]? = some l := ⟨_, List.getElem?_eq_getElem hlt⟩
      have hlt' : ((i : Int) < (n.links.length : Int)) = True := by simp; omega
      have hf : firstE (linkE n) (n.links.length - i) i = if linkE n i ≠ 0 then linkE n i else firstE (linkE n) (n.links.length - (i + 1)) (i + 1) := by
        have : n.links.length - i = (n.links.length - (i + 1)) + 1 := by omega
        rw [this]; rfl
      rw [hf] at g2
      have hge : linkE n i = if hasF n l.a l.ea = false ∨ hasF n l.b l.eb = false then 3 else if l.a = l.b then 1
          else if l.b < l.a ∨ (0 < i ∧ lessF (((n.links[i - 1]?).map Lnk.a).getD 0) (((n.links[i - 1]?).map Lnk.ea).getD 0) l.a l.ea = false) then 5
          else if (endsAt (n.links.take i) l.a l.ea || endsAt (n.links.take i) l.b l.eb) = true then 6 else 0 := by simp [linkE, hl, twice_eq]
      have htk : n.links.take (i + 1) = n.links.take i ++ [l] := by rw [List.take_add_one, hl]; rfl
      have ew : IntKind.i64.wrap ((i : Int) + 1) = (i : Int) + 1 := i64_in (by omega) (by omega)
      have hst := seen_step (l := l) hs
      rw [← htk] at hst
      simp only [go_sem, e1, hlt', hl, dLnk, hb1]
      generalize genO (AB.hget h 5) = G5
      refine ⟨by omega, ?_⟩
      refine drawnT [2, 2, 2, 2, 2, 2, 2, 2, 2, 2, 3, 4, 1, 1] (.alt 10 [2, 2, 2, 2, 2, 2, 2, 2, 2, 2, 0, 3, 1, 1] (.alt 11 [2, 2, 2, 2, 2, 2, 2, 2, 2, 2, 0, 0, 3, 1] (.alt 12 [0, 0, 0, 0, 0, 2, 2, 2, 2, 2, 0, 0, 0, 3] (.alt 13 [0, 0, 0, 0, 0, 0, 0, 0, 0, 0, 0, 0, 0, 0] .fin .nil) .nil) .nil) (.alt 11 [2, 2, 2, 2, 2, 2, 2, 2, 2, 2, 3, 0, 1, 1] (.alt 10 [2, 2, 2, 2, 2, 2, 2, 2, 2, 2, 0, 0, 3, 1] (.alt 12 [0, 0, 0, 0, 0, 2, 2, 2, 2, 2, 0, 0, 0, 3] (.alt 13 [0, 0, 0, 0, 0, 0, 0, 0, 0, 0, 0, 0, 0, 0] .fin .nil) .nil) .nil) .nil)) 85 (by kernel_rfl) (by kernel_rfl) (by kernel_rfl) (by kernel_rfl) rfl ?_
      simp only [go_sem]
      generalize genO (AB.hget h 6) = G6
      generalize genO (AB.hget h 7) = G7
      refine And.intro ?_ ?_
      all_goals
        intro _ _ _ _ _ _ _ _ _ _ _ _ _ _ _ _ nx1 lv1 _ _
        simp only [go_sem, hb1]
        generalize hh : AB.hset _ 7 G7 [AV.int .i64 l.b, AV.int .i64 l.eb] = h2
        have b1 : AB.hget h2 1 = some (0, nCells n) := by rw [← hh]; simp [go_sem, hb1, nCells]
        have b9 : AB.hget h2 9 = some (0, [.mapc ks vs]) := by rw [← hh]; simp [go_sem, hb9]
        have b5 : AB.hget h2 5 = some (G5, [AV.int .i64 l.a, AV.int .i64 l.ea, AV.int .i64 l.b, AV.int .i64 l.eb]) := by rw [← hh]; simp [go_sem]
        have b6 : AB.hget h2 6 = some (G6, [AV.int .i64 l.a, AV.int .i64 l.ea]) := by rw [← hh]; simp [go_sem]
        have b7 : AB.hget h2 7 = some (G7, [AV.int .i64 l.b, AV.int .i64 l.eb]) := by rw [← hh]; simp [go_sem]
        clear hh hb1 hb9
        simp only [nCells] at b1
        refine callV (f72 n l.a l.ea hb) ?_
        intro nx2 lv2
        by_cases q1 : hasF n l.a l.ea = true
        · simp only [go_sem, b1, b5, b6, b7, q1]
          refine callV (f72 n l.b l.eb hb) ?_
          intro nx2 lv2
          by_cases q2 : hasF n l.b l.eb = true
          · by_cases q3 : l.a = l.b
            · simp only [go_sem, b1, b5, b6, b7, q2, q3, hR]
              rw [← g2, show linkE n i = 1 by rw [hge, if_neg (by rw [q1, q2]; simp), if_pos q3]]; rfl
            · by_cases q4 : l.b < l.a
              · simp only [go_sem, b1, b5, b6, b7, q2, q3, q4, hR]
                rw [← g2, show linkE n i = 5 by rw [hge]; simp [q1, q2, q3, q4]]; rfl
              · by_cases q5 : 0 < i
                · have q5' : ((0 : Int) < (i : Int)) = True := by simp; omega
                  obtain ⟨r, hr⟩ : ∃ r, n.links[i - 1]? = some r := ⟨_, List.getElem?_eq_getElem (by omega)⟩
                  have ei : ((i : Int) - 1).toNat = i - 1 := by omega
                  have ew2 : IntKind.i64.wrap ((i : Int) - 1) = (i : Int) - 1 := i64_in (by omega) (by omega)
                  simp only [go_sem, b1, b5, b6, b7, q2, q3, q4, q5', ew2, ei, hr, dLnk]
                  generalize genO (AB.hget h2 8) = G8
                  refine ⟨by omega, ?_⟩
                  refine drawn (by kernel_rfl) (by kernel_rfl) ?_
                  simp only [go_sem, b1, b5, b6, b7]
                  refine quietD (f128 _ _) (fun _ => rfl) ?_
                  simp only [go_sem, b1, b5, b6, b7]
                  refine quietD (f128 _ _) (fun _ => rfl) ?_
                  simp only [go_sem, b1, b5, b6, b7]
                  refine quietD (f127 _ _) (fun _ => rfl) ?_
                  by_cases q6 : lessF r.a r.ea l.a l.ea = false
                  · have q7 := (order_F _ _ _ _).2 q6
                    simp only [go_sem, q7, hR]
                    intro _ _ _ _
                    rw [← g2, show linkE n i = 5 by rw [hge]; simp [q1, q2, q3, q4, q5, hr, q6]]; rfl
                  · have q7 : ¬ _ := fun x => q6 ((order_F _ _ _ _).1 x)
                    have q6 : lessF r.a r.ea l.a l.ea = true := by simpa using q6
                    simp only [go_sem, b1, b5, b6, b7, q7]
                    intro nx3 lv3 _ _
                    rcases gate_seen hs l.a l.ea with ⟨s1, t1⟩ | ⟨s1, t1⟩
                    · simp only [go_sem, b1, b5, b6, b7, b9, t1, hs.1, hR]
                      rw [← g2, show linkE n i = 6 by rw [hge]; simp [q1, q2, q3, q4, hr, q6, s1]]; rfl
                    · rcases gate_seen hs l.b l.eb with ⟨s2, t2⟩ | ⟨s2, t2⟩
                      · simp only [go_sem, b1, b5, b6, b7, b9, t1, t2, hs.1, hR]
                        rw [← g2, show linkE n i = 6 by rw [hge]; simp [q1, q2, q3, q4, hr, q6, s1, s2]]; rfl
                      · simp only [go_sem, b1, b5, b6, b7, b9, t1, t2, hs.1]
                        refine drawnT [2, 2, 2, 2, 3, 1] (.alt 4 [0, 0, 2, 2, 0, 3] (.alt 5 [0, 0, 0, 0, 0, 0] .fin .nil) .nil) 85 (by kernel_rfl) (by kernel_rfl) (by kernel_rfl) (by kernel_rfl) rfl ?_
                        simp only [go_sem, b1, b5, b6, b7, b9, hs.1, hN, ew]
                        intro _ _ _ _ nx5 lv5 _ _
                        refine ⟨mset_keys hs.1 (key_end _ _), fun nx6 lv6 _ _ => ⟨by kernel_rfl, i + 1, ?_, by simp only; omega⟩⟩
                        simp only [go_sem]
                        exact ⟨by simp, by omega, by rw [← g2, show linkE n i = 0 by rw [hge]; simp [q1, q2, q3, q4, hr, q6, s1, s2]]; rfl, _, _, _, _, _, rfl, by simp [go_sem, b1, nCells], by simp [go_sem], hst⟩
                · have q5' : ((0 : Int) < (i : Int)) = False := by simp; omega
                  rcases gate_seen hs l.a l.ea with ⟨s1, t1⟩ | ⟨s1, t1⟩
                  · simp only [go_sem, b1, b5, b6, b7, b9, q2, q3, q4, q5', t1, hs.1, hR]
                    rw [← g2, show linkE n i = 6 by rw [hge]; simp [q1, q2, q3, q4, q5, s1]]; rfl
                  · rcases gate_seen hs l.b l.eb with ⟨s2, t2⟩ | ⟨s2, t2⟩
                    · simp only [go_sem, b1, b5, b6, b7, b9, q2, q3, q4, q5', t1, t2, hs.1, hR]
                      rw [← g2, show linkE n i = 6 by rw [hge]; simp [q1, q2, q3, q4, q5, s1, s2]]; rfl
                    · simp only [go_sem, b1, b5, b6, b7, b9, q2, q3, q4, q5', t1, t2, hs.1]
                      refine drawnT [2, 2, 2, 2, 3, 1] (.alt 4 [0, 0, 2, 2, 0, 3] (.alt 5 [0, 0, 0, 0, 0, 0] .fin .nil) .nil) 85 (by kernel_rfl) (by kernel_rfl) (by kernel_rfl) (by kernel_rfl) rfl ?_
                      simp only [go_sem, b1, b5, b6, b7, b9, hs.1, hN, ew]
                      intro _ _ _ _ nx5 lv5 _ _
                      refine ⟨mset_keys hs.1 (key_end _ _), fun nx6 lv6 _ _ => ⟨by kernel_rfl, i + 1, ?_, by simp only; omega⟩⟩
                      simp only [go_sem]
                      exact ⟨by simp, by omega, by rw [← g2, show linkE n i = 0 by rw [hge]; simp [q1, q2, q3, q4, q5, s1, s2]]; rfl, _, _, _, _, _, rfl, by simp [go_sem, b1, nCells], by simp [go_sem], hst⟩
          · have q2 : hasF n l.b l.eb = false := by simpa using q2
            simp only [go_sem, b1, b5, b6, b7, q2, hR]
            rw [← g2, show linkE n i = 3 by rw [hge]; simp [q1, q2]]; rfl
        · have q1 : hasF n l.a l.ea = false := by simpa using q1
          simp only [go_sem, b1, b5, b6, b7, q1, hR]
          rw [← g2, show linkE n i = 3 by rw [hge]; simp [q1]]; rfl
    · have hlt' : ((i : Int) < (n.links.length : Int)) = False := by simp; omega
      have : n.links.length - i = 0 := by omega
      rw [this] at g2
      simp only [go_sem, e1, hX, hlt']
      rw [← g2]; rfl
end Go.Proofs.Yteadhjclchjfjaa

/- Nets: their check, the program's and the reference's. -/
namespace Go.Proofs.Yteadhjclchjfjaa
set_option linter.unusedSimpArgs false
set_option linter.unusedVariables false
open Go.AB

def nameE (l : List (List UInt8)) (i : Nat) : Int := match l[i]? with
  | none => 0
  | some s => if nameOk s = false then 1 else if s ∈ l.take i then 6 else 0
def namesE (n : Net) : Int := firstE (nameE n.names) n.names.length 0
def secAt (n : Net) (i : Nat) : Int := match n.sects[i]? with
  | none => 0
  | some s => secE s n.names.length
def secsE (n : Net) : Int := firstE (secAt n) n.sects.length 0
def bigN (n : Net) : Prop := 12 < n.names.length ∨ 60 < n.sects.length ∨ 90 < n.links.length ∨ 40 < n.sigs.length ∨ 8 < n.gates.length
instance (n : Net) : Decidable (bigN n) := by unfold bigN; infer_instance
/-- The error of a net. -/
def netE (n : Net) : Int :=
  if n.sects.length = 0 then 1 else if bigN n then 4 else if namesE n ≠ 0 then namesE n else if secsE n ≠ 0 then secsE n else if linksE n ≠ 0 then linksE n else restE n

theorem firstE_zero {f : Nat → Int} : ∀ {k i j : Nat}, firstE f k i = 0 → i ≤ j → j < i + k → f j = 0
  | 0, i, j, _, h1, h2 => by omega
  | k + 1, i, j, h, h1, h2 => by
    unfold firstE at h
    split at h
    · rename_i h0; exact absurd h h0
    · rename_i h0
      by_cases e : j = i
      · subst e; simpa using h0
      · exact firstE_zero h (by omega) (by omega)
theorem secs_kinds {n : Net} (h : secsE n = 0) : KindsOk n := by
  intro s hs
  obtain ⟨i, hi, rfl⟩ := List.getElem_of_mem hs
  have := firstE_zero (j := i) h (Nat.zero_le _) (by omega)
  simp only [secAt, List.getElem?_eq_getElem hi] at this
  exact secE_kind this
theorem firstE_step {f : Nat → Int} {len i : Nat} (h : i < len) : firstE f (len - i) i = if f i ≠ 0 then f i else firstE f (len - (i + 1)) (i + 1) := by
  have : len - i = (len - (i + 1)) + 1 := by omega
  rw [this]; rfl
theorem firstE_end {f : Nat → Int} {len i : Nat} (h : ¬ i < len) : firstE f (len - i) i = 0 := by
  have : len - i = 0 := by omega
  rw [this]; rfl
theorem firstE_hit {f : Nat → Int} {len i : Nat} {v r : Int} (h : i < len) (hf : f i = v) (hv : v ≠ 0) (g : firstE f (len - i) i = r) : r = v := by
  rw [firstE_step h, hf, if_pos hv] at g; exact g.symm
theorem firstE_go {f : Nat → Int} {len i : Nat} {r : Int} (h : i < len) (hf : f i = 0) (g : firstE f (len - i) i = r) : firstE f (len - (i + 1)) (i + 1) = r := by
  rw [firstE_step h, hf] at g; simpa using g

set_option maxHeartbeats 4000000 in
set_option maxRecDepth 20000 in
theorem f55 (n : Net) (hb : NetB n) : PCall Try.prog 55 [eNet n] (RV (.int .i64 (netE n))) := by
  refine PCall.of_body Try.func55 rfl Try.ntmps55 (congrArg Array.toList Try.results55) ?_
  intro E
  obtain ⟨hnm, hsc, hlk, hsg, hgt, hst⟩ := hb
  have hb : NetB n := ⟨hnm, hsc, hlk, hsg, hgt, hst⟩
  by_cases c0 : n.sects.length = 0
  · have c0' : ((n.sects.length : Int) = 0) = True := by simp [c0]
    simp only [go_sem, eNet, nCells, c0']
    simp [netE, c0]
  have c0' : ((n.sects.length : Int) = 0) = False := by simp only [eq_iff_iff, iff_false]; omega
  have big : bigN n → netE n = 4 := fun h => by simp [netE, c0, h]
  by_cases c1 : 12 < n.names.length
  · have c1' : ((12 : Int) < (n.names.length : Int)) = True := by simp; omega
    simp only [go_sem, eNet, nCells, c0', c1']
    rw [big (by unfold bigN; omega)]
  have c1' : ((12 : Int) < (n.names.length : Int)) = False := by simp; omega
  by_cases c2 : 60 < n.sects.length
  · have c2' : ((60 : Int) < (n.sects.length : Int)) = True := by simp; omega
    simp only [go_sem, eNet, nCells, c0', c1', c2']
    rw [big (by unfold bigN; omega)]
  have c2' : ((60 : Int) < (n.sects.length : Int)) = False := by simp; omega
  by_cases c3 : 90 < n.links.length
  · have c3' : ((90 : Int) < (n.links.length : Int)) = True := by simp; omega
    simp only [go_sem, eNet, nCells, c0', c1', c2', c3']
    rw [big (by unfold bigN; omega)]
  have c3' : ((90 : Int) < (n.links.length : Int)) = False := by simp; omega
  by_cases c4 : 40 < n.sigs.length
  · have c4' : ((40 : Int) < (n.sigs.length : Int)) = True := by simp; omega
    simp only [go_sem, eNet, nCells, c0', c1', c2', c3', c4']
    rw [big (by unfold bigN; omega)]
  have c4' : ((40 : Int) < (n.sigs.length : Int)) = False := by simp; omega
  by_cases c5 : 8 < n.gates.length
  · have c5' : ((8 : Int) < (n.gates.length : Int)) = True := by simp; omega
    simp only [go_sem, eNet, nCells, c0', c1', c2', c3', c4', c5']
    rw [big (by unfold bigN; omega)]
  have c5' : ((8 : Int) < (n.gates.length : Int)) = False := by simp; omega
  have hnb : ¬ bigN n := by unfold bigN; omega
  have hge : netE n = if namesE n ≠ 0 then namesE n else if secsE n ≠ 0 then secsE n else if linksE n ≠ 0 then linksE n else restE n := by simp [netE, c0, hnb]
  simp only [go_sem, eNet, nCells, c0', c1', c2', c3', c4', c5']
  refine AW_loopH [2, 3, 4, 48, 49, 50, 51, 52, 53, 54, 55, 56, 57, 58, 59, 60, 61, 62, 63, 64]
    (fun (i : Nat) ρ m => ρ 48 = .int .i64 (i : Int) ∧ i ≤ n.names.length ∧ firstE (nameE n.names) (n.names.length - i) i = namesE n ∧
      ∃ h nx lv, m = ⟨h, [], nx, lv⟩ ∧ AB.hget h 1 = some (0, nCells n)) (fun i => n.names.length - i) 0 ?_ ?_
  · simp only [go_sem]
    exact ⟨Nat.zero_le _, rfl, _, _, _, rfl, by simp [go_sem, nCells]⟩
  · rintro i ρ m ⟨e1, g1, g2, h, nx, lv, rfl, hb1⟩ Q hN hR hX
    simp only [nCells] at hb1
    by_cases hlt : i < n.names.length
    · obtain ⟨s, hs⟩ : ∃ s, n.names[i]? = some s := ⟨_, List.getElem?_eq_getElem hlt⟩
      have hsl : s.length ≤ 140737488351232 := hst s (List.mem_of_getElem? hs)
      have hlt' : ((i : Int) < (n.names.length : Int)) = True := by simp; omega
      have ew : IntKind.i64.wrap ((i : Int) + 1) = (i : Int) + 1 := i64_in (by omega) (by omega)
      have hne : nameE n.names i = if nameOk s = false then 1 else if s ∈ n.names.take i then 6 else 0 := by simp [nameE, hs]
      have h0i : ((0 : Int) ≤ (i : Int)) = True := by simp
      have hcut : (n.names.take i).map DV.str = List.take (i - 0) (List.map DV.str n.names) := by simp [List.map_take]
      have hf93 := f101 (n.names.take i) s (by simp; omega)
      rw [hcut] at hf93
      simp only [go_sem, e1, hlt', hs, hb1]
      refine ⟨by omega, ?_⟩
      refine callV (f100 s hsl) ?_
      intro nx2 lv2
      by_cases q1 : nameOk s = true
      · simp only [go_sem, hb1, q1, h0i, if_true]
        refine ⟨by omega, by omega, ?_⟩
        refine callV hf93 ?_
        intro nx3 lv3
        by_cases q2 : s ∈ n.names.take i
        · have hv : nameE n.names i = 6 := by rw [hne]; simp [q1, q2]
          simp only [go_sem, hb1, q2, hR]
          have := firstE_hit hlt hv (by omega) g2
          rw [hge, this]; rfl
        · have hv : nameE n.names i = 0 := by rw [hne]; simp [q1, q2]
          simp only [go_sem, hb1, q2, hN, ew]
          refine ⟨by kernel_rfl, i + 1, ?_, by simp only; omega⟩
          simp only [go_sem]
          exact ⟨by simp, by omega, firstE_go hlt hv g2, _, _, _, rfl, by simp [hb1, nCells]⟩
      · have q1 : nameOk s = false := by simpa using q1
        have hv : nameE n.names i = 1 := by rw [hne]; simp [q1]
        simp only [go_sem, q1, hR]
        have := firstE_hit hlt hv (by omega) g2
        rw [hge, this]; rfl
    · have hlt' : ((i : Int) < (n.names.length : Int)) = False := by simp; omega
      rw [firstE_end hlt] at g2
      simp only [go_sem, e1, hX, hlt', hb1]
      have hge : netE n = if secsE n ≠ 0 then secsE n else if linksE n ≠ 0 then linksE n else restE n := by rw [hge, ← g2]; rfl
      refine AW_loopH [2, 6, 7, 68, 69, 70, 71, 72, 73, 74, 75, 76, 77, 78, 79, 80]
        (fun (i : Nat) ρ m => ρ 68 = .int .i64 (i : Int) ∧ i ≤ n.sects.length ∧ firstE (secAt n) (n.sects.length - i) i = secsE n ∧
          ∃ h nx lv, m = ⟨h, [], nx, lv⟩ ∧ AB.hget h 1 = some (0, nCells n)) (fun i => n.sects.length - i) 0 ?_ ?_
      · simp only [go_sem]
        exact ⟨Nat.zero_le _, rfl, _, _, _, rfl, by simp [hb1, nCells]⟩
      · clear g1 g2 hlt hlt' hb1 e1 hN hR hX Q
        rintro i ρ m ⟨e1, g1, g2, h, nx, lv, rfl, hb1⟩ Q hN hR hX
        simp only [nCells] at hb1
        by_cases hlt : i < n.sects.length
        · obtain ⟨s, hs⟩ : ∃ s, n.sects[i]? = some s := ⟨_, List.getElem?_eq_getElem hlt⟩
          have hlt' : ((i : Int) < (n.sects.length : Int)) = True := by simp; omega
          have ew : IntKind.i64.wrap ((i : Int) + 1) = (i : Int) + 1 := i64_in (by omega) (by omega)
          have hv : secAt n i = secE s n.names.length := by simp [secAt, hs]
          simp only [go_sem, e1, hlt', hs, hb1, dSect]
          generalize genO (AB.hget h 6) = G6
          refine ⟨by omega, ?_⟩
          refine callV (f102 s n.names.length) ?_
          intro nx2 lv2
          by_cases q1 : secE s n.names.length = 0
          · simp only [go_sem, q1, hN, ew]
            refine ⟨by kernel_rfl, i + 1, ?_, by simp only; omega⟩
            simp only [go_sem]
            exact ⟨by simp, by omega, firstE_go hlt (by rw [hv, q1]) g2, _, _, _, rfl, by simp [go_sem, hb1, nCells]⟩
          · simp only [go_sem, q1, hR]
            have := firstE_hit hlt hv q1 g2
            rw [hge, this, if_pos q1]
        · have hlt' : ((i : Int) < (n.sects.length : Int)) = False := by simp; omega
          rw [firstE_end hlt] at g2
          simp only [go_sem, e1, hX, hlt', hb1]
          have hge : netE n = if linksE n ≠ 0 then linksE n else if sigsE n ≠ 0 then sigsE n else gatesE n := by rw [hge, ← g2]; rfl
          refine AW_loopH [2, 9, 10, 82, 83, 84, 85, 86, 87, 88, 89, 90, 91]
            (fun (i : Nat) ρ m => ρ 82 = .int .i64 (i : Int) ∧ i ≤ 3 ∧ (1 ≤ i → linksE n = 0) ∧ (2 ≤ i → sigsE n = 0) ∧ (3 ≤ i → gatesE n = 0) ∧
              ∃ h nx lv, m = ⟨h, [], nx, lv⟩ ∧ AB.hget h 1 = some (0, nCells n)) (fun i => 3 - i) 0 ?_ ?_
          · simp [go_sem, hb1, nCells]
          · clear g1 g2 hlt hlt' hb1 e1 hN hR hX Q
            rintro i ρ m ⟨e1, g1, r1, r2, r3, h, nx, lv, rfl, hb1⟩ Q hN hR hX
            simp only [nCells] at hb1
            have hi : i = 0 ∨ i = 1 ∨ i = 2 ∨ i = 3 := by omega
            rcases hi with rfl | rfl | rfl | rfl
            · simp only [go_sem, e1, hb1]
              refine callV (f103 n hb) ?_
              intro nx2 lv2
              by_cases q1 : linksE n = 0
              · simp only [go_sem, q1, hN]
                refine ⟨by kernel_rfl, 1, ?_, by simp only; omega⟩
                simp [go_sem, hb1, nCells, q1]
                rfl
              · simp only [go_sem, q1, hR]
                rw [hge, if_pos q1]
            · have q0 := r1 (by omega)
              simp only [go_sem, e1, hb1]
              refine callV (f104 n hb) ?_
              intro nx2 lv2
              by_cases q1 : sigsE n = 0
              · simp only [go_sem, q1, hN]
                refine ⟨by kernel_rfl, 2, ?_, by simp only; omega⟩
                simp [go_sem, hb1, nCells, q0, q1]
                rfl
              · simp only [go_sem, q1, hR]
                rw [hge, if_neg (by simp [q0]), if_pos q1]
            · have q0 := r1 (by omega)
              have q2 := r2 (by omega)
              simp only [go_sem, e1, hb1]
              refine callV (f105 n hb) ?_
              intro nx2 lv2
              by_cases q1 : gatesE n = 0
              · simp only [go_sem, q1, hN]
                refine ⟨by kernel_rfl, 3, ?_, by simp only; omega⟩
                simp [go_sem, hb1, nCells, q0, q1, q2]
                rfl
              · simp only [go_sem, q1, hR]
                rw [hge, if_neg (by simp [q0]), if_neg (by simp [q2])]
            · have q0 := r1 (by omega)
              have q1 := r2 (by omega)
              have q2 := r3 (by omega)
              simp only [go_sem, e1, hX, hge, q0, q1, q2]

set_option maxHeartbeats 4000000 in
set_option maxRecDepth 20000 in
theorem f17 (n : Net) (hb : NetB n) : PCall Try.prog 17 [eNet n] (RV (.int .i64 (netE n))) := by
  refine PCall.of_body Try.func17 rfl Try.ntmps17 (congrArg Array.toList Try.results17) ?_
  intro E
  obtain ⟨hnm, hsc, hlk, hsg, hgt, hst⟩ := hb
  have hb : NetB n := ⟨hnm, hsc, hlk, hsg, hgt, hst⟩
  by_cases c0 : n.sects.length = 0
  · have c0' : ((n.sects.length : Int) = 0) = True := by simp [c0]
    simp only [go_sem, eNet, nCells, c0']
    simp [netE, c0]
  have c0' : ((n.sects.length : Int) = 0) = False := by simp only [eq_iff_iff, iff_false]; omega
  have big : bigN n → netE n = 4 := fun h => by simp [netE, c0, h]
  by_cases c1 : 12 < n.names.length
  · have c1' : ((12 : Int) < (n.names.length : Int)) = True := by simp; omega
    simp only [go_sem, eNet, nCells, c0', c1']
    rw [big (by unfold bigN; omega)]
  have c1' : ((12 : Int) < (n.names.length : Int)) = False := by simp; omega
  by_cases c2 : 60 < n.sects.length
  · have c2' : ((60 : Int) < (n.sects.length : Int)) = True := by simp; omega
    simp only [go_sem, eNet, nCells, c0', c1', c2']
    rw [big (by unfold bigN; omega)]
  have c2' : ((60 : Int) < (n.sects.length : Int)) = False := by simp; omega
  by_cases c3 : 90 < n.links.length
  · have c3' : ((90 : Int) < (n.links.length : Int)) = True := by simp; omega
    simp only [go_sem, eNet, nCells, c0', c1', c2', c3']
    rw [big (by unfold bigN; omega)]
  have c3' : ((90 : Int) < (n.links.length : Int)) = False := by simp; omega
  by_cases c4 : 40 < n.sigs.length
  · have c4' : ((40 : Int) < (n.sigs.length : Int)) = True := by simp; omega
    simp only [go_sem, eNet, nCells, c0', c1', c2', c3', c4']
    rw [big (by unfold bigN; omega)]
  have c4' : ((40 : Int) < (n.sigs.length : Int)) = False := by simp; omega
  by_cases c5 : 8 < n.gates.length
  · have c5' : ((8 : Int) < (n.gates.length : Int)) = True := by simp; omega
    simp only [go_sem, eNet, nCells, c0', c1', c2', c3', c4', c5']
    rw [big (by unfold bigN; omega)]
  have c5' : ((8 : Int) < (n.gates.length : Int)) = False := by simp; omega
  have hnb : ¬ bigN n := by unfold bigN; omega
  have hge : netE n = if namesE n ≠ 0 then namesE n else if secsE n ≠ 0 then secsE n else if linksE n ≠ 0 then linksE n else restE n := by simp [netE, c0, hnb]
  simp only [go_sem, eNet, nCells, c0', c1', c2', c3', c4', c5']
  refine AW_loopH [2, 3, 4, 6, 47, 48, 49, 50, 51, 52, 53, 54, 55, 56, 57, 58, 59, 60, 61, 62, 63, 64, 65, 66, 67, 68]
    (fun (i : Nat) ρ m => ρ 47 = .int .i64 (i : Int) ∧ i ≤ n.names.length ∧ firstE (nameE n.names) (n.names.length - i) i = namesE n ∧
      ∃ h nx lv, m = ⟨h, [], nx, lv⟩ ∧ AB.hget h 1 = some (0, nCells n)) (fun i => n.names.length - i) 0 ?_ ?_
  · simp only [go_sem]
    exact ⟨Nat.zero_le _, rfl, _, _, _, rfl, by simp [go_sem, nCells]⟩
  · rintro i ρ m ⟨e1, g1, g2, h, nx, lv, rfl, hb1⟩ Q hN hR hX
    simp only [nCells] at hb1
    by_cases hlt : i < n.names.length
    · obtain ⟨s, hs⟩ : ∃ s, n.names[i]? = some s := ⟨_, List.getElem?_eq_getElem hlt⟩
      have hsl : s.length ≤ 140737488351232 := hst s (List.mem_of_getElem? hs)
      have hlt' : ((i : Int) < (n.names.length : Int)) = True := by simp; omega
      have ew : IntKind.i64.wrap ((i : Int) + 1) = (i : Int) + 1 := i64_in (by omega) (by omega)
      have hne : nameE n.names i = if nameOk s = false then 1 else if s ∈ n.names.take i then 6 else 0 := by simp [nameE, hs]
      have h0i : ((0 : Int) ≤ (i : Int)) = True := by simp
      simp only [go_sem, e1, hlt', hs, hb1]
      refine ⟨by omega, ?_⟩
      refine callV (f63 s hsl) ?_
      intro nx2 lv2
      by_cases q1 : nameOk s = true
      · simp only [go_sem, hb1, q1, h0i, if_true]
        refine ⟨by omega, by omega, ?_⟩
        refine AW_loopH [2, 6, 60, 61, 62, 63, 64, 65, 66, 67]
          (fun (x : Nat) ρ m => ρ 60 = .int .i64 (x : Int) ∧ x ≤ i ∧ (s ∉ n.names.take x) ∧ ∃ h nx lv, m = ⟨h, [], nx, lv⟩ ∧ AB.hget h 1 = some (0, nCells n)) (fun x => i - x) 0 ?_ ?_
        · simp only [go_sem]
          refine ⟨Nat.zero_le _, by simp, _, _, _, rfl, by simp [hb1, nCells]⟩
        · rintro x ρ m ⟨f1, r1, r2, h, nx, lv, rfl, hb1⟩ Q2 hN2 hR2 hX2
          simp only [nCells] at hb1
          have hlen : (List.take (i - 0) (List.map DV.str n.names)).length = i := by simp; omega
          by_cases hx : x < i
          · obtain ⟨k, hk⟩ : ∃ k, n.names[x]? = some k := ⟨_, List.getElem?_eq_getElem (by omega)⟩
            have hx' : ((x : Int) < (i : Int)) = True := by simp; omega
            have hxL : ((x : Int) < ((List.take (i - 0) (List.map DV.str n.names)).length : Int)) = True := by rw [hlen]; exact hx'
            have hk' : (List.take (i - 0) (List.map DV.str n.names))[x]? = some (DV.str k) := by
              rw [List.getElem?_take, if_pos (by omega), List.getElem?_map, hk]; rfl
            have ex : IntKind.i64.wrap ((x : Int) + 1) = (x : Int) + 1 := i64_in (by omega) (by omega)
            by_cases q2 : s = k
            · have hv : nameE n.names i = 6 := by
                have : s ∈ n.names.take i := List.mem_of_getElem? (i := x) (by rw [List.getElem?_take, if_pos hx, hk, q2])
                rw [hne]; simp [q1, this]
              have := firstE_hit hlt hv (by omega) g2
              simp only [go_sem, f1, hxL, hk', q2, hR2, hR]
              refine ⟨by omega, ?_⟩
              rw [hge, this]; rfl
            · simp only [go_sem, f1, hxL, hk', q2, hN2, ex]
              refine ⟨by omega, by kernel_rfl, x + 1, ?_, by simp only; omega⟩
              simp only [go_sem]
              refine ⟨by simp, by omega, ?_, _, _, _, rfl, by simp [hb1, nCells]⟩
              rw [List.take_add_one, hk]
              simp only [List.mem_append, Option.toList_some, List.mem_singleton]
              exact fun t => t.elim r2 q2
          · have hxL : ((x : Int) < ((List.take (i - 0) (List.map DV.str n.names)).length : Int)) = False := by rw [hlen]; simp; omega
            have hxi : x = i := by omega
            subst hxi
            have hv : nameE n.names x = 0 := by rw [hne]; simp [q1, r2]
            simp only [go_sem, f1, hxL, hX2, hN, e1, ew]
            refine ⟨by kernel_rfl, x + 1, ?_, by simp only; omega⟩
            simp only [go_sem]
            exact ⟨by simp, by omega, firstE_go hlt hv g2, _, _, _, rfl, by simp [hb1, nCells]⟩
      · have q1 : nameOk s = false := by simpa using q1
        have hv : nameE n.names i = 1 := by rw [hne]; simp [q1]
        simp only [go_sem, q1, hR]
        have := firstE_hit hlt hv (by omega) g2
        rw [hge, this]; rfl
    · have hlt' : ((i : Int) < (n.names.length : Int)) = False := by simp; omega
      rw [firstE_end hlt] at g2
      simp only [go_sem, e1, hX, hlt', hb1]
      have hge : netE n = if secsE n ≠ 0 then secsE n else if linksE n ≠ 0 then linksE n else restE n := by rw [hge, ← g2]; rfl
      refine AW_loopH [2, 8, 9, 72, 73, 74, 75, 76, 77, 78, 79, 80, 81, 82, 83, 84]
        (fun (i : Nat) ρ m => ρ 72 = .int .i64 (i : Int) ∧ i ≤ n.sects.length ∧ firstE (secAt n) (n.sects.length - i) i = secsE n ∧
          ∃ h nx lv, m = ⟨h, [], nx, lv⟩ ∧ AB.hget h 1 = some (0, nCells n)) (fun i => n.sects.length - i) 0 ?_ ?_
      · simp only [go_sem]
        exact ⟨Nat.zero_le _, rfl, _, _, _, rfl, by simp [hb1, nCells]⟩
      · clear g1 g2 hlt hlt' hb1 e1 hN hR hX Q
        rintro i ρ m ⟨e1, g1, g2, h, nx, lv, rfl, hb1⟩ Q hN hR hX
        simp only [nCells] at hb1
        by_cases hlt : i < n.sects.length
        · obtain ⟨s, hs⟩ : ∃ s, n.sects[i]? = some s := ⟨_, List.getElem?_eq_getElem hlt⟩
          have hlt' : ((i : Int) < (n.sects.length : Int)) = True := by simp; omega
          have ew : IntKind.i64.wrap ((i : Int) + 1) = (i : Int) + 1 := i64_in (by omega) (by omega)
          have hv : secAt n i = secE s n.names.length := by simp [secAt, hs]
          simp only [go_sem, e1, hlt', hs, hb1, dSect]
          generalize genO (AB.hget h 8) = G6
          refine ⟨by omega, ?_⟩
          refine callV (f64 s n.names.length) ?_
          intro nx2 lv2
          by_cases q1 : secE s n.names.length = 0
          · simp only [go_sem, q1, hN, ew]
            refine ⟨by kernel_rfl, i + 1, ?_, by simp only; omega⟩
            simp only [go_sem]
            exact ⟨by simp, by omega, firstE_go hlt (by rw [hv, q1]) g2, _, _, _, rfl, by simp [go_sem, hb1, nCells]⟩
          · simp only [go_sem, q1, hR]
            have := firstE_hit hlt hv q1 g2
            rw [hge, this, if_pos q1]
        · have hlt' : ((i : Int) < (n.sects.length : Int)) = False := by simp; omega
          rw [firstE_end hlt] at g2
          have hks : KindsOk n := secs_kinds g2.symm
          simp only [go_sem, e1, hX, hlt', hb1]
          have hge : netE n = if linksE n ≠ 0 then linksE n else restE n := by rw [hge, ← g2]; rfl
          refine AW_loopH [2, 10, 11, 88, 89, 90, 91, 92, 93, 94, 95, 96, 97]
            (fun (i : Nat) ρ m => ρ 88 = .int .i64 (i : Int) ∧ i ≤ n.links.length ∧ firstE (linkE n) (n.links.length - i) i = linksE n ∧
              ∃ h nx lv, m = ⟨h, [], nx, lv⟩ ∧ AB.hget h 1 = some (0, nCells n)) (fun i => n.links.length - i) 0 ?_ ?_
          · simp only [go_sem]
            exact ⟨Nat.zero_le _, rfl, _, _, _, rfl, by simp [hb1, nCells]⟩
          · clear g1 g2 hlt hlt' hb1 e1 hN hR hX Q
            rintro i ρ m ⟨e1, g1, g2, h, nx, lv, rfl, hb1⟩ Q hN hR hX
            simp only [nCells] at hb1
            by_cases hlt : i < n.links.length
            · obtain ⟨l, hl⟩ : ∃ l, n.links[i]? = some l := ⟨_, List.getElem?_eq_getElem hlt⟩
              have hlt' : ((i : Int) < (n.links.length : Int)) = True := by simp; omega
              have ew : IntKind.i64.wrap ((i : Int) + 1) = (i : Int) + 1 := i64_in (by omega) (by omega)
              simp only [go_sem, e1, hlt', hb1]
              refine callV (f65 n i l hl hb hks) ?_
              intro nx2 lv2
              by_cases q1 : linkE n i = 0
              · simp only [go_sem, q1, hN, ew]
                refine ⟨by kernel_rfl, i + 1, ?_, by simp only; omega⟩
                simp only [go_sem]
                exact ⟨by simp, by omega, firstE_go hlt q1 g2, _, _, _, rfl, by simp [hb1, nCells]⟩
              · simp only [go_sem, q1, hR]
                have := firstE_hit hlt rfl q1 g2
                rw [hge, this, if_pos q1]
            · have hlt' : ((i : Int) < (n.links.length : Int)) = False := by simp; omega
              rw [firstE_end hlt] at g2
              simp only [go_sem, e1, hX, hlt', hb1]
              refine callV (f66 n hb hks) ?_
              intro nx2 lv2
              simp only [go_sem]
              rw [hge, ← g2]; rfl
end Go.Proofs.Yteadhjclchjfjaa

/- The law LineChecks over its contracts, for all nets. -/
namespace Go.Proofs.Yteadhjclchjfjaa
set_option linter.unusedSimpArgs false
set_option linter.unusedVariables false
open Go.AB

theorem eNet_eq (n : Net) : toAV (.agg [.sl 1 (n.names.map DV.str), .sl 7 (n.sects.map dSect), .sl 4 (n.links.map dLnk), .sl 2 (n.sigs.map dPair), .sl 2 (n.gates.map dPair)]) = eNet n := rfl
theorem openSect {x : DV} (h : ElD Try.prog 106 x) : ∃ s : Sect, x = dSect s := by
  obtain ⟨cs, rfl, k⟩ := h.agg_inv Try.underlying106 rfl
  obtain ⟨c1, r, rfl, h1, k⟩ := k.cons_inv
  obtain ⟨c2, r, rfl, h2, k⟩ := k.cons_inv
  obtain ⟨c3, r, rfl, h3, k⟩ := k.cons_inv
  obtain ⟨c4, r, rfl, h4, k⟩ := k.cons_inv
  obtain ⟨c5, r, rfl, h5, k⟩ := k.cons_inv
  obtain ⟨c6, r, rfl, h6, k⟩ := k.cons_inv
  obtain ⟨c7, r, rfl, h7, k⟩ := k.cons_inv
  obtain rfl := k.nil_inv
  obtain ⟨v1, rfl, _⟩ := h1.int_inv Try.underlying3
  obtain ⟨v2, rfl, _⟩ := h2.int_inv Try.underlying3
  obtain ⟨v3, rfl, _⟩ := h3.int_inv Try.underlying3
  obtain ⟨v4, rfl, _⟩ := h4.int_inv Try.underlying3
  obtain ⟨v5, rfl, _⟩ := h5.int_inv Try.underlying3
  obtain ⟨v6, rfl, _⟩ := h6.int_inv Try.underlying3
  obtain ⟨b, rfl⟩ := h7.bool_inv Try.underlying4
  exact ⟨⟨v1, v2, v3, v4, v5, v6, b⟩, rfl⟩
theorem openNet {x : DV} (h : ElD Try.prog 28 x) : ∃ n : Net, toAV x = eNet n ∧ NetB n := by
  obtain ⟨cs, rfl, k⟩ := h.agg_inv Try.underlying28 rfl
  obtain ⟨c1, r, rfl, h1, k⟩ := k.cons_inv
  obtain ⟨c2, r, rfl, h2, k⟩ := k.cons_inv
  obtain ⟨c3, r, rfl, h3, k⟩ := k.cons_inv
  obtain ⟨c4, r, rfl, h4, k⟩ := k.cons_inv
  obtain ⟨c5, r, rfl, h5, k⟩ := k.cons_inv
  obtain rfl := k.nil_inv
  obtain ⟨l1, rfl, b1, e1⟩ := h1.sl_inv Try.underlying22 (z := 1) (y := 16) (by kernel_rfl) (by kernel_rfl)
  obtain ⟨l2, rfl, b2, e2⟩ := h2.sl_inv Try.underlying23 (z := 7) (y := 56) (by kernel_rfl) (by kernel_rfl)
  obtain ⟨l3, rfl, b3, e3⟩ := h3.sl_inv Try.underlying24 (z := 4) (y := 32) (by kernel_rfl) (by kernel_rfl)
  obtain ⟨l4, rfl, b4, e4⟩ := h4.sl_inv Try.underlying25 (z := 2) (y := 16) (by kernel_rfl) (by kernel_rfl)
  obtain ⟨l5, rfl, b5, e5⟩ := h5.sl_inv Try.underlying26 (z := 2) (y := 16) (by kernel_rfl) (by kernel_rfl)
  obtain ⟨m1, rfl, p1⟩ := map_of_each (f := DV.str) (p := fun s => s.length ≤ 140737488351232) l1 (fun y hy => (e1 y hy).str_inv Try.underlying9)
  obtain ⟨m2, rfl, _⟩ := map_of_each (f := dSect) (p := fun _ => True) l2 (fun y hy => by
    obtain ⟨a, ha⟩ := openSect (e2 y hy)
    exact ⟨a, ha, trivial⟩)
  obtain ⟨m3, rfl, _⟩ := map_of_each (f := dLnk) (p := fun _ => True) l3 (fun y hy => by
    obtain ⟨ns, q1, rfl, _⟩ := (e3 y hy).ints 4 (n := 4) (by kernel_rfl) (by kernel_rfl)
    match ns, q1 with
    | [a, b, c, d], _ => exact ⟨⟨a, b, c, d⟩, rfl, trivial⟩)
  obtain ⟨m4, rfl, _⟩ := map_of_each (f := dPair) (p := fun _ => True) l4 (fun y hy => by
    obtain ⟨ns, q1, rfl, _⟩ := (e4 y hy).ints 4 (n := 2) (by kernel_rfl) (by kernel_rfl)
    match ns, q1 with
    | [a, b], _ => exact ⟨⟨a, b⟩, rfl, trivial⟩)
  obtain ⟨m5, rfl, _⟩ := map_of_each (f := dPair) (p := fun _ => True) l5 (fun y hy => by
    obtain ⟨ns, q1, rfl, _⟩ := (e5 y hy).ints 4 (n := 2) (by kernel_rfl) (by kernel_rfl)
    match ns, q1 with
    | [a, b], _ => exact ⟨⟨a, b⟩, rfl, trivial⟩)
  simp only [List.length_map] at b1 b2 b3 b4 b5
  exact ⟨⟨m1, m2, m3, m4, m5⟩, rfl, ⟨by simp only; omega, by simp only; omega, by simp only; omega, by simp only; omega, by simp only; omega, p1⟩⟩

end Go.Proofs.Yteadhjclchjfjaa

/- Nets: the places that package line tells of. -/
namespace Go.Proofs.Yteadhjclchjfjaa
set_option linter.unusedSimpArgs false
set_option linter.unusedVariables false
open Go.AB

theorem netE_kinds {n : Net} (h : netE n = 0) : KindsOk n := by
  unfold netE at h
  split at h
  · cases h
  · split at h
    · cases h
    · split at h
      · rename_i h1; exact absurd h h1
      · split at h
        · rename_i h1; exact absurd h h1
        · rename_i h1
          exact secs_kinds (by simpa using h1)
theorem netE_small {n : Net} (h : netE n = 0) : ¬ bigN n := by
  intro hb
  unfold netE at h
  by_cases c : n.sects.length = 0 <;> simp [c, hb] at h
theorem within_iff {n a b : Int} : within n a b = true ↔ a ≤ n ∧ n ≤ b := by simp [within]

def endErr (n : Net) (s e : Int) : Int := if netE n ≠ 0 then netE n else if hasF n s e = false then 3 else 0
def endsE (n : Net) (s : Int) : Int := if netE n ≠ 0 then netE n else if within s 0 (n.sects.length - 1) = false then 3 else 0
def endsV (n : Net) (s : Int) : Int := if endsE n s ≠ 0 then 0 else endsF (kindAt n s)

set_option maxHeartbeats 1000000 in
set_option maxRecDepth 20000 in
theorem f12 (n : Net) (s : Int) (hb : NetB n) : PCall Try.prog 12 [eNet n, .int .i64 s] (RV (.tup [.int .i64 (endsV n s), .int .i64 (endsE n s)])) := by
  refine PCall.of_body Try.func12 rfl Try.ntmps12 (congrArg Array.toList Try.results12) ?_
  intro E
  have hsc := hb.sc
  have ew : IntKind.i64.wrap ((n.sects.length : Int) - 1) = (n.sects.length : Int) - 1 := i64_in (by omega) (by omega)
  simp only [go_sem, eNet, nCells]
  refine callV (f55 n hb) ?_
  intro nx lv
  by_cases h : netE n = 0
  · simp only [go_sem, h, ew]
    refine callV (f56 _ _ _) ?_
    intro nx2 lv2
    by_cases hw : within s 0 (n.sects.length - 1) = true
    · have h2 := within_iff.1 hw
      obtain ⟨c, hc⟩ : ∃ c, n.sects[s.toNat]? = some c := ⟨_, List.getElem?_eq_getElem (by omega)⟩
      have hk : kindAt n s = c.kind := by simp [kindAt, hc]
      have h0 : ((0 : Int) ≤ s) = True := by simp; omega
      simp only [go_sem, hw, hc, dSect, h0]
      refine callV (f57 _) ?_
      intro nx3 lv3
      simp [go_sem, endsV, endsE, h, hw, hk]
    · have hw : within s 0 (n.sects.length - 1) = false := by simpa using hw
      simp only [go_sem, hw]
      simp [endsV, endsE, h, hw]
  · simp only [go_sem, h]
    simp [endsV, endsE, h]

set_option maxHeartbeats 1000000 in
set_option maxRecDepth 20000 in
theorem f58 (n : Net) (s e : Int) (hb : NetB n) : PCall Try.prog 58 [eNet n, .agg [.int .i64 s, .int .i64 e]] (RV (.int .i64 (endErr n s e))) := by
  refine PCall.of_body Try.func58 rfl Try.ntmps58 (congrArg Array.toList Try.results58) ?_
  intro E
  simp only [go_sem, eNet, nCells]
  refine callV (f55 n hb) ?_
  intro nx lv
  by_cases h : netE n = 0
  · simp only [go_sem, h]
    refine callV (f72 n s e hb) ?_
    intro nx2 lv2
    by_cases hw : hasF n s e = true
    · simp only [go_sem, hw]
      simp [endErr, h, hw]
    · have hw : hasF n s e = false := by simpa using hw
      simp only [go_sem, hw]
      simp [endErr, h, hw]
  · simp only [go_sem, h]
    simp [endErr, h]

def nextE (n : Net) (s e : Int) : Int := if endErr n s e ≠ 0 then endErr n s e else if (joinL n.links s e).isSome = false then 9 else 0
def nextS (n : Net) (s e : Int) : Int := if nextE n s e ≠ 0 then 0 else joinS (joinL n.links s e)
def nextI (n : Net) (s e : Int) : Int := if nextE n s e ≠ 0 then 0 else joinE (joinL n.links s e)

set_option maxHeartbeats 1000000 in
set_option maxRecDepth 20000 in
theorem f13 (n : Net) (s e : Int) (hb : NetB n) : PCall Try.prog 13 [eNet n, .int .i64 s, .int .i64 e] (RV (.tup [.int .i64 (nextS n s e), .int .i64 (nextI n s e), .int .i64 (nextE n s e)])) := by
  refine PCall.of_body Try.func13 rfl Try.ntmps13 (congrArg Array.toList Try.results13) ?_
  intro E
  simp only [go_sem, eNet, nCells]
  refine callV (f58 n s e hb) ?_
  intro nx lv
  by_cases h : endErr n s e = 0
  · simp only [go_sem, h]
    refine callV (f59 n s e hb) ?_
    intro nx2 lv2
    by_cases hj : (joinL n.links s e).isSome = true
    · simp only [go_sem, hj]
      refine drawn (by kernel_rfl) (by kernel_rfl) ?_
      simp only [go_sem]
      intro _ _ _ _
      simp [nextS, nextI, nextE, h, hj]
    · have hj : (joinL n.links s e).isSome = false := by simpa using hj
      simp only [go_sem, hj]
      simp [nextS, nextI, nextE, h, hj]
  · simp only [go_sem, h]
    simp [nextS, nextI, nextE, h]

/-- The ends by which one can leave. -/
def outsF (k e : Int) : List Int := if k = 2 ∧ e = 0 then [1, 2] else if k = 2 then [0] else [bits .xor .i64 e 1]
def lInts (l : List Int) : AV := .sl 1 (l.map fun x => DV.int .i64 x) .no

set_option maxHeartbeats 1000000 in
theorem f60 (k e : Int) : PCall Try.prog 60 [.int .i64 k, .int .i64 e] (RV (lInts (outsF k e))) := by
  refine PCall.of_bodyE Try.func60 rfl Try.ntmps60 (congrArg Array.toList Try.results60) ?_
  intro E
  by_cases h1 : k = 2
  · by_cases h2 : e = 0
    · simp only [go_sem, h1, h2]
      simp [lInts, outsF, h1, h2, go_sem]
    · simp only [go_sem, h1, h2]
      simp [lInts, outsF, h1, h2, go_sem]
  · simp only [go_sem, h1]
    simp [lInts, outsF, h1, go_sem]

def outsV (n : Net) (s e : Int) : List Int := if endErr n s e ≠ 0 then [] else outsF (kindAt n s) e
theorem hasF_iff {n : Net} {s e : Int} : hasF n s e = true ↔ (0 ≤ s ∧ s ≤ n.sects.length - 1) ∧ (0 ≤ e ∧ e ≤ endsF (kindAt n s) - 1) := by simp [hasF, within]

set_option maxHeartbeats 1000000 in
set_option maxRecDepth 20000 in
theorem f14 (n : Net) (s e : Int) (hb : NetB n) : PCall Try.prog 14 [eNet n, .int .i64 s, .int .i64 e] (RV (.tup [lInts (outsV n s e), .int .i64 (endErr n s e)])) := by
  refine PCall.of_bodyE Try.func14 rfl Try.ntmps14 (congrArg Array.toList Try.results14) ?_
  intro E
  simp only [go_sem, eNet, nCells]
  refine callV (f58 n s e hb) ?_
  intro nx lv
  by_cases h : endErr n s e = 0
  · have hh : hasF n s e = true := by
      unfold endErr at h
      split at h
      · rename_i h1; exact absurd h h1
      · split at h
        · cases h
        · rename_i h1; simpa using h1
    have h2 := (hasF_iff.1 hh).1
    obtain ⟨c, hc⟩ : ∃ c, n.sects[s.toNat]? = some c := ⟨_, List.getElem?_eq_getElem (by omega)⟩
    have hk : kindAt n s = c.kind := by simp [kindAt, hc]
    have h0 : ((0 : Int) ≤ s) = True := by simp; omega
    simp only [go_sem, h, hc, dSect, h0]
    refine callV (f60 _ _) ?_
    intro nx2 lv2
    simp [go_sem, lInts, outsV, h, hk]
  · simp only [go_sem, h]
    simp [lInts, outsV, h, go_sem]

/-- The number of the signal at an end. -/
def sigIdx : List Pair → Int → Int → Int → Int
  | [], _, _, _ => -1
  | g :: r, s, e, i => if g.s = s ∧ g.e = e then i else sigIdx r s e (i + 1)

set_option maxHeartbeats 1000000 in
set_option maxRecDepth 20000 in
theorem f70 (l : List Pair) (s e : Int) (hl : l.length ≤ 140737488351232) : PCall Try.prog 70 [.sl 2 (l.map dPair) .no, .agg [.int .i64 s, .int .i64 e]] (RV (.int .i64 (sigIdx l s e 0))) := by
  refine PCall.of_body Try.func70 rfl Try.ntmps70 (congrArg Array.toList Try.results70) ?_
  intro E
  simp only [go_sem]
  refine AW_loopH [4, 5, 8, 9, 10, 11, 12, 13, 14, 15, 16, 17, 18]
    (fun (i : Nat) ρ m => ρ 8 = .int .i64 (i : Int) ∧ i ≤ l.length ∧ sigIdx (l.drop i) s e (i : Int) = sigIdx l s e 0 ∧ ∃ nx lv, m = ⟨[(3, 0, [.int .i64 s, .int .i64 e])], [], nx, lv⟩) (fun i => l.length - i) 0 ?_ ?_
  · simp [go_sem]
  · rintro i ρ m ⟨e1, g1, g2, nx, lv, rfl⟩ Q hN hR hX
    by_cases hlt : i < l.length
    · obtain ⟨p, hp⟩ : ∃ p, l[i]? = some p := ⟨_, List.getElem?_eq_getElem hlt⟩
      have hd : l.drop i = p :: l.drop (i + 1) := by
        rw [List.drop_eq_getElem_cons hlt]
        rw [List.getElem?_eq_getElem hlt] at hp
        cases hp; rfl
      have hlt' : ((i : Int) < (l.length : Int)) = True := by simp; omega
      have h0 : ((0 : Int) ≤ (i : Int)) = True := by simp
      have ew : IntKind.i64.wrap ((i : Int) + 1) = (i : Int) + 1 := i64_in (by omega) (by omega)
      rw [hd, show sigIdx (p :: l.drop (i + 1)) s e (i : Int) = if p.s = s ∧ p.e = e then (i : Int) else sigIdx (l.drop (i + 1)) s e (i + 1) from rfl] at g2
      simp only [go_sem, e1, hlt']
      refine drawn (by kernel_rfl) (by kernel_rfl) ?_
      by_cases q : p.s = s ∧ p.e = e
      · rw [if_pos q] at g2
        have q1 : (s = p.s) = True := eq_true q.1.symm
        have q2 : (e = p.e) = True := eq_true q.2.symm
        simp only [go_sem, hp, dPair, h0, hR, q1, q2]
        intro _ _ _ _
        exact g2
      · rw [if_neg q] at g2
        by_cases q1 : s = p.s
        · have q2 : ¬ e = p.e := fun x => q ⟨q1.symm, x.symm⟩
          have q1' : (s = p.s) = True := eq_true q1
          have q2' : (e = p.e) = False := eq_false q2
          simp only [go_sem, hp, dPair, h0, hN, ew, q1', q2']
          refine fun _ _ _ _ => ⟨by kernel_rfl, i + 1, ?_, by simp only; omega⟩
          simp only [go_sem]
          exact ⟨by simp, by omega, by simpa using g2, _, _, rfl⟩
        · have q1' : (s = p.s) = False := eq_false q1
          simp only [go_sem, hp, dPair, h0, hN, ew, q1']
          refine fun _ _ _ _ => ⟨by kernel_rfl, i + 1, ?_, by simp only; omega⟩
          simp only [go_sem]
          exact ⟨by simp, by omega, by simpa using g2, _, _, rfl⟩
    · have hlt' : ((i : Int) < (l.length : Int)) = False := by simp; omega
      rw [List.drop_eq_nil_of_le (by omega)] at g2
      simp only [go_sem, e1, hX, hlt']
      exact g2

set_option maxRecDepth 20000 in
theorem f61 (n : Net) (s e : Int) (hb : NetB n) : PCall Try.prog 61 [eNet n, .agg [.int .i64 s, .int .i64 e]] (RV (.int .i64 (sigIdx n.sigs s e 0))) := by
  refine PCall.of_body Try.func61 rfl Try.ntmps61 (congrArg Array.toList Try.results61) ?_
  intro E
  simp only [go_sem, eNet, nCells]
  refine callV (f70 n.sigs s e hb.sg) ?_
  intro nx lv
  simp only [go_sem]

def sigE2 (n : Net) (s e : Int) : Int := if endErr n s e ≠ 0 then endErr n s e else if sigIdx n.sigs s e 0 < 0 then 9 else 0
def sigV (n : Net) (s e : Int) : Int := if sigE2 n s e ≠ 0 then 0 else sigIdx n.sigs s e 0

set_option maxHeartbeats 1000000 in
set_option maxRecDepth 20000 in
theorem f15 (n : Net) (s e : Int) (hb : NetB n) : PCall Try.prog 15 [eNet n, .int .i64 s, .int .i64 e] (RV (.tup [.int .i64 (sigV n s e), .int .i64 (sigE2 n s e)])) := by
  refine PCall.of_body Try.func15 rfl Try.ntmps15 (congrArg Array.toList Try.results15) ?_
  intro E
  simp only [go_sem, eNet, nCells]
  refine callV (f58 n s e hb) ?_
  intro nx lv
  by_cases h : endErr n s e = 0
  · simp only [go_sem, h]
    refine callV (f61 n s e hb) ?_
    intro nx2 lv2
    by_cases hj : sigIdx n.sigs s e 0 < 0
    · simp only [go_sem, hj]
      simp [sigV, sigE2, h, hj]
    · simp only [go_sem, hj]
      simp [sigV, sigE2, h, hj]
  · simp only [go_sem, h]
    simp [sigV, sigE2, h]

/-- The sections with a station. -/
def platF (l : List Sect) (st : Int) : Nat → List Int
  | 0 => []
  | k + 1 => platF l st k ++ (match l[k]? with
    | some s => if s.station = IntKind.i64.wrap (st + 1) then [(k : Int)] else []
    | none => [])

set_option maxHeartbeats 1000000 in
set_option maxRecDepth 20000 in
theorem f62 (n : Net) (st : Int) (hb : NetB n) (h60 : n.sects.length ≤ 60) : PCall Try.prog 62 [eNet n, .int .i64 st] (RV (lInts (platF n.sects st n.sects.length))) := by
  refine PCall.of_bodyE Try.func62 rfl Try.ntmps62 (congrArg Array.toList Try.results62) ?_
  intro E
  have hsc := hb.sc
  simp only [go_sem, eNet, nCells]
  refine AW_loopH [5, 6, 7, 11, 12, 13, 14, 15, 16, 17, 18, 19, 20, 21, 22, 23, 24, 25]
    (fun (i : Nat) ρ m => ρ 11 = .int .i64 (i : Int) ∧ i ≤ n.sects.length ∧ (∃ tok, ρ 5 = .sl 1 ((platF n.sects st i).map fun x => DV.int .i64 x) tok ∧ okT m tok) ∧ (platF n.sects st i).length ≤ i ∧ ∃ h nx lv, m = ⟨h, [], nx, lv⟩) (fun i => n.sects.length - i) 0 ?_ ?_
  · simp [go_sem, platF]
  · rintro i ρ m ⟨e1, g1, ⟨tok, e5, hok⟩, g3, h, nx, lv, rfl⟩ Q hN hR hX
    by_cases hlt : i < n.sects.length
    · obtain ⟨p, hp⟩ : ∃ p, n.sects[i]? = some p := ⟨_, List.getElem?_eq_getElem hlt⟩
      have hlt' : ((i : Int) < (n.sects.length : Int)) = True := by simp; omega
      have h0 : ((0 : Int) ≤ (i : Int)) = True := by simp
      have ew : IntKind.i64.wrap ((i : Int) + 1) = (i : Int) + 1 := i64_in (by omega) (by omega)
      have hps : platF n.sects st (i + 1) = platF n.sects st i ++ (if p.station = IntKind.i64.wrap (st + 1) then [(i : Int)] else []) := by simp [platF, hp]
      by_cases q : p.station = IntKind.i64.wrap (st + 1)
      · have hps' : platF n.sects st (i + 1) = platF n.sects st i ++ [(i : Int)] := by rw [hps, if_pos q]
        simp only [go_sem, e1, hlt', h0, hp, dSect, q, e5, hN, ew]
        refine ⟨okT_mono hok (fun j x => .inr x), by omega, by kernel_rfl, i + 1, ?_, by simp only; omega⟩
        simp only [go_sem, hps', List.map_append]
        exact ⟨by simp, by omega, .inl trivial, by simp; omega, _, _, _, rfl⟩
      · have hps' : platF n.sects st (i + 1) = platF n.sects st i := by rw [hps, if_neg q, List.append_nil]
        simp only [go_sem, e1, hlt', h0, hp, dSect, q, e5, hN, ew]
        refine ⟨by kernel_rfl, i + 1, ?_, by simp only; omega⟩
        simp only [go_sem, hps']
        exact ⟨by simp, by omega, okT_mono hok (fun j x => x), by omega, _, _, _, rfl⟩
    · have hlt' : ((i : Int) < (n.sects.length : Int)) = False := by simp; omega
      have hi : i = n.sects.length := by omega
      subst hi
      simp only [go_sem, e1, hX, hlt', e5]
      simp [lInts, go_sem]

def platE (n : Net) (st : Int) : Int := if netE n ≠ 0 then netE n else if within st 0 (n.names.length - 1) = false then 3 else 0
def platV (n : Net) (st : Int) : List Int := if platE n st ≠ 0 then [] else platF n.sects st n.sects.length

set_option maxHeartbeats 1000000 in
set_option maxRecDepth 20000 in
theorem f16 (n : Net) (st : Int) (hb : NetB n) : PCall Try.prog 16 [eNet n, .int .i64 st] (RV (.tup [lInts (platV n st), .int .i64 (platE n st)])) := by
  refine PCall.of_bodyE Try.func16 rfl Try.ntmps16 (congrArg Array.toList Try.results16) ?_
  intro E
  have hnm := hb.nm
  have ew : IntKind.i64.wrap ((n.names.length : Int) - 1) = (n.names.length : Int) - 1 := i64_in (by omega) (by omega)
  simp only [go_sem, eNet, nCells]
  refine callV (f55 n hb) ?_
  intro nx lv
  by_cases h : netE n = 0
  · have hbg := netE_small h
    unfold bigN at hbg
    simp only [go_sem, h, ew]
    refine callV (f56 _ _ _) ?_
    intro nx2 lv2
    by_cases hw : within st 0 (n.names.length - 1) = true
    · simp only [go_sem, hw]
      refine callV (f62 n st hb (by omega)) ?_
      intro nx3 lv3
      simp [go_sem, lInts, platV, platE, h, hw]
    · have hw : within st 0 (n.names.length - 1) = false := by simpa using hw
      simp only [go_sem, hw]
      simp [go_sem, lInts, platV, platE, h, hw]
  · simp only [go_sem, h]
    simp [go_sem, lInts, platV, platE, h]
end Go.Proofs.Yteadhjclchjfjaa
