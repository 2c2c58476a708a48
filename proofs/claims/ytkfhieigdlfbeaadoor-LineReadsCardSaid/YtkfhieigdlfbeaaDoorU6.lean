/- A line of a net: what is read of its words, by the program. -/
import Derived.Test.YtkfhieigdlfbeaaDoorU3
import Derived.Test.YtkfhieigdlfbeaaDoorL121
import Derived.Test.YtkfhieigdlfbeaaDoorB140
namespace Go.Proofs.YtkfhieigdlfbeaaDoor
set_option linter.unusedSimpArgs false
set_option linter.unusedVariables false
open Go.AB

def kSt : List UInt8 := [115, 116, 97, 116, 105, 111, 110]
def kPl : List UInt8 := [112, 108, 97, 105, 110]
def kPo : List UInt8 := [112, 111, 105, 110, 116, 115]
def kCr : List UInt8 := [99, 114, 111, 115, 115]
def kLi : List UInt8 := [108, 105, 110, 107]
def kSi : List UInt8 := [115, 105, 103, 110, 97, 108]
def kGa : List UInt8 := [103, 97, 116, 101]
def kAx : List UInt8 := [97, 120, 108, 101, 115]
def kCi : List UInt8 := [99, 105, 114, 99, 117, 105, 116]

/-- What a line is. -/
inductive Item where
  | st (s : List UInt8)
  | se (s : Sect)
  | li (l : Lnk)
  | si (p : Pair)
  | ga (p : Pair)
def kindI : Item → Int
  | .st _ => 0
  | .se _ => 1
  | .li _ => 2
  | .si _ => 3
  | .ga _ => 4
def addI (n : Net) : Item → Net
  | .st s => { n with names := n.names ++ [s] }
  | .se s => { n with sects := n.sects ++ [s] }
  | .li l => { n with links := n.links ++ [l] }
  | .si p => { n with sigs := n.sigs ++ [p] }
  | .ga p => { n with gates := n.gates ++ [p] }

/-- The section of a line's words, the last of which is apart. -/
def sectOf (k : List UInt8) (r : List (List UInt8)) (z : List UInt8) : Option Item :=
  if z = kAx ∨ z = kCi then match numsF r with
    | some [a, b, c, d] => if k = kPl then some (.se ⟨1, a, b, c, 0, d, decide (z = kAx)⟩) else if k = kPo then some (.se ⟨2, a, b, c, d, 0, decide (z = kAx)⟩) else none
    | some [a, b] => if k = kCr then some (.se ⟨3, a, 0, b, 0, 0, decide (z = kAx)⟩) else none
    | _ => none
  else none
def restOf (k : List UInt8) (r : List (List UInt8)) : Option Item := match numsF r with
  | some [a, b, c, d] => if k = kLi then some (.li ⟨a, b, c, d⟩) else none
  | some [a, b] => if k = kSi then some (.si ⟨a, b⟩) else if k = kGa then some (.ga ⟨a, b⟩) else none
  | _ => none
def itemOf (ws : List (List UInt8)) : Option Item := match ws with
  | [] => none
  | k :: r => if k = kSt then (match r with
      | [x] => if x = [] then none else some (.st x)
      | _ => none)
    else if k = kPl ∨ k = kPo ∨ k = kCr then (match r.getLast? with
      | none => none
      | some z => sectOf k r.dropLast z)
    else restOf k r

/-- Marks that are in use, each for itself. -/
def TOk (nx : Nat) (lv : Nat → Prop) (l : List Tok) : Prop :=
  (∀ t ∈ l, t = .nil ∨ ∃ i, t = .own i ∧ i < nx ∧ lv i) ∧ l.Pairwise (fun s t => ∀ i, s = .own i → t ≠ .own i)

theorem TOk.mono {nx nx' : Nat} {lv lv' : Nat → Prop} {l : List Tok} (h : TOk nx lv l) (h1 : nx ≤ nx') (h2 : ∀ j, lv j → lv' j) : TOk nx' lv' l :=
  ⟨fun t ht => (h.1 t ht).imp id fun ⟨i, e, a, b⟩ => ⟨i, e, Nat.lt_of_lt_of_le a h1, h2 i b⟩, h.2⟩

theorem TOk.ok {nx : Nat} {lv : Nat → Prop} {l : List Tok} (h : TOk nx lv l) {t : Tok} (ht : t ∈ l) (hh : List (Nat × Nat × List AV)) (o : List (List AV)) : okT ⟨hh, o, nx, lv⟩ t := by
  rcases h.1 t ht with rfl | ⟨i, rfl, _, h2⟩
  · trivial
  · exact h2

theorem TOk.set {nx nx' n : Nat} {lv lv' : Nat → Prop} {l : List Tok} (h : TOk nx lv l) (k : Nat) (t : Tok) (hk : l[k]? = some t) (h1 : nx ≤ n) (h2 : n < nx') (h3 : lv' n) (h4 : ∀ j, lv j → ¬ t = .own j → lv' j) : TOk nx' lv' (l.set k (.own n)) := by
  obtain ⟨a, b⟩ := h
  refine ⟨fun s hs => ?_, ?_⟩
  · obtain ⟨i, hi⟩ := List.getElem?_of_mem hs
    rw [List.getElem?_set] at hi
    split at hi
    · split at hi
      · cases hi; exact .inr ⟨n, rfl, h2, h3⟩
      · cases hi
    · rename_i hik
      rcases a s (List.mem_of_getElem? hi) with rfl | ⟨j, rfl, j1, j2⟩
      · exact .inl rfl
      · refine .inr ⟨j, rfl, by omega, h4 j j2 fun e => ?_⟩
        subst e
        have hp := List.pairwise_iff_getElem.1 b
        obtain ⟨k1, k2⟩ := List.getElem?_eq_some_iff.1 hk
        obtain ⟨i1, i2⟩ := List.getElem?_eq_some_iff.1 hi
        rcases Nat.lt_or_gt_of_ne hik with hlt | hgt
        · exact hp k i k1 i1 hlt j k2 i2
        · exact hp i k i1 k1 hgt j i2 k2
  · refine List.pairwise_iff_getElem.2 fun i j hi hj hlt x e1 e2 => ?_
    rw [List.length_set] at hi hj
    rw [List.getElem_set] at e1 e2
    have hp := List.pairwise_iff_getElem.1 b
    have small : ∀ (m : Nat) (hm : m < l.length) (x : Nat), l[m] = .own x → x < nx := fun m hm x e => by
      rcases a l[m] (List.getElem_mem hm) with h | ⟨y, h, h', _⟩
      · rw [e] at h; cases h
      · rw [e] at h; cases h; exact h'
    split at e1
    · cases e1
      split at e2
      · omega
      · have := small j hj _ e2; omega
    · split at e2
      · cases e2
        have := small i hi _ e1; omega
      · exact hp i j hi hj hlt x e1 e2

def nC (n : Net) (a b c d e : Tok) : List AV := [.sl 1 (n.names.map DV.str) a, .sl 7 (n.sects.map dSect) b, .sl 4 (n.links.map dLnk) c, .sl 2 (n.sigs.map dPair) d, .sl 2 (n.gates.map dPair) e]

/-- What a line's reading comes to. -/
def RLine (n : Net) (it : Option Item) : AH → AV → Prop := fun m r => match it with
  | none => r = .int .i64 (-1) ∧ ∃ a b c d e, m.o = [nC n a b c d e]
  | some it => r = .int .i64 (kindI it) ∧ ∃ a b c d e, m.o = [nC (addI n it) a b c d e] ∧ TOk m.nx m.lv [a, b, c, d, e]

structure NetS (n : Net) : Prop where
  nm : n.names.length ≤ 1000000
  sc : n.sects.length ≤ 1000000
  lk : n.links.length ≤ 1000000
  sg : n.sigs.length ≤ 1000000
  gt : n.gates.length ≤ 1000000


theorem four {l : List Int} (h : l.length = 4) : ∃ a b c d, l = [a, b, c, d] := by
  match l, h with
  | [a, b, c, d], _ => exact ⟨a, b, c, d, rfl⟩
theorem two {l : List Int} (h : l.length = 2) : ∃ a b, l = [a, b] := by
  match l, h with
  | [a, b], _ => exact ⟨a, b, rfl⟩
theorem sectOf_none {k z : List UInt8} {r : List (List UInt8)} (h : numsF r = none) : sectOf k r z = none := by
  unfold sectOf
  rw [h]
  split <;> rfl
theorem restOf_none {k : List UInt8} {r : List (List UInt8)} (h : numsF r = none) : restOf k r = none := by
  unfold restOf
  rw [h]
theorem sectOf_len {k z : List UInt8} {r : List (List UInt8)} {l : List Int} (h : numsF r = some l) (h4 : k = kPl ∨ k = kPo → l.length ≠ 4) (h2 : k = kCr → l.length ≠ 2) : sectOf k r z = none := by
  unfold sectOf
  rw [h]
  split
  · match l with
    | [a, b, c, d] =>
      have q1 : ¬ k = kPl := fun e => h4 (.inl e) rfl
      have q2 : ¬ k = kPo := fun e => h4 (.inr e) rfl
      simp [q1, q2]
    | [a, b] =>
      have q1 : ¬ k = kCr := fun e => h2 e rfl
      simp [q1]
    | [] => rfl
    | [_] => rfl
    | [_, _, _] => rfl
    | _ :: _ :: _ :: _ :: _ :: _ => rfl
  · rfl
theorem restOf_len {k : List UInt8} {r : List (List UInt8)} {l : List Int} (h : numsF r = some l) (h4 : k = kLi → l.length ≠ 4) (h2 : k = kSi ∨ k = kGa → l.length ≠ 2) : restOf k r = none := by
  unfold restOf
  rw [h]
  match l with
  | [a, b, c, d] =>
    have q1 : ¬ k = kLi := fun e => h4 e rfl
    simp [q1]
  | [a, b] =>
    have q1 : ¬ k = kSi := fun e => h2 (.inl e) rfl
    have q2 : ¬ k = kGa := fun e => h2 (.inr e) rfl
    simp [q1, q2]
  | [] => rfl
  | [_] => rfl
  | [_, _, _] => rfl
  | _ :: _ :: _ :: _ :: _ :: _ => rfl
theorem u_99_112 : ((99 : UInt8) = 112) = False := eq_false (by decide)
theorem u_112_99 : ((112 : UInt8) = 99) = False := eq_false (by decide)
theorem u_115_112 : ((115 : UInt8) = 112) = False := eq_false (by decide)
theorem u_112_115 : ((112 : UInt8) = 115) = False := eq_false (by decide)
theorem u_103_108 : ((103 : UInt8) = 108) = False := eq_false (by decide)
theorem u_108_103 : ((108 : UInt8) = 103) = False := eq_false (by decide)
theorem u_97_99 : ((97 : UInt8) = 99) = False := eq_false (by decide)
theorem u_99_97 : ((99 : UInt8) = 97) = False := eq_false (by decide)

theorem key_str (s : List UInt8) : keyA Tryd.prog 9 (.str s) = true := by simp only [go_sem]
theorem many1 : mset [AV.str [112, 108, 97, 105, 110]] [AV.int IntKind.i64 4] (AV.str [112, 111, 105, 110, 116, 115]) (AV.int IntKind.i64 4) = ([AV.str [112, 108, 97, 105, 110], AV.str [112, 111, 105, 110, 116, 115]], [AV.int IntKind.i64 4, AV.int IntKind.i64 4]) := by simp [mset]
theorem many2 : mset [AV.str [112, 108, 97, 105, 110], AV.str [112, 111, 105, 110, 116, 115]] [AV.int IntKind.i64 4, AV.int IntKind.i64 4] (AV.str [99, 114, 111, 115, 115]) (AV.int IntKind.i64 2) = ([AV.str [112, 108, 97, 105, 110], AV.str [112, 111, 105, 110, 116, 115], AV.str [99, 114, 111, 115, 115]], [AV.int IntKind.i64 4, AV.int IntKind.i64 4, AV.int IntKind.i64 2]) := by simp [mset]
theorem many3 : mset [AV.str [112, 108, 97, 105, 110], AV.str [112, 111, 105, 110, 116, 115], AV.str [99, 114, 111, 115, 115]] [AV.int IntKind.i64 4, AV.int IntKind.i64 4, AV.int IntKind.i64 2] (AV.str [108, 105, 110, 107]) (AV.int IntKind.i64 4) = ([AV.str [112, 108, 97, 105, 110], AV.str [112, 111, 105, 110, 116, 115], AV.str [99, 114, 111, 115, 115], AV.str [108, 105, 110, 107]], [AV.int IntKind.i64 4, AV.int IntKind.i64 4, AV.int IntKind.i64 2, AV.int IntKind.i64 4]) := by simp [mset]
theorem many4 : mset [AV.str [112, 108, 97, 105, 110], AV.str [112, 111, 105, 110, 116, 115], AV.str [99, 114, 111, 115, 115], AV.str [108, 105, 110, 107]] [AV.int IntKind.i64 4, AV.int IntKind.i64 4, AV.int IntKind.i64 2, AV.int IntKind.i64 4] (AV.str [115, 105, 103, 110, 97, 108]) (AV.int IntKind.i64 2) = ([AV.str [112, 108, 97, 105, 110], AV.str [112, 111, 105, 110, 116, 115], AV.str [99, 114, 111, 115, 115], AV.str [108, 105, 110, 107], AV.str [115, 105, 103, 110, 97, 108]], [AV.int IntKind.i64 4, AV.int IntKind.i64 4, AV.int IntKind.i64 2, AV.int IntKind.i64 4, AV.int IntKind.i64 2]) := by simp [mset]
theorem many5 : mset [AV.str [112, 108, 97, 105, 110], AV.str [112, 111, 105, 110, 116, 115], AV.str [99, 114, 111, 115, 115], AV.str [108, 105, 110, 107], AV.str [115, 105, 103, 110, 97, 108]] [AV.int IntKind.i64 4, AV.int IntKind.i64 4, AV.int IntKind.i64 2, AV.int IntKind.i64 4, AV.int IntKind.i64 2] (AV.str [103, 97, 116, 101]) (AV.int IntKind.i64 2) = ([AV.str [112, 108, 97, 105, 110], AV.str [112, 111, 105, 110, 116, 115], AV.str [99, 114, 111, 115, 115], AV.str [108, 105, 110, 107], AV.str [115, 105, 103, 110, 97, 108], AV.str [103, 97, 116, 101]], [AV.int IntKind.i64 4, AV.int IntKind.i64 4, AV.int IntKind.i64 2, AV.int IntKind.i64 4, AV.int IntKind.i64 2, AV.int IntKind.i64 2]) := by simp [mset]
theorem manyGPl : mget [AV.str [112, 108, 97, 105, 110], AV.str [112, 111, 105, 110, 116, 115], AV.str [99, 114, 111, 115, 115], AV.str [108, 105, 110, 107], AV.str [115, 105, 103, 110, 97, 108], AV.str [103, 97, 116, 101]] [AV.int IntKind.i64 4, AV.int IntKind.i64 4, AV.int IntKind.i64 2, AV.int IntKind.i64 4, AV.int IntKind.i64 2, AV.int IntKind.i64 2] (AV.str [112, 108, 97, 105, 110]) = some (AV.int IntKind.i64 4) := by simp [mget]
theorem manyGPo : mget [AV.str [112, 108, 97, 105, 110], AV.str [112, 111, 105, 110, 116, 115], AV.str [99, 114, 111, 115, 115], AV.str [108, 105, 110, 107], AV.str [115, 105, 103, 110, 97, 108], AV.str [103, 97, 116, 101]] [AV.int IntKind.i64 4, AV.int IntKind.i64 4, AV.int IntKind.i64 2, AV.int IntKind.i64 4, AV.int IntKind.i64 2, AV.int IntKind.i64 2] (AV.str [112, 111, 105, 110, 116, 115]) = some (AV.int IntKind.i64 4) := by simp [mget]
theorem manyGCr : mget [AV.str [112, 108, 97, 105, 110], AV.str [112, 111, 105, 110, 116, 115], AV.str [99, 114, 111, 115, 115], AV.str [108, 105, 110, 107], AV.str [115, 105, 103, 110, 97, 108], AV.str [103, 97, 116, 101]] [AV.int IntKind.i64 4, AV.int IntKind.i64 4, AV.int IntKind.i64 2, AV.int IntKind.i64 4, AV.int IntKind.i64 2, AV.int IntKind.i64 2] (AV.str [99, 114, 111, 115, 115]) = some (AV.int IntKind.i64 2) := by simp [mget]
theorem manyGLi : mget [AV.str [112, 108, 97, 105, 110], AV.str [112, 111, 105, 110, 116, 115], AV.str [99, 114, 111, 115, 115], AV.str [108, 105, 110, 107], AV.str [115, 105, 103, 110, 97, 108], AV.str [103, 97, 116, 101]] [AV.int IntKind.i64 4, AV.int IntKind.i64 4, AV.int IntKind.i64 2, AV.int IntKind.i64 4, AV.int IntKind.i64 2, AV.int IntKind.i64 2] (AV.str [108, 105, 110, 107]) = some (AV.int IntKind.i64 4) := by simp [mget]
theorem manyGSi : mget [AV.str [112, 108, 97, 105, 110], AV.str [112, 111, 105, 110, 116, 115], AV.str [99, 114, 111, 115, 115], AV.str [108, 105, 110, 107], AV.str [115, 105, 103, 110, 97, 108], AV.str [103, 97, 116, 101]] [AV.int IntKind.i64 4, AV.int IntKind.i64 4, AV.int IntKind.i64 2, AV.int IntKind.i64 4, AV.int IntKind.i64 2, AV.int IntKind.i64 2] (AV.str [115, 105, 103, 110, 97, 108]) = some (AV.int IntKind.i64 2) := by simp [mget]
theorem manyGGa : mget [AV.str [112, 108, 97, 105, 110], AV.str [112, 111, 105, 110, 116, 115], AV.str [99, 114, 111, 115, 115], AV.str [108, 105, 110, 107], AV.str [115, 105, 103, 110, 97, 108], AV.str [103, 97, 116, 101]] [AV.int IntKind.i64 4, AV.int IntKind.i64 4, AV.int IntKind.i64 2, AV.int IntKind.i64 4, AV.int IntKind.i64 2, AV.int IntKind.i64 2] (AV.str [103, 97, 116, 101]) = some (AV.int IntKind.i64 2) := by simp [mget]
theorem manyN {k : List UInt8} (h0 : ¬ k = [112, 108, 97, 105, 110]) (h1 : ¬ k = [112, 111, 105, 110, 116, 115]) (h2 : ¬ k = [99, 114, 111, 115, 115]) (h3 : ¬ k = [108, 105, 110, 107]) (h4 : ¬ k = [115, 105, 103, 110, 97, 108]) (h5 : ¬ k = [103, 97, 116, 101]) : mget [AV.str [112, 108, 97, 105, 110], AV.str [112, 111, 105, 110, 116, 115], AV.str [99, 114, 111, 115, 115], AV.str [108, 105, 110, 107], AV.str [115, 105, 103, 110, 97, 108], AV.str [103, 97, 116, 101]] [AV.int IntKind.i64 4, AV.int IntKind.i64 4, AV.int IntKind.i64 2, AV.int IntKind.i64 4, AV.int IntKind.i64 2, AV.int IntKind.i64 2] (AV.str k) = none := by
  have g : ∀ l, ¬ k = l → ¬ AV.str l = AV.str k := fun l h e => by cases e; exact h rfl
  simp only [mget, g _ h0, g _ h1, g _ h2, g _ h3, g _ h4, g _ h5, if_false]

theorem take_all {r : List (List UInt8)} : List.take (r.length + 1 - 1) (List.map DV.str r) = List.map DV.str r := List.take_of_length_le (by simp)
theorem take_last {r : List (List UInt8)} : List.take (r.length - 1) (List.map DV.str r) = List.map DV.str r.dropLast := by
  rw [← List.map_take, List.dropLast_eq_take]

set_option maxHeartbeats 4000000 in
set_option maxRecDepth 20000 in
theorem f42_st (n : Net) (r : List (List UInt8)) (a b c d e : Tok) (nx : Nat) (lv : Nat → Prop) (hn : NetS n) (hr : r.length ≤ 20001) (hw : ∀ w ∈ r, w.length ≤ 20000) (ht : TOk nx lv [a, b, c, d, e]) :
    QCall Tryd.prog 42 ⟨[], [nC n a b c d e], nx, lv⟩ [.ptr (.out 0) 0, .sl 1 ((kSt :: r).map DV.str) .no] (RLine n (itemOf (kSt :: r))) := by
  refine QCall.of_body Tryd.func42 rfl Tryd.ntmps42 (congrArg Array.toList Tryd.results42) ?_
  intro E
  obtain ⟨hnm, hsc, hlk, hsg, hgt⟩ := hn
  have hd1 := take_all (r := r)
  match r, hr, hd1 with
  | [], _, _ =>
    simp only [go_sem, nC, List.map_cons, kSt]
    refine drawn (by kernel_rfl) (by kernel_rfl) ?_
    simp only [go_sem]
    intro nx1 lv1 _ _
    exact ⟨rfl, _, _, _, _, _, rfl⟩
  | x :: y :: q, _, hd1 =>
    have hl : (((x :: y :: q : List (List UInt8)).length : Int) = 1) = False := eq_false (by simp only [List.length_cons]; omega)
    have hl2 : (((q.length + 1 + 1 : Nat) : Int) = 1) = False := eq_false (by omega)
    simp only [List.map_cons, List.length_cons] at hd1
    simp only [go_sem, nC, List.map_cons, kSt]
    refine drawn (by kernel_rfl) (by kernel_rfl) ?_
    simp only [go_sem, hd1, hl2]
    intro nx1 lv1 _ _
    exact ⟨rfl, _, _, _, _, _, rfl⟩
  | [x], _, _ =>
    by_cases hx : x = []
    · have hx' : (x = []) = True := eq_true hx
      simp only [go_sem, nC, List.map_cons, kSt]
      refine drawn (by kernel_rfl) (by kernel_rfl) ?_
      simp only [go_sem, hx']
      intro nx1 lv1 _ _
      have : itemOf [[115, 116, 97, 116, 105, 111, 110], x] = none := by subst hx; rfl
      rw [this]
      exact ⟨rfl, _, _, _, _, _, rfl⟩
    · have hx' : (x = []) = False := eq_false hx
      simp only [go_sem, nC, List.map_cons, kSt]
      refine drawn (by kernel_rfl) (by kernel_rfl) ?_
      simp only [go_sem, hx']
      intro nx1 lv1 g1 g2
      refine drawnT [2, 2, 2, 2, 2, 2, 2, 2, 3, 1, 1, 1, 1] (.alt 8 [2, 2, 2, 2, 2, 0, 0, 0, 0, 3, 1, 1, 1] (.alt 9 [2, 0, 0, 0, 0, 0, 0, 0, 0, 0, 2, 2, 3] (.alt 12 [0, 0, 0, 0, 0, 0, 0, 0, 0, 0, 0, 0, 0] .fin .nil) .nil) .nil) 223 (by kernel_rfl) (by kernel_rfl) (by kernel_rfl) (by kernel_rfl) rfl ?_
      simp only [go_sem, nC]
      intro nx2 lv2 g3 g4 nx3 lv3 g5 g6
      have ht3 := ht.mono (nx' := nx3) (lv' := lv3) (by omega) (fun j x => g6 _ (.inr (g4 _ (g2 _ x))))
      refine ⟨ht3.ok (t := a) (by simp) _ _, by omega, ?_⟩
      intro nx4 lv4 g7 g8 nx5 lv5 g9 g10
      have hi : itemOf [[115, 116, 97, 116, 105, 111, 110], x] = some (.st x) := by simp [itemOf, kSt, hx]
      rw [hi]
      have h9 : TOk nx5 lv5 [.own nx3, b, c, d, e] := ht3.set 0 a rfl (Nat.le_refl _) (by omega) (g10 _ (g8 _ (.inl rfl))) (fun j h1 h2 => g10 _ (g8 _ (.inr ⟨h1, h2⟩)))
      exact ⟨rfl, .own nx3, b, c, d, e, by simp [nC, addI], h9⟩

set_option maxHeartbeats 4000000 in
set_option maxRecDepth 20000 in
theorem f42_pl (n : Net) (r : List (List UInt8)) (a b c d e : Tok) (nx : Nat) (lv : Nat → Prop) (hn : NetS n) (hr : r.length ≤ 20001) (hw : ∀ w ∈ r, w.length ≤ 20000) (ht : TOk nx lv [a, b, c, d, e]) :
    QCall Tryd.prog 42 ⟨[], [nC n a b c d e], nx, lv⟩ [.ptr (.out 0) 0, .sl 1 ((kPl :: r).map DV.str) .no] (RLine n (itemOf (kPl :: r))) := by
  refine QCall.of_body Tryd.func42 rfl Tryd.ntmps42 (congrArg Array.toList Tryd.results42) ?_
  intro E
  obtain ⟨hnm, hsc, hlk, hsg, hgt⟩ := hn
  have hd1 := take_all (r := r)
  have hna : ∀ z, r.getLast? = some z → z ∈ r := fun z hz => List.mem_of_getLast? hz
  cases hz : r.getLast? with
  | none =>
    have hr0 : r = [] := List.getLast?_eq_none_iff.1 hz
    subst hr0
    simp only [go_sem, u_99_112, u_112_99, u_115_112, u_112_115, u_103_108, u_108_103, u_97_99, u_99_97, false_and, nC, List.map_cons, kPl]
    refine drawn (by kernel_rfl) (by kernel_rfl) ?_
    simp only [go_sem, u_99_112, u_112_99, u_115_112, u_112_115, u_103_108, u_108_103, u_97_99, u_99_97, false_and]
    intro nx1 lv1 _ _
    exact ⟨rfl, _, _, _, _, _, rfl⟩
  | some z =>
    have hlen : 1 ≤ r.length := by
      cases r with
      | nil => cases hz
      | cons x q => simp
    have hzi : r[r.length - 1]? = some z := by rw [← List.getLast?_eq_getElem?]; exact hz
    have hdl := take_last (r := r)
    have l0 : ((r.length : Int) = 0) = False := eq_false (by omega)
    have w1 : IntKind.i64.wrap ((r.length : Int) - 1) = ((r.length - 1 : Nat) : Int) := by rw [i64_in (by omega) (by omega)]; omega
    have h00 : ((0 : Int) ≤ ((r.length - 1 : Nat) : Int)) = True := eq_true (by omega)
    have hle : (r.length - 1 ≤ r.length) = True := eq_true (by omega)
    have hit : itemOf (kPl :: r) = sectOf kPl r.dropLast z := by simp [itemOf, hz, kSt, kPl, kPo, kCr]
    rw [hit]
    have hdw : ∀ w ∈ r.dropLast, w.length ≤ 4294967296 := fun w hm => by have := hw w (List.dropLast_subset r hm); omega
    have hdl2 : r.dropLast.length ≤ 4294967296 := by rw [List.length_dropLast]; omega
    by_cases hzz : z = kAx ∨ z = kCi
    rotate_left
    · have z1 : (z = [97, 120, 108, 101, 115]) = False := eq_false (fun h => hzz (.inl h))
      have z2 : (z = [99, 105, 114, 99, 117, 105, 116]) = False := eq_false (fun h => hzz (.inr h))
      have hno : ∀ k, sectOf k r.dropLast z = none := fun k => by unfold sectOf; rw [if_neg hzz]
      simp only [go_sem, u_99_112, u_112_99, u_115_112, u_112_115, u_103_108, u_108_103, u_97_99, u_99_97, false_and, nC, List.map_cons, kPl]
      refine drawn (by kernel_rfl) (by kernel_rfl) ?_
      simp only [go_sem, u_99_112, u_112_99, u_115_112, u_112_115, u_103_108, u_108_103, u_97_99, u_99_97, false_and, hd1, l0, w1, h00, hle, hzi, hdl, if_true, List.drop_zero, Nat.sub_zero, z1, z2]
      intro nx1 lv1 g1 g2
      rw [hno]
      exact ⟨Nat.zero_le _, rfl, _, _, _, _, _, rfl⟩
    have z12 : ((z = [97, 120, 108, 101, 115]) = True ∧ decide (z = kAx) = true) ∨ ((z = [97, 120, 108, 101, 115]) = False ∧ (z = [99, 105, 114, 99, 117, 105, 116]) = True ∧ decide (z = kAx) = false) := by
      rcases hzz with rfl | rfl
      · exact .inl ⟨eq_true rfl, by simp⟩
      · exact .inr ⟨eq_false (by decide), eq_true rfl, by decide⟩
    rcases z12 with ⟨z1, z3⟩ | ⟨z1, z2, z3⟩
    · simp only [go_sem, u_99_112, u_112_99, u_115_112, u_112_115, u_103_108, u_108_103, u_97_99, u_99_97, false_and, nC, List.map_cons, kPl]
      refine drawn (by kernel_rfl) (by kernel_rfl) ?_
      simp only [go_sem, u_99_112, u_112_99, u_115_112, u_112_115, u_103_108, u_108_103, u_97_99, u_99_97, false_and, hd1, l0, w1, h00, hle, hzi, hdl, if_true, List.drop_zero, Nat.sub_zero, z1]
      intro nx1 lv1 g1 g2
      refine ⟨Nat.zero_le _, callVt (f24 r.dropLast hdl2 hdw) ?_⟩
      intro nx2 lv2 g3 g4
      cases hq : numsF r.dropLast with
      | none =>
        rw [sectOf_none hq]
        simp only [go_sem, u_99_112, u_112_99, u_115_112, u_112_115, u_103_108, u_108_103, u_97_99, u_99_97, false_and, numsV, hq, Option.isSome_none, many1, many2, many3, many4, many5, key_str, List.all_cons, List.all_nil, Bool.and_true, manyGPl]
        exact ⟨rfl, _, _, _, _, _, rfl⟩
      | some l =>
        by_cases hl : l.length = 4
        rotate_left
        · have hl' : ((l.length : Int) = 4) = False := eq_false (by omega)
          have hno := sectOf_len (k := kPl) (z := z) hq (fun _ h => hl h) (fun h => absurd h (by decide))
          simp only [kPl] at hno
          rw [hno]
          simp only [go_sem, u_99_112, u_112_99, u_115_112, u_112_115, u_103_108, u_108_103, u_97_99, u_99_97, false_and, numsV, hq, Option.isSome_some, Option.getD_some, hl', many1, many2, many3, many4, many5, key_str, List.all_cons, List.all_nil, Bool.and_true, manyGPl]
          exact ⟨rfl, _, _, _, _, _, rfl⟩
        obtain ⟨p1, p2, p3, p4, rfl⟩ := four hl
        have hso : sectOf kPl r.dropLast z = some (.se ⟨1, p1, p2, p3, 0, p4, true⟩) := by unfold sectOf; rw [if_pos hzz, hq, z3]; simp [kPl, kPo, kCr]
        simp only [kPl] at hso
        rw [hso]
        simp only [go_sem, u_99_112, u_112_99, u_115_112, u_112_115, u_103_108, u_108_103, u_97_99, u_99_97, false_and, numsV, hq, Option.isSome_some, Option.getD_some, dInt, List.map_cons, List.map_nil, many1, many2, many3, many4, many5, key_str, List.all_cons, List.all_nil, Bool.and_true, manyGPl]
        refine drawnS [] (by kernel_rfl) (by kernel_rfl) (by kernel_rfl) ?_
        simp only [go_sem, u_99_112, u_112_99, u_115_112, u_112_115, u_103_108, u_108_103, u_97_99, u_99_97, false_and]
        intro nx3 lv3 g5 g6
        refine drawnT [2, 2, 2, 2, 2, 2, 3, 1, 1, 1, 1] (.alt 6 [2, 2, 2, 2, 2, 0, 0, 3, 1, 1, 1] (.alt 7 [2, 0, 0, 0, 0, 0, 0, 0, 2, 2, 3] (.alt 10 [0, 0, 0, 0, 0, 0, 0, 0, 0, 0, 0] .fin .nil) .nil) .nil) 223 (by kernel_rfl) (by kernel_rfl) (by kernel_rfl) (by kernel_rfl) rfl ?_
        simp only [go_sem, u_99_112, u_112_99, u_115_112, u_112_115, u_103_108, u_108_103, u_97_99, u_99_97, false_and, nC]
        intro nx4 lv4 g7 g8 nx5 lv5 g9 g10
        have ht5 := ht.mono (nx' := nx5) (lv' := lv5) (by simp only at g3; omega) (fun j x => g10 _ (.inr (g8 _ (g6 _ (g4 _ (g2 _ x))))))
        refine ⟨ht5.ok (t := b) (by simp) _ _, by omega, ?_⟩
        intro nx6 lv6 g11 g12 nx7 lv7 g13 g14
        have h9 : TOk nx7 lv7 [a, .own nx5, c, d, e] := ht5.set 1 b rfl (Nat.le_refl _) (by omega) (g14 _ (g12 _ (.inl rfl))) (fun j h1 h2 => g14 _ (g12 _ (.inr ⟨h1, h2⟩)))
        exact ⟨rfl, a, .own nx5, c, d, e, by simp [nC, addI, dSect], h9⟩
    · simp only [go_sem, u_99_112, u_112_99, u_115_112, u_112_115, u_103_108, u_108_103, u_97_99, u_99_97, false_and, nC, List.map_cons, kPl]
      refine drawn (by kernel_rfl) (by kernel_rfl) ?_
      simp only [go_sem, u_99_112, u_112_99, u_115_112, u_112_115, u_103_108, u_108_103, u_97_99, u_99_97, false_and, hd1, l0, w1, h00, hle, hzi, hdl, if_true, List.drop_zero, Nat.sub_zero, z1, z2]
      intro nx1 lv1 g1 g2
      refine ⟨Nat.zero_le _, callVt (f24 r.dropLast hdl2 hdw) ?_⟩
      intro nx2 lv2 g3 g4
      cases hq : numsF r.dropLast with
      | none =>
        rw [sectOf_none hq]
        simp only [go_sem, u_99_112, u_112_99, u_115_112, u_112_115, u_103_108, u_108_103, u_97_99, u_99_97, false_and, numsV, hq, Option.isSome_none, many1, many2, many3, many4, many5, key_str, List.all_cons, List.all_nil, Bool.and_true, manyGPl]
        exact ⟨rfl, _, _, _, _, _, rfl⟩
      | some l =>
        by_cases hl : l.length = 4
        rotate_left
        · have hl' : ((l.length : Int) = 4) = False := eq_false (by omega)
          have hno := sectOf_len (k := kPl) (z := z) hq (fun _ h => hl h) (fun h => absurd h (by decide))
          simp only [kPl] at hno
          rw [hno]
          simp only [go_sem, u_99_112, u_112_99, u_115_112, u_112_115, u_103_108, u_108_103, u_97_99, u_99_97, false_and, numsV, hq, Option.isSome_some, Option.getD_some, hl', many1, many2, many3, many4, many5, key_str, List.all_cons, List.all_nil, Bool.and_true, manyGPl]
          exact ⟨rfl, _, _, _, _, _, rfl⟩
        obtain ⟨p1, p2, p3, p4, rfl⟩ := four hl
        have hso : sectOf kPl r.dropLast z = some (.se ⟨1, p1, p2, p3, 0, p4, false⟩) := by unfold sectOf; rw [if_pos hzz, hq, z3]; simp [kPl, kPo, kCr]
        simp only [kPl] at hso
        rw [hso]
        simp only [go_sem, u_99_112, u_112_99, u_115_112, u_112_115, u_103_108, u_108_103, u_97_99, u_99_97, false_and, numsV, hq, Option.isSome_some, Option.getD_some, dInt, List.map_cons, List.map_nil, many1, many2, many3, many4, many5, key_str, List.all_cons, List.all_nil, Bool.and_true, manyGPl]
        refine drawnS [] (by kernel_rfl) (by kernel_rfl) (by kernel_rfl) ?_
        simp only [go_sem, u_99_112, u_112_99, u_115_112, u_112_115, u_103_108, u_108_103, u_97_99, u_99_97, false_and]
        intro nx3 lv3 g5 g6
        refine drawnT [2, 2, 2, 2, 2, 2, 3, 1, 1, 1, 1] (.alt 6 [2, 2, 2, 2, 2, 0, 0, 3, 1, 1, 1] (.alt 7 [2, 0, 0, 0, 0, 0, 0, 0, 2, 2, 3] (.alt 10 [0, 0, 0, 0, 0, 0, 0, 0, 0, 0, 0] .fin .nil) .nil) .nil) 223 (by kernel_rfl) (by kernel_rfl) (by kernel_rfl) (by kernel_rfl) rfl ?_
        simp only [go_sem, u_99_112, u_112_99, u_115_112, u_112_115, u_103_108, u_108_103, u_97_99, u_99_97, false_and, nC]
        intro nx4 lv4 g7 g8 nx5 lv5 g9 g10
        have ht5 := ht.mono (nx' := nx5) (lv' := lv5) (by simp only at g3; omega) (fun j x => g10 _ (.inr (g8 _ (g6 _ (g4 _ (g2 _ x))))))
        refine ⟨ht5.ok (t := b) (by simp) _ _, by omega, ?_⟩
        intro nx6 lv6 g11 g12 nx7 lv7 g13 g14
        have h9 : TOk nx7 lv7 [a, .own nx5, c, d, e] := ht5.set 1 b rfl (Nat.le_refl _) (by omega) (g14 _ (g12 _ (.inl rfl))) (fun j h1 h2 => g14 _ (g12 _ (.inr ⟨h1, h2⟩)))
        exact ⟨rfl, a, .own nx5, c, d, e, by simp [nC, addI, dSect], h9⟩

set_option maxHeartbeats 4000000 in
set_option maxRecDepth 20000 in
theorem f42_po (n : Net) (r : List (List UInt8)) (a b c d e : Tok) (nx : Nat) (lv : Nat → Prop) (hn : NetS n) (hr : r.length ≤ 20001) (hw : ∀ w ∈ r, w.length ≤ 20000) (ht : TOk nx lv [a, b, c, d, e]) :
    QCall Tryd.prog 42 ⟨[], [nC n a b c d e], nx, lv⟩ [.ptr (.out 0) 0, .sl 1 ((kPo :: r).map DV.str) .no] (RLine n (itemOf (kPo :: r))) := by
  refine QCall.of_body Tryd.func42 rfl Tryd.ntmps42 (congrArg Array.toList Tryd.results42) ?_
  intro E
  obtain ⟨hnm, hsc, hlk, hsg, hgt⟩ := hn
  have hd1 := take_all (r := r)
  have hna : ∀ z, r.getLast? = some z → z ∈ r := fun z hz => List.mem_of_getLast? hz
  cases hz : r.getLast? with
  | none =>
    have hr0 : r = [] := List.getLast?_eq_none_iff.1 hz
    subst hr0
    simp only [go_sem, u_99_112, u_112_99, u_115_112, u_112_115, u_103_108, u_108_103, u_97_99, u_99_97, false_and, nC, List.map_cons, kPo]
    refine drawn (by kernel_rfl) (by kernel_rfl) ?_
    simp only [go_sem, u_99_112, u_112_99, u_115_112, u_112_115, u_103_108, u_108_103, u_97_99, u_99_97, false_and]
    intro nx1 lv1 _ _
    exact ⟨rfl, _, _, _, _, _, rfl⟩
  | some z =>
    have hlen : 1 ≤ r.length := by
      cases r with
      | nil => cases hz
      | cons x q => simp
    have hzi : r[r.length - 1]? = some z := by rw [← List.getLast?_eq_getElem?]; exact hz
    have hdl := take_last (r := r)
    have l0 : ((r.length : Int) = 0) = False := eq_false (by omega)
    have w1 : IntKind.i64.wrap ((r.length : Int) - 1) = ((r.length - 1 : Nat) : Int) := by rw [i64_in (by omega) (by omega)]; omega
    have h00 : ((0 : Int) ≤ ((r.length - 1 : Nat) : Int)) = True := eq_true (by omega)
    have hle : (r.length - 1 ≤ r.length) = True := eq_true (by omega)
    have hit : itemOf (kPo :: r) = sectOf kPo r.dropLast z := by simp [itemOf, hz, kSt, kPl, kPo, kCr]
    rw [hit]
    have hdw : ∀ w ∈ r.dropLast, w.length ≤ 4294967296 := fun w hm => by have := hw w (List.dropLast_subset r hm); omega
    have hdl2 : r.dropLast.length ≤ 4294967296 := by rw [List.length_dropLast]; omega
    by_cases hzz : z = kAx ∨ z = kCi
    rotate_left
    · have z1 : (z = [97, 120, 108, 101, 115]) = False := eq_false (fun h => hzz (.inl h))
      have z2 : (z = [99, 105, 114, 99, 117, 105, 116]) = False := eq_false (fun h => hzz (.inr h))
      have hno : ∀ k, sectOf k r.dropLast z = none := fun k => by unfold sectOf; rw [if_neg hzz]
      simp only [go_sem, u_99_112, u_112_99, u_115_112, u_112_115, u_103_108, u_108_103, u_97_99, u_99_97, false_and, nC, List.map_cons, kPo]
      refine drawn (by kernel_rfl) (by kernel_rfl) ?_
      simp only [go_sem, u_99_112, u_112_99, u_115_112, u_112_115, u_103_108, u_108_103, u_97_99, u_99_97, false_and, hd1, l0, w1, h00, hle, hzi, hdl, if_true, List.drop_zero, Nat.sub_zero, z1, z2]
      intro nx1 lv1 g1 g2
      rw [hno]
      exact ⟨Nat.zero_le _, rfl, _, _, _, _, _, rfl⟩
    have z12 : ((z = [97, 120, 108, 101, 115]) = True ∧ decide (z = kAx) = true) ∨ ((z = [97, 120, 108, 101, 115]) = False ∧ (z = [99, 105, 114, 99, 117, 105, 116]) = True ∧ decide (z = kAx) = false) := by
      rcases hzz with rfl | rfl
      · exact .inl ⟨eq_true rfl, by simp⟩
      · exact .inr ⟨eq_false (by decide), eq_true rfl, by decide⟩
    rcases z12 with ⟨z1, z3⟩ | ⟨z1, z2, z3⟩
    · simp only [go_sem, u_99_112, u_112_99, u_115_112, u_112_115, u_103_108, u_108_103, u_97_99, u_99_97, false_and, nC, List.map_cons, kPo]
      refine drawn (by kernel_rfl) (by kernel_rfl) ?_
      simp only [go_sem, u_99_112, u_112_99, u_115_112, u_112_115, u_103_108, u_108_103, u_97_99, u_99_97, false_and, hd1, l0, w1, h00, hle, hzi, hdl, if_true, List.drop_zero, Nat.sub_zero, z1]
      intro nx1 lv1 g1 g2
      refine ⟨Nat.zero_le _, callVt (f24 r.dropLast hdl2 hdw) ?_⟩
      intro nx2 lv2 g3 g4
      cases hq : numsF r.dropLast with
      | none =>
        rw [sectOf_none hq]
        simp only [go_sem, u_99_112, u_112_99, u_115_112, u_112_115, u_103_108, u_108_103, u_97_99, u_99_97, false_and, numsV, hq, Option.isSome_none, many1, many2, many3, many4, many5, key_str, List.all_cons, List.all_nil, Bool.and_true, manyGPo]
        exact ⟨rfl, _, _, _, _, _, rfl⟩
      | some l =>
        by_cases hl : l.length = 4
        rotate_left
        · have hl' : ((l.length : Int) = 4) = False := eq_false (by omega)
          have hno := sectOf_len (k := kPo) (z := z) hq (fun _ h => hl h) (fun h => absurd h (by decide))
          simp only [kPo] at hno
          rw [hno]
          simp only [go_sem, u_99_112, u_112_99, u_115_112, u_112_115, u_103_108, u_108_103, u_97_99, u_99_97, false_and, numsV, hq, Option.isSome_some, Option.getD_some, hl', many1, many2, many3, many4, many5, key_str, List.all_cons, List.all_nil, Bool.and_true, manyGPo]
          exact ⟨rfl, _, _, _, _, _, rfl⟩
        obtain ⟨p1, p2, p3, p4, rfl⟩ := four hl
        have hso : sectOf kPo r.dropLast z = some (.se ⟨2, p1, p2, p3, p4, 0, true⟩) := by unfold sectOf; rw [if_pos hzz, hq, z3]; simp [kPl, kPo, kCr]
        simp only [kPo] at hso
        rw [hso]
        simp only [go_sem, u_99_112, u_112_99, u_115_112, u_112_115, u_103_108, u_108_103, u_97_99, u_99_97, false_and, numsV, hq, Option.isSome_some, Option.getD_some, dInt, List.map_cons, List.map_nil, many1, many2, many3, many4, many5, key_str, List.all_cons, List.all_nil, Bool.and_true, manyGPo]
        refine drawnS [] (by kernel_rfl) (by kernel_rfl) (by kernel_rfl) ?_
        simp only [go_sem, u_99_112, u_112_99, u_115_112, u_112_115, u_103_108, u_108_103, u_97_99, u_99_97, false_and]
        intro nx3 lv3 g5 g6
        refine drawnT [2, 2, 2, 2, 2, 2, 3, 1, 1, 1, 1] (.alt 6 [2, 2, 2, 2, 2, 0, 0, 3, 1, 1, 1] (.alt 7 [2, 0, 0, 0, 0, 0, 0, 0, 2, 2, 3] (.alt 10 [0, 0, 0, 0, 0, 0, 0, 0, 0, 0, 0] .fin .nil) .nil) .nil) 223 (by kernel_rfl) (by kernel_rfl) (by kernel_rfl) (by kernel_rfl) rfl ?_
        simp only [go_sem, u_99_112, u_112_99, u_115_112, u_112_115, u_103_108, u_108_103, u_97_99, u_99_97, false_and, nC]
        intro nx4 lv4 g7 g8 nx5 lv5 g9 g10
        have ht5 := ht.mono (nx' := nx5) (lv' := lv5) (by simp only at g3; omega) (fun j x => g10 _ (.inr (g8 _ (g6 _ (g4 _ (g2 _ x))))))
        refine ⟨ht5.ok (t := b) (by simp) _ _, by omega, ?_⟩
        intro nx6 lv6 g11 g12 nx7 lv7 g13 g14
        have h9 : TOk nx7 lv7 [a, .own nx5, c, d, e] := ht5.set 1 b rfl (Nat.le_refl _) (by omega) (g14 _ (g12 _ (.inl rfl))) (fun j h1 h2 => g14 _ (g12 _ (.inr ⟨h1, h2⟩)))
        exact ⟨rfl, a, .own nx5, c, d, e, by simp [nC, addI, dSect], h9⟩
    · simp only [go_sem, u_99_112, u_112_99, u_115_112, u_112_115, u_103_108, u_108_103, u_97_99, u_99_97, false_and, nC, List.map_cons, kPo]
      refine drawn (by kernel_rfl) (by kernel_rfl) ?_
      simp only [go_sem, u_99_112, u_112_99, u_115_112, u_112_115, u_103_108, u_108_103, u_97_99, u_99_97, false_and, hd1, l0, w1, h00, hle, hzi, hdl, if_true, List.drop_zero, Nat.sub_zero, z1, z2]
      intro nx1 lv1 g1 g2
      refine ⟨Nat.zero_le _, callVt (f24 r.dropLast hdl2 hdw) ?_⟩
      intro nx2 lv2 g3 g4
      cases hq : numsF r.dropLast with
      | none =>
        rw [sectOf_none hq]
        simp only [go_sem, u_99_112, u_112_99, u_115_112, u_112_115, u_103_108, u_108_103, u_97_99, u_99_97, false_and, numsV, hq, Option.isSome_none, many1, many2, many3, many4, many5, key_str, List.all_cons, List.all_nil, Bool.and_true, manyGPo]
        exact ⟨rfl, _, _, _, _, _, rfl⟩
      | some l =>
        by_cases hl : l.length = 4
        rotate_left
        · have hl' : ((l.length : Int) = 4) = False := eq_false (by omega)
          have hno := sectOf_len (k := kPo) (z := z) hq (fun _ h => hl h) (fun h => absurd h (by decide))
          simp only [kPo] at hno
          rw [hno]
          simp only [go_sem, u_99_112, u_112_99, u_115_112, u_112_115, u_103_108, u_108_103, u_97_99, u_99_97, false_and, numsV, hq, Option.isSome_some, Option.getD_some, hl', many1, many2, many3, many4, many5, key_str, List.all_cons, List.all_nil, Bool.and_true, manyGPo]
          exact ⟨rfl, _, _, _, _, _, rfl⟩
        obtain ⟨p1, p2, p3, p4, rfl⟩ := four hl
        have hso : sectOf kPo r.dropLast z = some (.se ⟨2, p1, p2, p3, p4, 0, false⟩) := by unfold sectOf; rw [if_pos hzz, hq, z3]; simp [kPl, kPo, kCr]
        simp only [kPo] at hso
        rw [hso]
        simp only [go_sem, u_99_112, u_112_99, u_115_112, u_112_115, u_103_108, u_108_103, u_97_99, u_99_97, false_and, numsV, hq, Option.isSome_some, Option.getD_some, dInt, List.map_cons, List.map_nil, many1, many2, many3, many4, many5, key_str, List.all_cons, List.all_nil, Bool.and_true, manyGPo]
        refine drawnS [] (by kernel_rfl) (by kernel_rfl) (by kernel_rfl) ?_
        simp only [go_sem, u_99_112, u_112_99, u_115_112, u_112_115, u_103_108, u_108_103, u_97_99, u_99_97, false_and]
        intro nx3 lv3 g5 g6
        refine drawnT [2, 2, 2, 2, 2, 2, 3, 1, 1, 1, 1] (.alt 6 [2, 2, 2, 2, 2, 0, 0, 3, 1, 1, 1] (.alt 7 [2, 0, 0, 0, 0, 0, 0, 0, 2, 2, 3] (.alt 10 [0, 0, 0, 0, 0, 0, 0, 0, 0, 0, 0] .fin .nil) .nil) .nil) 223 (by kernel_rfl) (by kernel_rfl) (by kernel_rfl) (by kernel_rfl) rfl ?_
        simp only [go_sem, u_99_112, u_112_99, u_115_112, u_112_115, u_103_108, u_108_103, u_97_99, u_99_97, false_and, nC]
        intro nx4 lv4 g7 g8 nx5 lv5 g9 g10
        have ht5 := ht.mono (nx' := nx5) (lv' := lv5) (by simp only at g3; omega) (fun j x => g10 _ (.inr (g8 _ (g6 _ (g4 _ (g2 _ x))))))
        refine ⟨ht5.ok (t := b) (by simp) _ _, by omega, ?_⟩
        intro nx6 lv6 g11 g12 nx7 lv7 g13 g14
        have h9 : TOk nx7 lv7 [a, .own nx5, c, d, e] := ht5.set 1 b rfl (Nat.le_refl _) (by omega) (g14 _ (g12 _ (.inl rfl))) (fun j h1 h2 => g14 _ (g12 _ (.inr ⟨h1, h2⟩)))
        exact ⟨rfl, a, .own nx5, c, d, e, by simp [nC, addI, dSect], h9⟩

set_option maxHeartbeats 4000000 in
set_option maxRecDepth 20000 in
theorem f42_cr (n : Net) (r : List (List UInt8)) (a b c d e : Tok) (nx : Nat) (lv : Nat → Prop) (hn : NetS n) (hr : r.length ≤ 20001) (hw : ∀ w ∈ r, w.length ≤ 20000) (ht : TOk nx lv [a, b, c, d, e]) :
    QCall Tryd.prog 42 ⟨[], [nC n a b c d e], nx, lv⟩ [.ptr (.out 0) 0, .sl 1 ((kCr :: r).map DV.str) .no] (RLine n (itemOf (kCr :: r))) := by
  refine QCall.of_body Tryd.func42 rfl Tryd.ntmps42 (congrArg Array.toList Tryd.results42) ?_
  intro E
  obtain ⟨hnm, hsc, hlk, hsg, hgt⟩ := hn
  have hd1 := take_all (r := r)
  have hna : ∀ z, r.getLast? = some z → z ∈ r := fun z hz => List.mem_of_getLast? hz
  cases hz : r.getLast? with
  | none =>
    have hr0 : r = [] := List.getLast?_eq_none_iff.1 hz
    subst hr0
    simp only [go_sem, u_99_112, u_112_99, u_115_112, u_112_115, u_103_108, u_108_103, u_97_99, u_99_97, false_and, nC, List.map_cons, kCr]
    refine drawn (by kernel_rfl) (by kernel_rfl) ?_
    simp only [go_sem, u_99_112, u_112_99, u_115_112, u_112_115, u_103_108, u_108_103, u_97_99, u_99_97, false_and]
    intro nx1 lv1 _ _
    exact ⟨rfl, _, _, _, _, _, rfl⟩
  | some z =>
    have hlen : 1 ≤ r.length := by
      cases r with
      | nil => cases hz
      | cons x q => simp
    have hzi : r[r.length - 1]? = some z := by rw [← List.getLast?_eq_getElem?]; exact hz
    have hdl := take_last (r := r)
    have l0 : ((r.length : Int) = 0) = False := eq_false (by omega)
    have w1 : IntKind.i64.wrap ((r.length : Int) - 1) = ((r.length - 1 : Nat) : Int) := by rw [i64_in (by omega) (by omega)]; omega
    have h00 : ((0 : Int) ≤ ((r.length - 1 : Nat) : Int)) = True := eq_true (by omega)
    have hle : (r.length - 1 ≤ r.length) = True := eq_true (by omega)
    have hit : itemOf (kCr :: r) = sectOf kCr r.dropLast z := by simp [itemOf, hz, kSt, kPl, kPo, kCr]
    rw [hit]
    have hdw : ∀ w ∈ r.dropLast, w.length ≤ 4294967296 := fun w hm => by have := hw w (List.dropLast_subset r hm); omega
    have hdl2 : r.dropLast.length ≤ 4294967296 := by rw [List.length_dropLast]; omega
    by_cases hzz : z = kAx ∨ z = kCi
    rotate_left
    · have z1 : (z = [97, 120, 108, 101, 115]) = False := eq_false (fun h => hzz (.inl h))
      have z2 : (z = [99, 105, 114, 99, 117, 105, 116]) = False := eq_false (fun h => hzz (.inr h))
      have hno : ∀ k, sectOf k r.dropLast z = none := fun k => by unfold sectOf; rw [if_neg hzz]
      simp only [go_sem, u_99_112, u_112_99, u_115_112, u_112_115, u_103_108, u_108_103, u_97_99, u_99_97, false_and, nC, List.map_cons, kCr]
      refine drawn (by kernel_rfl) (by kernel_rfl) ?_
      simp only [go_sem, u_99_112, u_112_99, u_115_112, u_112_115, u_103_108, u_108_103, u_97_99, u_99_97, false_and, hd1, l0, w1, h00, hle, hzi, hdl, if_true, List.drop_zero, Nat.sub_zero, z1, z2]
      intro nx1 lv1 g1 g2
      rw [hno]
      exact ⟨Nat.zero_le _, rfl, _, _, _, _, _, rfl⟩
    have z12 : ((z = [97, 120, 108, 101, 115]) = True ∧ decide (z = kAx) = true) ∨ ((z = [97, 120, 108, 101, 115]) = False ∧ (z = [99, 105, 114, 99, 117, 105, 116]) = True ∧ decide (z = kAx) = false) := by
      rcases hzz with rfl | rfl
      · exact .inl ⟨eq_true rfl, by simp⟩
      · exact .inr ⟨eq_false (by decide), eq_true rfl, by decide⟩
    rcases z12 with ⟨z1, z3⟩ | ⟨z1, z2, z3⟩
    · simp only [go_sem, u_99_112, u_112_99, u_115_112, u_112_115, u_103_108, u_108_103, u_97_99, u_99_97, false_and, nC, List.map_cons, kCr]
      refine drawn (by kernel_rfl) (by kernel_rfl) ?_
      simp only [go_sem, u_99_112, u_112_99, u_115_112, u_112_115, u_103_108, u_108_103, u_97_99, u_99_97, false_and, hd1, l0, w1, h00, hle, hzi, hdl, if_true, List.drop_zero, Nat.sub_zero, z1]
      intro nx1 lv1 g1 g2
      refine ⟨Nat.zero_le _, callVt (f24 r.dropLast hdl2 hdw) ?_⟩
      intro nx2 lv2 g3 g4
      cases hq : numsF r.dropLast with
      | none =>
        rw [sectOf_none hq]
        simp only [go_sem, u_99_112, u_112_99, u_115_112, u_112_115, u_103_108, u_108_103, u_97_99, u_99_97, false_and, numsV, hq, Option.isSome_none, many1, many2, many3, many4, many5, key_str, List.all_cons, List.all_nil, Bool.and_true, manyGCr]
        exact ⟨rfl, _, _, _, _, _, rfl⟩
      | some l =>
        by_cases hl : l.length = 2
        rotate_left
        · have hl' : ((l.length : Int) = 2) = False := eq_false (by omega)
          have hno := sectOf_len (k := kCr) (z := z) hq (fun h => by rcases h with h | h <;> exact absurd h (by decide)) (fun _ h => hl h)
          simp only [kCr] at hno
          rw [hno]
          simp only [go_sem, u_99_112, u_112_99, u_115_112, u_112_115, u_103_108, u_108_103, u_97_99, u_99_97, false_and, numsV, hq, Option.isSome_some, Option.getD_some, hl', many1, many2, many3, many4, many5, key_str, List.all_cons, List.all_nil, Bool.and_true, manyGCr]
          exact ⟨rfl, _, _, _, _, _, rfl⟩
        obtain ⟨p1, p2, rfl⟩ := two hl
        have hso : sectOf kCr r.dropLast z = some (.se ⟨3, p1, 0, p2, 0, 0, true⟩) := by unfold sectOf; rw [if_pos hzz, hq, z3]; simp [kPl, kPo, kCr]
        simp only [kCr] at hso
        rw [hso]
        simp only [go_sem, u_99_112, u_112_99, u_115_112, u_112_115, u_103_108, u_108_103, u_97_99, u_99_97, false_and, numsV, hq, Option.isSome_some, Option.getD_some, dInt, List.map_cons, List.map_nil, many1, many2, many3, many4, many5, key_str, List.all_cons, List.all_nil, Bool.and_true, manyGCr]
        refine drawnS [] (by kernel_rfl) (by kernel_rfl) (by kernel_rfl) ?_
        simp only [go_sem, u_99_112, u_112_99, u_115_112, u_112_115, u_103_108, u_108_103, u_97_99, u_99_97, false_and]
        intro nx3 lv3 g5 g6
        refine drawnT [2, 2, 2, 2, 2, 2, 3, 1, 1, 1, 1] (.alt 6 [2, 2, 2, 2, 2, 0, 0, 3, 1, 1, 1] (.alt 7 [2, 0, 0, 0, 0, 0, 0, 0, 2, 2, 3] (.alt 10 [0, 0, 0, 0, 0, 0, 0, 0, 0, 0, 0] .fin .nil) .nil) .nil) 223 (by kernel_rfl) (by kernel_rfl) (by kernel_rfl) (by kernel_rfl) rfl ?_
        simp only [go_sem, u_99_112, u_112_99, u_115_112, u_112_115, u_103_108, u_108_103, u_97_99, u_99_97, false_and, nC]
        intro nx4 lv4 g7 g8 nx5 lv5 g9 g10
        have ht5 := ht.mono (nx' := nx5) (lv' := lv5) (by simp only at g3; omega) (fun j x => g10 _ (.inr (g8 _ (g6 _ (g4 _ (g2 _ x))))))
        refine ⟨ht5.ok (t := b) (by simp) _ _, by omega, ?_⟩
        intro nx6 lv6 g11 g12 nx7 lv7 g13 g14
        have h9 : TOk nx7 lv7 [a, .own nx5, c, d, e] := ht5.set 1 b rfl (Nat.le_refl _) (by omega) (g14 _ (g12 _ (.inl rfl))) (fun j h1 h2 => g14 _ (g12 _ (.inr ⟨h1, h2⟩)))
        exact ⟨rfl, a, .own nx5, c, d, e, by simp [nC, addI, dSect], h9⟩
    · simp only [go_sem, u_99_112, u_112_99, u_115_112, u_112_115, u_103_108, u_108_103, u_97_99, u_99_97, false_and, nC, List.map_cons, kCr]
      refine drawn (by kernel_rfl) (by kernel_rfl) ?_
      simp only [go_sem, u_99_112, u_112_99, u_115_112, u_112_115, u_103_108, u_108_103, u_97_99, u_99_97, false_and, hd1, l0, w1, h00, hle, hzi, hdl, if_true, List.drop_zero, Nat.sub_zero, z1, z2]
      intro nx1 lv1 g1 g2
      refine ⟨Nat.zero_le _, callVt (f24 r.dropLast hdl2 hdw) ?_⟩
      intro nx2 lv2 g3 g4
      cases hq : numsF r.dropLast with
      | none =>
        rw [sectOf_none hq]
        simp only [go_sem, u_99_112, u_112_99, u_115_112, u_112_115, u_103_108, u_108_103, u_97_99, u_99_97, false_and, numsV, hq, Option.isSome_none, many1, many2, many3, many4, many5, key_str, List.all_cons, List.all_nil, Bool.and_true, manyGCr]
        exact ⟨rfl, _, _, _, _, _, rfl⟩
      | some l =>
        by_cases hl : l.length = 2
        rotate_left
        · have hl' : ((l.length : Int) = 2) = False := eq_false (by omega)
          have hno := sectOf_len (k := kCr) (z := z) hq (fun h => by rcases h with h | h <;> exact absurd h (by decide)) (fun _ h => hl h)
          simp only [kCr] at hno
          rw [hno]
          simp only [go_sem, u_99_112, u_112_99, u_115_112, u_112_115, u_103_108, u_108_103, u_97_99, u_99_97, false_and, numsV, hq, Option.isSome_some, Option.getD_some, hl', many1, many2, many3, many4, many5, key_str, List.all_cons, List.all_nil, Bool.and_true, manyGCr]
          exact ⟨rfl, _, _, _, _, _, rfl⟩
        obtain ⟨p1, p2, rfl⟩ := two hl
        have hso : sectOf kCr r.dropLast z = some (.se ⟨3, p1, 0, p2, 0, 0, false⟩) := by unfold sectOf; rw [if_pos hzz, hq, z3]; simp [kPl, kPo, kCr]
        simp only [kCr] at hso
        rw [hso]
        simp only [go_sem, u_99_112, u_112_99, u_115_112, u_112_115, u_103_108, u_108_103, u_97_99, u_99_97, false_and, numsV, hq, Option.isSome_some, Option.getD_some, dInt, List.map_cons, List.map_nil, many1, many2, many3, many4, many5, key_str, List.all_cons, List.all_nil, Bool.and_true, manyGCr]
        refine drawnS [] (by kernel_rfl) (by kernel_rfl) (by kernel_rfl) ?_
        simp only [go_sem, u_99_112, u_112_99, u_115_112, u_112_115, u_103_108, u_108_103, u_97_99, u_99_97, false_and]
        intro nx3 lv3 g5 g6
        refine drawnT [2, 2, 2, 2, 2, 2, 3, 1, 1, 1, 1] (.alt 6 [2, 2, 2, 2, 2, 0, 0, 3, 1, 1, 1] (.alt 7 [2, 0, 0, 0, 0, 0, 0, 0, 2, 2, 3] (.alt 10 [0, 0, 0, 0, 0, 0, 0, 0, 0, 0, 0] .fin .nil) .nil) .nil) 223 (by kernel_rfl) (by kernel_rfl) (by kernel_rfl) (by kernel_rfl) rfl ?_
        simp only [go_sem, u_99_112, u_112_99, u_115_112, u_112_115, u_103_108, u_108_103, u_97_99, u_99_97, false_and, nC]
        intro nx4 lv4 g7 g8 nx5 lv5 g9 g10
        have ht5 := ht.mono (nx' := nx5) (lv' := lv5) (by simp only at g3; omega) (fun j x => g10 _ (.inr (g8 _ (g6 _ (g4 _ (g2 _ x))))))
        refine ⟨ht5.ok (t := b) (by simp) _ _, by omega, ?_⟩
        intro nx6 lv6 g11 g12 nx7 lv7 g13 g14
        have h9 : TOk nx7 lv7 [a, .own nx5, c, d, e] := ht5.set 1 b rfl (Nat.le_refl _) (by omega) (g14 _ (g12 _ (.inl rfl))) (fun j h1 h2 => g14 _ (g12 _ (.inr ⟨h1, h2⟩)))
        exact ⟨rfl, a, .own nx5, c, d, e, by simp [nC, addI, dSect], h9⟩

set_option maxHeartbeats 4000000 in
set_option maxRecDepth 20000 in
theorem f42_li (n : Net) (r : List (List UInt8)) (a b c d e : Tok) (nx : Nat) (lv : Nat → Prop) (hn : NetS n) (hr : r.length ≤ 20001) (hw : ∀ w ∈ r, w.length ≤ 20000) (ht : TOk nx lv [a, b, c, d, e]) :
    QCall Tryd.prog 42 ⟨[], [nC n a b c d e], nx, lv⟩ [.ptr (.out 0) 0, .sl 1 ((kLi :: r).map DV.str) .no] (RLine n (itemOf (kLi :: r))) := by
  refine QCall.of_body Tryd.func42 rfl Tryd.ntmps42 (congrArg Array.toList Tryd.results42) ?_
  intro E
  obtain ⟨hnm, hsc, hlk, hsg, hgt⟩ := hn
  have hd1 := take_all (r := r)
  have hit : itemOf (kLi :: r) = restOf kLi r := by simp [itemOf, kSt, kPl, kPo, kCr, kLi, kSi, kGa]
  rw [hit]
  have hdw : ∀ w ∈ r, w.length ≤ 4294967296 := fun w hm => by have := hw w hm; omega
  simp only [go_sem, u_99_112, u_112_99, u_115_112, u_112_115, u_103_108, u_108_103, u_97_99, u_99_97, false_and, nC, List.map_cons, kLi]
  refine drawn (by kernel_rfl) (by kernel_rfl) ?_
  simp only [go_sem, u_99_112, u_112_99, u_115_112, u_112_115, u_103_108, u_108_103, u_97_99, u_99_97, false_and, hd1]
  intro nx1 lv1 g1 g2
  refine callVt (f24 r (by omega) hdw) ?_
  intro nx2 lv2 g3 g4
  cases hq : numsF r with
  | none =>
    rw [restOf_none hq]
    simp only [go_sem, u_99_112, u_112_99, u_115_112, u_112_115, u_103_108, u_108_103, u_97_99, u_99_97, false_and, numsV, hq, Option.isSome_none, many1, many2, many3, many4, many5, key_str, List.all_cons, List.all_nil, Bool.and_true, manyGLi]
    exact ⟨rfl, _, _, _, _, _, rfl⟩
  | some l =>
    by_cases hl : l.length = 4
    rotate_left
    · have hl' : ((l.length : Int) = 4) = False := eq_false (by omega)
      have hno := restOf_len (k := kLi) hq (fun _ h => hl h) (fun h => by rcases h with h | h <;> exact absurd h (by decide))
      simp only [kLi] at hno
      rw [hno]
      simp only [go_sem, u_99_112, u_112_99, u_115_112, u_112_115, u_103_108, u_108_103, u_97_99, u_99_97, false_and, numsV, hq, Option.isSome_some, Option.getD_some, hl', many1, many2, many3, many4, many5, key_str, List.all_cons, List.all_nil, Bool.and_true, manyGLi]
      exact ⟨rfl, _, _, _, _, _, rfl⟩
    obtain ⟨p1, p2, p3, p4, rfl⟩ := four hl
    have hso : restOf kLi r = some (.li ⟨p1, p2, p3, p4⟩) := by unfold restOf; rw [hq]; simp [kLi, kSi, kGa]
    simp only [kLi] at hso
    rw [hso]
    simp only [go_sem, u_99_112, u_112_99, u_115_112, u_112_115, u_103_108, u_108_103, u_97_99, u_99_97, false_and, numsV, hq, Option.isSome_some, Option.getD_some, dInt, List.map_cons, List.map_nil, many1, many2, many3, many4, many5, key_str, List.all_cons, List.all_nil, Bool.and_true, manyGLi]
    refine drawnT [2, 2, 2, 2, 2, 2, 2, 2, 2, 2, 2, 2, 2, 2, 2, 2, 2, 2, 3, 1, 1, 1, 1] (.alt 18 [2, 2, 2, 2, 2, 0, 0, 0, 0, 0, 0, 0, 0, 0, 0, 0, 0, 0, 0, 3, 1, 1, 1] (.alt 19 [2, 0, 0, 0, 0, 0, 0, 0, 0, 0, 0, 0, 0, 0, 0, 0, 0, 0, 0, 0, 2, 2, 3] (.alt 22 [0, 0, 0, 0, 0, 0, 0, 0, 0, 0, 0, 0, 0, 0, 0, 0, 0, 0, 0, 0, 0, 0, 0] .fin .nil) .nil) .nil) 223 (by kernel_rfl) (by kernel_rfl) (by kernel_rfl) (by kernel_rfl) rfl ?_
    simp only [go_sem, u_99_112, u_112_99, u_115_112, u_112_115, u_103_108, u_108_103, u_97_99, u_99_97, false_and, nC]
    intro nx4 lv4 g7 g8 nx5 lv5 g9 g10
    have ht5 := ht.mono (nx' := nx5) (lv' := lv5) (by simp only at g3; omega) (fun j x => g10 _ (.inr (g8 _ (g4 _ (g2 _ x)))))
    refine ⟨ht5.ok (t := c) (by simp) _ _, by omega, ?_⟩
    intro nx6 lv6 g11 g12 nx7 lv7 g13 g14
    have h9 : TOk nx7 lv7 [a, b, .own nx5, d, e] := ht5.set 2 c rfl (Nat.le_refl _) (by omega) (g14 _ (g12 _ (.inl rfl))) (fun j h1 h2 => g14 _ (g12 _ (.inr ⟨h1, h2⟩)))
    exact ⟨rfl, a, b, .own nx5, d, e, by simp [nC, addI, dLnk], h9⟩

set_option maxHeartbeats 4000000 in
set_option maxRecDepth 20000 in
theorem f42_si (n : Net) (r : List (List UInt8)) (a b c d e : Tok) (nx : Nat) (lv : Nat → Prop) (hn : NetS n) (hr : r.length ≤ 20001) (hw : ∀ w ∈ r, w.length ≤ 20000) (ht : TOk nx lv [a, b, c, d, e]) :
    QCall Tryd.prog 42 ⟨[], [nC n a b c d e], nx, lv⟩ [.ptr (.out 0) 0, .sl 1 ((kSi :: r).map DV.str) .no] (RLine n (itemOf (kSi :: r))) := by
  refine QCall.of_body Tryd.func42 rfl Tryd.ntmps42 (congrArg Array.toList Tryd.results42) ?_
  intro E
  obtain ⟨hnm, hsc, hlk, hsg, hgt⟩ := hn
  have hd1 := take_all (r := r)
  have hit : itemOf (kSi :: r) = restOf kSi r := by simp [itemOf, kSt, kPl, kPo, kCr, kLi, kSi, kGa]
  rw [hit]
  have hdw : ∀ w ∈ r, w.length ≤ 4294967296 := fun w hm => by have := hw w hm; omega
  simp only [go_sem, u_99_112, u_112_99, u_115_112, u_112_115, u_103_108, u_108_103, u_97_99, u_99_97, false_and, nC, List.map_cons, kSi]
  refine drawn (by kernel_rfl) (by kernel_rfl) ?_
  simp only [go_sem, u_99_112, u_112_99, u_115_112, u_112_115, u_103_108, u_108_103, u_97_99, u_99_97, false_and, hd1]
  intro nx1 lv1 g1 g2
  refine callVt (f24 r (by omega) hdw) ?_
  intro nx2 lv2 g3 g4
  cases hq : numsF r with
  | none =>
    rw [restOf_none hq]
    simp only [go_sem, u_99_112, u_112_99, u_115_112, u_112_115, u_103_108, u_108_103, u_97_99, u_99_97, false_and, numsV, hq, Option.isSome_none, many1, many2, many3, many4, many5, key_str, List.all_cons, List.all_nil, Bool.and_true, manyGSi]
    exact ⟨rfl, _, _, _, _, _, rfl⟩
  | some l =>
    by_cases hl : l.length = 2
    rotate_left
    · have hl' : ((l.length : Int) = 2) = False := eq_false (by omega)
      have hno := restOf_len (k := kSi) hq (fun h => absurd h (by decide)) (fun _ h => hl h)
      simp only [kSi] at hno
      rw [hno]
      simp only [go_sem, u_99_112, u_112_99, u_115_112, u_112_115, u_103_108, u_108_103, u_97_99, u_99_97, false_and, numsV, hq, Option.isSome_some, Option.getD_some, hl', many1, many2, many3, many4, many5, key_str, List.all_cons, List.all_nil, Bool.and_true, manyGSi]
      exact ⟨rfl, _, _, _, _, _, rfl⟩
    obtain ⟨p1, p2, rfl⟩ := two hl
    have hso : restOf kSi r = some (.si ⟨p1, p2⟩) := by unfold restOf; rw [hq]; simp [kLi, kSi, kGa]
    simp only [kSi] at hso
    rw [hso]
    simp only [go_sem, u_99_112, u_112_99, u_115_112, u_112_115, u_103_108, u_108_103, u_97_99, u_99_97, false_and, numsV, hq, Option.isSome_some, Option.getD_some, dInt, List.map_cons, List.map_nil, many1, many2, many3, many4, many5, key_str, List.all_cons, List.all_nil, Bool.and_true, manyGSi]
    refine drawnT [2, 2, 2, 2, 2, 2, 2, 2, 2, 2, 2, 2, 3, 1, 1, 1, 1] (.alt 12 [2, 2, 2, 2, 2, 0, 0, 0, 0, 0, 0, 0, 0, 3, 1, 1, 1] (.alt 13 [2, 0, 0, 0, 0, 0, 0, 0, 0, 0, 0, 0, 0, 0, 2, 2, 3] (.alt 16 [0, 0, 0, 0, 0, 0, 0, 0, 0, 0, 0, 0, 0, 0, 0, 0, 0] .fin .nil) .nil) .nil) 223 (by kernel_rfl) (by kernel_rfl) (by kernel_rfl) (by kernel_rfl) rfl ?_
    simp only [go_sem, u_99_112, u_112_99, u_115_112, u_112_115, u_103_108, u_108_103, u_97_99, u_99_97, false_and, nC]
    intro nx4 lv4 g7 g8 nx5 lv5 g9 g10
    have ht5 := ht.mono (nx' := nx5) (lv' := lv5) (by simp only at g3; omega) (fun j x => g10 _ (.inr (g8 _ (g4 _ (g2 _ x)))))
    refine ⟨ht5.ok (t := d) (by simp) _ _, by omega, ?_⟩
    intro nx6 lv6 g11 g12 nx7 lv7 g13 g14
    have h9 : TOk nx7 lv7 [a, b, c, .own nx5, e] := ht5.set 3 d rfl (Nat.le_refl _) (by omega) (g14 _ (g12 _ (.inl rfl))) (fun j h1 h2 => g14 _ (g12 _ (.inr ⟨h1, h2⟩)))
    exact ⟨rfl, a, b, c, .own nx5, e, by simp [nC, addI, dPair], h9⟩

set_option maxHeartbeats 4000000 in
set_option maxRecDepth 20000 in
theorem f42_ga (n : Net) (r : List (List UInt8)) (a b c d e : Tok) (nx : Nat) (lv : Nat → Prop) (hn : NetS n) (hr : r.length ≤ 20001) (hw : ∀ w ∈ r, w.length ≤ 20000) (ht : TOk nx lv [a, b, c, d, e]) :
    QCall Tryd.prog 42 ⟨[], [nC n a b c d e], nx, lv⟩ [.ptr (.out 0) 0, .sl 1 ((kGa :: r).map DV.str) .no] (RLine n (itemOf (kGa :: r))) := by
  refine QCall.of_body Tryd.func42 rfl Tryd.ntmps42 (congrArg Array.toList Tryd.results42) ?_
  intro E
  obtain ⟨hnm, hsc, hlk, hsg, hgt⟩ := hn
  have hd1 := take_all (r := r)
  have hit : itemOf (kGa :: r) = restOf kGa r := by simp [itemOf, kSt, kPl, kPo, kCr, kLi, kSi, kGa]
  rw [hit]
  have hdw : ∀ w ∈ r, w.length ≤ 4294967296 := fun w hm => by have := hw w hm; omega
  simp only [go_sem, u_99_112, u_112_99, u_115_112, u_112_115, u_103_108, u_108_103, u_97_99, u_99_97, false_and, nC, List.map_cons, kGa]
  refine drawn (by kernel_rfl) (by kernel_rfl) ?_
  simp only [go_sem, u_99_112, u_112_99, u_115_112, u_112_115, u_103_108, u_108_103, u_97_99, u_99_97, false_and, hd1]
  intro nx1 lv1 g1 g2
  refine callVt (f24 r (by omega) hdw) ?_
  intro nx2 lv2 g3 g4
  cases hq : numsF r with
  | none =>
    rw [restOf_none hq]
    simp only [go_sem, u_99_112, u_112_99, u_115_112, u_112_115, u_103_108, u_108_103, u_97_99, u_99_97, false_and, numsV, hq, Option.isSome_none, many1, many2, many3, many4, many5, key_str, List.all_cons, List.all_nil, Bool.and_true, manyGGa]
    exact ⟨rfl, _, _, _, _, _, rfl⟩
  | some l =>
    by_cases hl : l.length = 2
    rotate_left
    · have hl' : ((l.length : Int) = 2) = False := eq_false (by omega)
      have hno := restOf_len (k := kGa) hq (fun h => absurd h (by decide)) (fun _ h => hl h)
      simp only [kGa] at hno
      rw [hno]
      simp only [go_sem, u_99_112, u_112_99, u_115_112, u_112_115, u_103_108, u_108_103, u_97_99, u_99_97, false_and, numsV, hq, Option.isSome_some, Option.getD_some, hl', many1, many2, many3, many4, many5, key_str, List.all_cons, List.all_nil, Bool.and_true, manyGGa]
      exact ⟨rfl, _, _, _, _, _, rfl⟩
    obtain ⟨p1, p2, rfl⟩ := two hl
    have hso : restOf kGa r = some (.ga ⟨p1, p2⟩) := by unfold restOf; rw [hq]; simp [kLi, kSi, kGa]
    simp only [kGa] at hso
    rw [hso]
    simp only [go_sem, u_99_112, u_112_99, u_115_112, u_112_115, u_103_108, u_108_103, u_97_99, u_99_97, false_and, numsV, hq, Option.isSome_some, Option.getD_some, dInt, List.map_cons, List.map_nil, many1, many2, many3, many4, many5, key_str, List.all_cons, List.all_nil, Bool.and_true, manyGGa]
    refine drawnT [2, 2, 2, 2, 2, 2, 2, 2, 2, 2, 2, 2, 3, 1, 1, 1, 1] (.alt 12 [2, 2, 2, 2, 2, 0, 0, 0, 0, 0, 0, 0, 0, 3, 1, 1, 1] (.alt 13 [2, 0, 0, 0, 0, 0, 0, 0, 0, 0, 0, 0, 0, 0, 2, 2, 3] (.alt 16 [0, 0, 0, 0, 0, 0, 0, 0, 0, 0, 0, 0, 0, 0, 0, 0, 0] .fin .nil) .nil) .nil) 223 (by kernel_rfl) (by kernel_rfl) (by kernel_rfl) (by kernel_rfl) rfl ?_
    simp only [go_sem, u_99_112, u_112_99, u_115_112, u_112_115, u_103_108, u_108_103, u_97_99, u_99_97, false_and, nC]
    intro nx4 lv4 g7 g8 nx5 lv5 g9 g10
    have ht5 := ht.mono (nx' := nx5) (lv' := lv5) (by simp only at g3; omega) (fun j x => g10 _ (.inr (g8 _ (g4 _ (g2 _ x)))))
    refine ⟨ht5.ok (t := e) (by simp) _ _, by omega, ?_⟩
    intro nx6 lv6 g11 g12 nx7 lv7 g13 g14
    have h9 : TOk nx7 lv7 [a, b, c, d, .own nx5] := ht5.set 4 e rfl (Nat.le_refl _) (by omega) (g14 _ (g12 _ (.inl rfl))) (fun j h1 h2 => g14 _ (g12 _ (.inr ⟨h1, h2⟩)))
    exact ⟨rfl, a, b, c, d, .own nx5, by simp [nC, addI, dPair], h9⟩

set_option maxHeartbeats 4000000 in
set_option maxRecDepth 20000 in
theorem f42_no (n : Net) (k : List UInt8) (hk0 : ¬ k = kSt) (hk1 : ¬ k = kPl) (hk2 : ¬ k = kPo) (hk3 : ¬ k = kCr) (hk4 : ¬ k = kLi) (hk5 : ¬ k = kSi) (hk6 : ¬ k = kGa) (r : List (List UInt8)) (a b c d e : Tok) (nx : Nat) (lv : Nat → Prop) (hn : NetS n) (hr : r.length ≤ 20001) (hw : ∀ w ∈ r, w.length ≤ 20000) (ht : TOk nx lv [a, b, c, d, e]) :
    QCall Tryd.prog 42 ⟨[], [nC n a b c d e], nx, lv⟩ [.ptr (.out 0) 0, .sl 1 ((k :: r).map DV.str) .no] (RLine n (itemOf (k :: r))) := by
  refine QCall.of_body Tryd.func42 rfl Tryd.ntmps42 (congrArg Array.toList Tryd.results42) ?_
  intro E
  obtain ⟨hnm, hsc, hlk, hsg, hgt⟩ := hn
  have hd1 := take_all (r := r)
  have hit : itemOf (k :: r) = none := by
    have h1 : itemOf (k :: r) = restOf k r := by simp [itemOf, hk0, hk1, hk2, hk3]
    rw [h1]
    unfold restOf
    split <;> simp [hk4, hk5, hk6]
  rw [hit]
  have hdw : ∀ w ∈ r, w.length ≤ 4294967296 := fun w hm => by have := hw w hm; omega
  have e0 : (k = [115, 116, 97, 116, 105, 111, 110]) = False := eq_false hk0
  have e1 : (k = [112, 108, 97, 105, 110]) = False := eq_false hk1
  have e2 : (k = [112, 111, 105, 110, 116, 115]) = False := eq_false hk2
  have e3 : (k = [99, 114, 111, 115, 115]) = False := eq_false hk3
  have hm := manyN hk1 hk2 hk3 hk4 hk5 hk6
  simp only [go_sem, u_99_112, u_112_99, u_115_112, u_112_115, u_103_108, u_108_103, u_97_99, u_99_97, false_and, nC, List.map_cons]
  refine drawn (by kernel_rfl) (by kernel_rfl) ?_
  simp only [go_sem, u_99_112, u_112_99, u_115_112, u_112_115, u_103_108, u_108_103, u_97_99, u_99_97, false_and, hd1, e0, e1, e2, e3]
  intro nx1 lv1 g1 g2
  refine callVt (f24 r (by omega) hdw) ?_
  intro nx2 lv2 g3 g4
  cases hq : numsF r with
  | none =>
    simp only [go_sem, u_99_112, u_112_99, u_115_112, u_112_115, u_103_108, u_108_103, u_97_99, u_99_97, false_and, numsV, hq, Option.isSome_none, many1, many2, many3, many4, many5, key_str, List.all_cons, List.all_nil, Bool.and_true, hm]
    exact ⟨rfl, _, _, _, _, _, rfl⟩
  | some l =>
    simp only [go_sem, u_99_112, u_112_99, u_115_112, u_112_115, u_103_108, u_108_103, u_97_99, u_99_97, false_and, numsV, hq, Option.isSome_some, Option.getD_some, many1, many2, many3, many4, many5, key_str, List.all_cons, List.all_nil, Bool.and_true, hm]
    exact ⟨rfl, _, _, _, _, _, rfl⟩

theorem f42 (n : Net) (ws : List (List UInt8)) (a b c d e : Tok) (nx : Nat) (lv : Nat → Prop) (hn : NetS n) (hne : ws ≠ []) (hr : ws.length ≤ 20001) (hw : ∀ w ∈ ws, w.length ≤ 20000) (ht : TOk nx lv [a, b, c, d, e]) :
    QCall Tryd.prog 42 ⟨[], [nC n a b c d e], nx, lv⟩ [.ptr (.out 0) 0, .sl 1 (ws.map DV.str) .no] (RLine n (itemOf ws)) := by
  cases ws with
  | nil => exact absurd rfl hne
  | cons k r =>
    have hr2 : r.length ≤ 20001 := by simp only [List.length_cons] at hr; omega
    have hw2 : ∀ w ∈ r, w.length ≤ 20000 := fun w h => hw w (List.mem_cons_of_mem _ h)
    by_cases h0 : k = kSt
    · subst h0; exact f42_st n r a b c d e nx lv hn hr2 hw2 ht
    by_cases h1 : k = kPl
    · subst h1; exact f42_pl n r a b c d e nx lv hn hr2 hw2 ht
    by_cases h2 : k = kPo
    · subst h2; exact f42_po n r a b c d e nx lv hn hr2 hw2 ht
    by_cases h3 : k = kCr
    · subst h3; exact f42_cr n r a b c d e nx lv hn hr2 hw2 ht
    by_cases h4 : k = kLi
    · subst h4; exact f42_li n r a b c d e nx lv hn hr2 hw2 ht
    by_cases h5 : k = kSi
    · subst h5; exact f42_si n r a b c d e nx lv hn hr2 hw2 ht
    by_cases h6 : k = kGa
    · subst h6; exact f42_ga n r a b c d e nx lv hn hr2 hw2 ht
    exact f42_no n k h0 h1 h2 h3 h4 h5 h6 r a b c d e nx lv hn hr2 hw2 ht
end Go.Proofs.YtkfhieigdlfbeaaDoor
