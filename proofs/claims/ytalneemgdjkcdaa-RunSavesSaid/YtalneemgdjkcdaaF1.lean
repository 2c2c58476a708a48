/- The states of a run. -/
import Derived.Test.YtalneemgdjkcdaaE8
import Derived.Test.YtalneemgdjkcdaaB31
namespace Go.Proofs.Ytalneemgdjkcdaa
open Go.AB

/-- The states of a run, one by one. -/
def stAt (s : Stock) (way : List Piece) (fin top a : Int) : Nat → Sta
  | 0 => ⟨a, 0, 0⟩
  | k + 1 => nextF s way (stAt s way fin top a k) fin top
def doneS (fin : Int) (x : Sta) : Bool := decide (x.v = 0) && decide (fin - x.pos ≤ 100)
def firstK (p : Nat → Bool) : Nat → Nat → Option Nat
  | 0, _ => none
  | f + 1, k => if p k = true then some k else firstK p f (k + 1)
/-- When a run ends. -/
def goN (s : Stock) (way : List Piece) (fin top a : Int) : Option Nat := firstK (fun k => doneS fin (stAt s way fin top a k)) 3601 0
def hist (f : Nat → Sta) (n : Nat) : List Sta := (List.range n).map f
def ended (fin : Int) (x : Sta) : Sta := ⟨fin, x.v, x.work⟩
/-- The states of a run that ends in time. -/
def goL (s : Stock) (way : List Piece) (fin top a : Int) : List Sta := match goN s way fin top a with
  | some k => hist (stAt s way fin top a) k ++ [ended fin (stAt s way fin top a k)]
  | none => []

def staC (x : Sta) : List AV := [.int .i64 x.pos, .int .i64 x.v, .int .i64 x.work]
def cellsS (l : List Sta) : List AV := l.flatMap staC
theorem cellsS_len (l : List Sta) : (cellsS l).length = l.length * 3 := by
  induction l with
  | nil => rfl
  | cons x l ih =>
    simp only [cellsS, List.flatMap_cons, List.length_append, List.length_cons] at ih ⊢
    rw [ih]
    simp only [staC, List.length_cons, List.length_nil]
    omega
theorem cellsS_app (l r : List Sta) : cellsS (l ++ r) = cellsS l ++ cellsS r := by simp [cellsS]
theorem cellsS_one (x : Sta) : cellsS [x] = staC x := by simp [cellsS]
theorem toDs_app : ∀ {a b : List AV} {x y : List DV}, toDs a = some x → toDs b = some y → toDs (a ++ b) = some (x ++ y)
  | [], b, x, y, h, k => by cases h; exact k
  | c :: a, b, x, y, h, k => by
    simp only [toDs] at h
    split at h
    · cases h
    · rename_i d hd
      split at h
      · cases h
      · rename_i ds hds
        cases h
        have := toDs_app hds k
        simp only [List.cons_append, toDs, hd, this]
theorem toDs_cellsS (l : List Sta) : toDs (cellsS l) = some ((l.map dSta).flatMap dcells) := by
  induction l with
  | nil => rfl
  | cons x l ih =>
    have h1 : toDs (staC x) = some (dcells (dSta x)) := rfl
    have := toDs_app h1 ih
    simpa [cellsS] using this
theorem hist_succ (f : Nat → Sta) (n : Nat) : hist f (n + 1) = hist f n ++ [f n] := by simp [hist, List.range_succ]
theorem hist_len (f : Nat → Sta) (n : Nat) : (hist f n).length = n := by simp [hist]

/-- What is known of the states of a run so far. -/
structure Cells (f : Nat → Sta) (k : Nat) (c : Nat) (cs : List AV) : Prop where
  le : k + 1 ≤ c
  len : cs.length = c * 3
  old : cs.take (k * 3) = cellsS (hist f k)
  now : cs.drop (k * 3) = staC (f k) ++ cs.drop ((k + 1) * 3)
theorem Cells.take {f : Nat → Sta} {k c : Nat} {cs : List AV} (h : Cells f k c cs) : cs.take ((k + 1) * 3) = cellsS (hist f (k + 1)) := by
  rw [hist_succ, cellsS_app, cellsS_one, ← h.old]
  have e : (k + 1) * 3 = k * 3 + 3 := by omega
  rw [e, List.take_add, h.now]
  rfl
theorem Cells.first (f : Nat → Sta) : Cells f 0 1 (staC (f 0)) := ⟨Nat.le_refl _, rfl, rfl, rfl⟩
theorem Cells.next {f : Nat → Sta} {k c c' : Nat} {cs sp : List AV} (h : Cells f k c cs) (hc : k + 1 + 1 ≤ c') (hs : sp.length = (c' - (k + 1 + 1)) * 3) : Cells f (k + 1) c' (cs.take ((k + 1) * 3) ++ staC (f (k + 1)) ++ sp) := by
  have hl : (cs.take ((k + 1) * 3)).length = (k + 1) * 3 := by
    rw [List.length_take, h.len]
    have := h.le
    omega
  have hl2 : (staC (f (k + 1))).length = 3 := rfl
  refine ⟨hc, ?_, ?_, ?_⟩
  · rw [List.length_append, List.length_append, hl, hl2, hs]
    omega
  · rw [List.append_assoc, List.take_left' hl, h.take]
  · rw [List.append_assoc, List.drop_left' hl]
    congr 1
    have e : (k + 1 + 1) * 3 = (k + 1) * 3 + 3 := by omega
    rw [e, ← List.drop_drop, List.drop_left' hl, List.drop_left' hl2]
theorem Cells.d0 {f : Nat → Sta} {k c : Nat} {cs : List AV} (h : Cells f k c cs) : cs.drop (0 + k * 3) = .int .i64 (f k).pos :: .int .i64 (f k).v :: .int .i64 (f k).work :: cs.drop ((k + 1) * 3) := by
  rw [Nat.zero_add]; exact h.now
theorem Cells.d1 {f : Nat → Sta} {k c : Nat} {cs : List AV} (h : Cells f k c cs) : cs.drop (0 + k * 3 + 1) = .int .i64 (f k).v :: .int .i64 (f k).work :: cs.drop ((k + 1) * 3) := by
  rw [← List.drop_drop, h.d0]; rfl
theorem Cells.t0 {f : Nat → Sta} {k c : Nat} {cs : List AV} (h : Cells f k c cs) : cs.take (0 + k * 3) = cellsS (hist f k) := by
  rw [Nat.zero_add]; exact h.old
/-- The last state is at the end. -/
theorem Cells.fin {f : Nat → Sta} {k c : Nat} {cs : List AV} (h : Cells f k c cs) (fin : Int) : (cs.take (0 + k * 3) ++ [AV.int .i64 fin] ++ cs.drop (0 + k * 3 + 1)).take ((k + 1) * 3) = cellsS (hist f k ++ [ended fin (f k)]) ∧
    (cs.take (0 + k * 3) ++ [AV.int .i64 fin] ++ cs.drop (0 + k * 3 + 1)).length = c * 3 := by
  have hl : (cellsS (hist f k)).length = k * 3 := by rw [cellsS_len, hist_len]
  rw [h.t0, h.d1, cellsS_app, cellsS_one]
  refine ⟨?_, ?_⟩
  · have e : (k + 1) * 3 = k * 3 + 3 := by omega
    rw [e, List.append_assoc, List.take_add, List.take_left' hl, List.drop_left' hl]
    rfl
  · have h1 := congrArg List.length h.now
    have h2 := h.len
    have h3 := h.le
    simp only [List.length_drop, List.length_append, staC, List.length_cons, List.length_nil] at h1
    simp only [List.length_append, List.length_cons, List.length_nil, hl, List.length_drop]
    omega

theorem stAt_ok {s : Stock} {way : List Piece} {fin top a : Int} (hc : checkS s = 0) (hw : way.all pieceOk = true) (ht : top ≤ 6000) (h0 : 0 ≤ a) (h1 : a ≤ 18000000) : ∀ k : Nat, k ≤ 3601 → StaOk (stAt s way fin top a k) (73200000000 * k) ∧ (stAt s way fin top a k).pos ≤ a + 6000 * k
  | 0, _ => ⟨⟨by simp only [stAt]; omega, by simp only [stAt]; omega, by simp [stAt], by simp [stAt], by simp [stAt], by simp [stAt]⟩, by simp [stAt]⟩
  | k + 1, hk => by
    obtain ⟨g1, g2⟩ := stAt_ok (fin := fin) (top := top) hc hw ht h0 h1 k (by omega)
    obtain ⟨g3, g4⟩ := next_ok (fin := fin) (top := top) hc g1 hw ht (by omega)
    simp only [stAt]
    refine ⟨?_, by push_cast; omega⟩
    have e : 73200000000 * ((k + 1 : Nat) : Int) = 73200000000 * (k : Int) + 73200000000 := by push_cast; omega
    rw [e]; exact g3

theorem firstK_hit {p : Nat → Bool} {n k : Nat} {r : Option Nat} (h : p k = true) (g : firstK p (n + 1 - k) k = r) (hk : k ≤ n) : r = some k := by
  have e : n + 1 - k = (n - k) + 1 := by omega
  rw [e] at g
  simp only [firstK, h, if_true] at g
  exact g.symm
theorem firstK_go {p : Nat → Bool} {n k : Nat} {r : Option Nat} (h : p k = false) (g : firstK p (n + 1 - k) k = r) (hk : k ≤ n) : firstK p (n + 1 - (k + 1)) (k + 1) = r := by
  have e : n + 1 - k = (n + 1 - (k + 1)) + 1 := by omega
  rw [e] at g
  simpa [firstK, h] using g
theorem firstK_end {p : Nat → Bool} {n k : Nat} {r : Option Nat} (g : firstK p (n + 1 - k) k = r) (hk : n < k) : r = none := by
  have e : n + 1 - k = 0 := by omega
  rw [e] at g
  exact g.symm
end Go.Proofs.Ytalneemgdjkcdaa
