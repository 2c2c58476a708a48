/- Runs of legs: what a leg is. -/
import Derived.Test.YteadhjclchjfjaaGreatRG2
import Derived.Test.YteadhjclchjfjaaGreatL295
namespace Go.Proofs.YteadhjclchjfjaaGreat
set_option linter.unusedSimpArgs false
set_option linter.unusedVariables false
open Go.AB

theorem okN.keep {nx nx' : Nat} {lv lv' : Nat → Prop} {tok : Tok} (k : okN nx lv tok) (hn : nx ≤ nx') (hl : ∀ j, tok = .own j → j < nx → lv j → lv' j) : okN nx' lv' tok := by
  cases tok with
  | no => exact k
  | nil => trivial
  | own i => exact ⟨hl i rfl k.2 k.1, Nat.lt_of_lt_of_le k.2 hn⟩

/-- A path's pieces. -/
def wayP (n : Net) (p : List Stp) : List Piece := p.map fun x => ⟨(pcF n x).l, (pcF n x).g, (pcF n x).v⟩
theorem wayP_eq (n : Net) (p : List Stp) : (p.map (pcF n)).map dPc = (wayP n p).map dPiece := by
  simp [wayP, dPc, dPiece]
def endsW (way : List Piece) : List Int := (List.range way.length).map fun i => pre way (i + 1)
/-- How many steps there are ahead of each route. -/
def bndL (L : List Rt) (leg : List Int) : List Int := (List.range (leg.length + 1)).map fun i => 1 + (((leg.take i).flatMap fun k => (rtAt L k).st).length : Int)
def fromV (s : Stock) (way : List Piece) (turned : Bool) : Int := if turned = true then 100 * s.len else pre way 1
/-- A leg's run without the seconds in which its routes are asked for. -/
def legB (n : Net) (L : List Rt) (s : Stock) (tr : Int) (leg : List Int) (turned : Bool) : Leg :=
  ⟨100 * s.len, legPath n L tr leg, endsW (wayP n (legPath n L tr leg)), bndL L leg, leg.map fun k => needsR n (rtAt L k), [],
    goL s (wayP n (legPath n L tr leg)) (total (wayP n (legPath n L tr leg))) s.top (fromV s (wayP n (legPath n L tr leg)) turned)⟩
def asksB (r : Leg) (fr far : Int) (k : Nat) : List Int := (List.range k).map fun j => askF r j fr far
def legR (n : Net) (L : List Rt) (s : Stock) (tr : Int) (leg : List Int) (turned : Bool) : Leg :=
  ⟨100 * s.len, legPath n L tr leg, endsW (wayP n (legPath n L tr leg)), bndL L leg, leg.map fun k => needsR n (rtAt L k),
    asksB (legB n L s tr leg turned) (fromV s (wayP n (legPath n L tr leg)) turned) (askS s) leg.length,
    goL s (wayP n (legPath n L tr leg)) (total (wayP n (legPath n L tr leg))) s.top (fromV s (wayP n (legPath n L tr leg)) turned)⟩
def leg0 : Leg := ⟨0, [], [], [], [], [], []⟩
def shortL (n : Net) (s : Stock) (x : Int) : Bool := decide (((n.sects[x.toNat]?).map Sect.len).getD 0 < s.len + 2)
/-- The error of a leg that may be. -/
def runLE (n : Net) (L : List Rt) (s : Stock) (tr : Int) (leg : List Int) (turned : Bool) : Int :=
  if (shortL n s tr || shortL n s (lastS L leg)) = true then 2
  else goE s (wayP n (legPath n L tr leg)) (total (wayP n (legPath n L tr leg))) s.top (fromV s (wayP n (legPath n L tr leg)) turned)
def legErr (n : Net) (s : Stock) (tr : Int) (leg : List Int) (turned : Bool) : Int :=
  if netE n ≠ 0 then netE n else if checkS s ≠ 0 then checkS s else if netRE n ≠ 0 then netRE n else if legV n (netRts n) tr leg ≠ 0 then legV n (netRts n) tr leg else runLE n (netRts n) s tr leg turned

theorem bndL_take (L : List Rt) (leg : List Int) (i : Nat) (hi : i < leg.length) : bndL L (leg.take (i + 1)) = bndL L (leg.take i) ++ [1 + (((leg.take (i + 1)).flatMap fun k => (rtAt L k).st).length : Int)] := by
  unfold bndL
  have h1 : (leg.take (i + 1)).length = i + 1 := by rw [List.length_take]; omega
  have h2 : (leg.take i).length = i := by rw [List.length_take]; omega
  rw [h1, h2, List.range_succ, List.map_append, List.map_cons, List.map_nil]
  congr 1
  · refine List.map_congr_left fun j hj => ?_
    have := List.mem_range.1 hj
    rw [List.take_take, List.take_take, Nat.min_eq_left (by omega), Nat.min_eq_left (by omega)]
  · rw [List.take_take, Nat.min_self]
theorem endsW_take (way : List Piece) (i : Nat) (hi : i < way.length) : endsW (way.take (i + 1)) = endsW (way.take i) ++ [pre way (i + 1)] := by
  unfold endsW
  have h1 : (way.take (i + 1)).length = i + 1 := by rw [List.length_take]; omega
  have h2 : (way.take i).length = i := by rw [List.length_take]; omega
  rw [h1, h2, List.range_succ, List.map_append, List.map_cons, List.map_nil]
  congr 1
  · refine List.map_congr_left fun j hj => ?_
    have := List.mem_range.1 hj
    unfold pre
    rw [List.take_take, List.take_take, Nat.min_eq_left (by omega), Nat.min_eq_left (by omega)]
  · unfold pre
    rw [List.take_take, Nat.min_self]
end Go.Proofs.YteadhjclchjfjaaGreat
