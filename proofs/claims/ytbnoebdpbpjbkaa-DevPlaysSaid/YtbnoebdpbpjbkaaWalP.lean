/-
  Rows of device calls, one behind the other: the store's log and its way home, plain.
-/
import Derived.Test.YtbnoebdpbpjbkaaWalS
import Derived.Test.YtbnoebdpbpjbkaaWal3
namespace Go.Lz
open Go.RowKit

/-- One call, then (if it went well) more. -/
def seqD (r : Int × DevS) (k : DevS → Int × DevS) : Int × DevS := if r.1 = 0 then k r.2 else r

theorem seqD_zero (D : DevS) (k : DevS → Int × DevS) : seqD (0, D) k = k D := rfl
theorem seqD_fail {r : Int × DevS} (h : r.1 ≠ 0) (k : DevS → Int × DevS) : seqD r k = r := if_neg h
theorem seqD_ok {r : Int × DevS} (h : r.1 = 0) (k : DevS → Int × DevS) : seqD r k = k r.2 := if_pos h

/-- Sectors written one behind the other. -/
def DevS.writeL (D : DevS) : List (Int × Bytes) → Int × DevS
  | [] => (0, D)
  | x :: l => seqD (D.write x.1 x.2) fun D' => D'.writeL l

theorem DevS.writeL_append (D : DevS) (l m : List (Int × Bytes)) : D.writeL (l ++ m) = seqD (D.writeL l) fun D' => D'.writeL m := by
  induction l generalizing D with
  | nil => rfl
  | cons x l ih =>
    show seqD (D.write x.1 x.2) _ = seqD (seqD (D.write x.1 x.2) _) _
    by_cases h : (D.write x.1 x.2).1 = 0
    · rw [seqD_ok h, seqD_ok h]
      exact ih _
    · rw [seqD_fail h, seqD_fail h, seqD_fail h]

theorem DevS.writeL_step {D D' : DevS} {l : List (Int × Bytes)} {j : Nat} (h : D.writeL (l.take j) = (0, D')) {x : Int × Bytes} (hx : l[j]? = some x) : D.writeL (l.take (j + 1)) = D'.write x.1 x.2 := by
  rw [List.take_add_one, hx, DevS.writeL_append, h]
  show seqD (D'.write x.1 x.2) (fun D' => (0, D')) = _
  by_cases h2 : (D'.write x.1 x.2).1 = 0
  · rw [seqD_ok h2]
    exact Prod.ext h2.symm rfl
  · rw [seqD_fail h2]

theorem DevS.writeL_stop {D D' : DevS} {l : List (Int × Bytes)} {j : Nat} (h : D.writeL (l.take j) = (0, D')) {x : Int × Bytes} (hx : l[j]? = some x) (hr : (D'.write x.1 x.2).1 ≠ 0) : D.writeL l = D'.write x.1 x.2 := by
  have h1 := DevS.writeL_step h hx
  have h2 : l = l.take (j + 1) ++ l.drop (j + 1) := (List.take_append_drop _ _).symm
  rw [h2, DevS.writeL_append, h1, seqD_fail hr]

/-- Where the sectors of f go home. -/
def homeL (f : Nat → Option Bytes) (n : Nat) : List (Int × Bytes) := (keysF f n).map fun (k : Nat) => (300 + (k : Int), (f k).getD [])
def DevS.home (D : DevS) (f : Nat → Option Bytes) (n : Nat) : Int × DevS :=
  seqD (seqD (seqD (D.writeL (homeL f n)) DevS.flush) fun D => D.write 0 (headB 0)) DevS.flush

/-- The numbers as bytes; the i-th sector of them. -/
def numsB (l : List Nat) : Bytes := l.flatMap fun (k : Nat) => fourB (k : Int)
def pieceB (b : Bytes) (i : Nat) : Bytes := ((b.drop (64 * i)).take 64) ++ List.replicate (64 - ((b.drop (64 * i)).take 64).length) 0
def logL (f : Nat → Option Bytes) (n : Nat) : List (Int × Bytes) :=
  ((keysF f n).zipIdx.map fun (x : Nat × Nat) => (17 + (x.2 : Int), (f x.1).getD [])) ++ (List.range ((4 * (keysF f n).length + 63) / 64)).map fun (i : Nat) => (1 + (i : Int), pieceB (numsB (keysF f n)) i)
def DevS.log (D : DevS) (f : Nat → Option Bytes) (n : Nat) : Int × DevS :=
  seqD (seqD (seqD (D.writeL (logL f n)) DevS.flush) fun D => D.write 0 (headB ((keysF f n).length : Int))) DevS.flush
end Go.Lz
