/-
  The store's log.
-/
import Derived.Test.YtjngphffgdjcfaaGreatDoorMExWal4
import Derived.Laws.CopyOwn
import Derived.Test.YtjngphffgdjcfaaGreatDoorME3
import Derived.ScopeJumps
import Derived.WalkMore
import Derived.Maps.AppendAt
namespace Go.Proofs.YtjngphffgdjcfaaGreatDoor
open Go.RowKit Go.Lz

/-- Where the run jumps to the end: slot 5 holds the error. (The frame written out.) -/
def LogJ (w : World) (q : Nat) (r : Int × DevS) (Fd : Nat → Prop) (a : Act) (w' : World) : Prop :=
  ∃ (er : Int) (x0 x1 x2 x3 x4 x6 x7 x8 x9 x10 x11 x12 x13 x14 x15 x16 x17 x18 x19 x20 x21 x22 x23 x24 x25 x26 x27 x28 x29 x30 x31 x32 x33 x34 x35 x36 x37 x38 x39 x40 x41 x42 x43 x44 x45 x46 x47 x48 x49 x50 x51 x52 x53 x54 x55 x56 x57 x58 x59 x60 x61 x62 x63 x64 x65 x66 x67 x68 x69 x70 x71 x72 x73 x74 x75 x76 x77 x78 x79 x80 x81 x82 x83 x84 x85 x86 : Value), a = { tmps := #[x0, x1, x2, x3, x4, .int .i64 er, x6, x7, x8, x9, x10, x11, x12, x13, x14, x15, x16, x17, x18, x19, x20, x21, x22, x23, x24, x25, x26, x27, x28, x29, x30, x31, x32, x33, x34, x35, x36, x37, x38, x39, x40, x41, x42, x43, x44, x45, x46, x47, x48, x49, x50, x51, x52, x53, x54, x55, x56, x57, x58, x59, x60, x61, x62, x63, x64, x65, x66, x67, x68, x69, x70, x71, x72, x73, x74, x75, x76, x77, x78, x79, x80, x81, x82, x83, x84, x85, x86], defers := [] } ∧ ErrPost w q r Fd (.returned (.int .i64 er)) w'

/-- The first j sectors are written; x holds the bytes Tryz. -/
def LogRel (w1 wr : World) (q : Nat) (D0 D : DevS) (Fd : Nat → Prop) (L : List (Int × Bytes)) (j : Nat) (xv : Value) (bs : Bytes) : Prop :=
  ∃ Fd', DevAt Tryz.prog wr q D Fd' ∧ (∀ k, Fd' k → Fd k ∨ w1.heap.size ≤ k) ∧ Chg Fd w1 wr ∧ D0.writeL (L.take j) = (0, D) ∧ wr.ownsRow w1.heap.size 5 1 xv bs.length (bs.map u8v) ∧ ∀ g, xv.ownBlock = some g → ¬ Fd' g

/-- The first j sectors are written; xv holds what is left of the bytes behind i pieces. -/
def PieceRel (w1 wr : World) (q : Nat) (D0 D : DevS) (Fd : Nat → Prop) (L : List (Int × Bytes)) (j : Nat) (xv : Value) (bs : Bytes) (i gx : Nat) : Prop :=
  ∃ Fd', DevAt Tryz.prog wr q D Fd' ∧ (∀ k, Fd' k → Fd k ∨ w1.heap.size ≤ k) ∧ Chg Fd w1 wr ∧ D0.writeL (L.take j) = (0, D) ∧ ¬ Fd' gx ∧ (∃ ax rem cx, xv = .slice ax rem cx ∧ rem = bs.length - 64 * i) ∧ (64 * i < bs.length → Src 5 wr (· = gx) xv (bs.drop (64 * i)))

theorem numsB_length (l : List Nat) : (numsB l).length = 4 * l.length := by
  induction l with
  | nil => rfl
  | cons k l ih => simp only [numsB, List.flatMap_cons, List.length_append, List.length_cons] at ih ⊢; rw [ih]; simp [fourB]; omega
theorem numsB_snoc (l : List Nat) (k : Nat) : numsB (l ++ [k]) = numsB l ++ fourB (k : Int) := by simp [numsB]

section
variable {w : World} {p q : Nat} {D : DevS} {Fd Fl : Nat → Prop} {m c n : Nat} {f : Nat → Option Bytes} {vf : Nat → Option Value}

end
end Go.Proofs.YtjngphffgdjcfaaGreatDoor
