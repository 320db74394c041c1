/-
  A script: a list of calls of six fields each.
-/
import Derived.Test.YtbnoebdpbpjbkaaBase
namespace Go.Lz
open Go.RowKit

/-- A call of a script. -/
structure OpR where
  kind : Int
  i : Int
  a : Int
  size : Int
  flip : Bool
  l : List Int
deriving Inhabited

def i64 (x : Int) : Prop := -9223372036854775808 ≤ x ∧ x ≤ 9223372036854775807
/-- The call lies at cell off of block b. -/
structure OpAt (w : World) (F : Nat → Prop) (b off : Nat) (o : OpR) : Prop where
  c0 : w.cell? ⟨b, off, none⟩ = some (.int .i64 o.kind)
  c1 : w.cell? ⟨b, off + 1, none⟩ = some (.int .i64 o.i)
  c2 : w.cell? ⟨b, off + 2, none⟩ = some (.int .i64 o.a)
  c3 : w.cell? ⟨b, off + 3, none⟩ = some (.int .i64 o.size)
  c4 : w.cell? ⟨b, off + 4, none⟩ = some (.bool o.flip)
  c5 : ∃ v, w.cell? ⟨b, off + 5, none⟩ = some v ∧ IntsAt w F v o.l
  wf : i64 o.kind ∧ i64 o.i ∧ i64 o.a ∧ i64 o.size

/-- v is a slice of these calls. -/
def OpsAt (w : World) (F : Nat → Prop) (v : Value) (os : List OpR) : Prop :=
  ∃ a n c, v = .slice a n c ∧ os.length = n ∧ n ≤ 9223372036854775807 ∧ (n = 0 ∨ ∃ b off, a = some ⟨b, off, none⟩ ∧ F b ∧ b < w.heap.size ∧ ∀ j, j < n → OpAt w F b (off + j * 6) (os.getD j default))

theorem OpAt.below {w w' : World} {F : Nat → Prop} {b off : Nat} {o : OpR} (h : OpAt w F b off o) (hb : b < w.heap.size) (hB : Below w.heap.size w w') : OpAt w' F b off o := by
  have hc : ∀ k, w'.cell? ⟨b, k, none⟩ = w.cell? ⟨b, k, none⟩ := fun k => hB.cell (p := ⟨b, k, none⟩) hb
  refine ⟨(hc _).trans h.c0, (hc _).trans h.c1, (hc _).trans h.c2, (hc _).trans h.c3, (hc _).trans h.c4, ?_, h.wf⟩
  obtain ⟨v, h1, h2⟩ := h.c5
  exact ⟨v, (hc _).trans h1, h2.heap hB.size fun k _ hk => hB.block k hk⟩
end Go.Lz
