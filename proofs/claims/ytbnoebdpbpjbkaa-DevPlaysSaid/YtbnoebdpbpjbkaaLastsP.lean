/-
  DevLasts, the plain law: what lasts and what is now of each sector, by the kinds that were written.
-/
import Derived.Test.YtbnoebdpbpjbkaaLaw1e
import Derived.Test.YtbnoebdpbpjbkaaArr
namespace Go.Lz
open Go.RowKit

/-- A sector of a kind; none: noughts. -/
def wantB (x : Int) : Bytes := if 0 < x then bytesOf x 64 else zero64

/-- Each of the eight sectors lasts as f says and is now as g says. -/
structure GoodL (S : DevS) (f g : Nat → Int) : Prop where
  n : S.n = 8
  dead : S.dead = false
  fuse : S.fuse = -1
  last : ∀ k, k < 8 → S.last k = wantB (f k)
  now : ∀ k, k < 8 → S.now k = wantB (g k)

theorem GoodL.new : GoodL (DevS.new 8) (fun _ => 0) (fun _ => 0) := ⟨rfl, rfl, rfl, fun _ _ => rfl, fun _ _ => rfl⟩

theorem GoodL.put {S : DevS} {f g : Nat → Int} (h : GoodL S f g) {k : Nat} {x : Int} (hx : 0 < x) : GoodL (S.burned.put k (bytesOf x 64)) f (upd g k x) := by
  refine ⟨h.n, h.dead, by show max (S.fuse - 1) (-1) = -1; rw [h.fuse]; rfl, h.last, fun j hj => ?_⟩
  by_cases e : j = k
  · subst e
    simp [DevS.now, DevS.put, wantB, hx]
  · have := h.now j hj
    simpa [DevS.now, DevS.put, DevS.burned, upd_other _ e] using this

theorem GoodL.flushed {S : DevS} {f g : Nat → Int} (h : GoodL S f g) : GoodL S.burned.flushed g g :=
  ⟨h.n, h.dead, by show max (S.fuse - 1) (-1) = -1; rw [h.fuse]; rfl, h.now, h.now⟩

theorem GoodL.write {S : DevS} {f g : Nat → Int} (h : GoodL S f g) {i : Int} (h0 : 0 ≤ i) (h1 : i < 8) {b : Bytes} (hb : b.length = 64) : S.write i b = (0, S.burned.put i.toNat b) :=
  write_goodI' h.dead h0 (by rw [h.n]; exact h1) (by rw [h.fuse]; decide) hb

theorem GoodL.flush {S : DevS} {f g : Nat → Int} (h : GoodL S f g) : S.flush = (0, S.burned.flushed) := by
  simp [DevS.flush, h.dead, h.fuse]

/-- Behind the crash. -/
structure GoodC (S : DevS) (f : Nat → Int) : Prop where
  n : S.n = 8
  dead : S.dead = false
  wait : S.wait = fun _ => none
  now : ∀ k, k < 8 → S.now k = wantB (f k)

theorem GoodL.crashed {S : DevS} {f g : Nat → Int} (h : GoodL S f g) (flip : Bool) (l : List Int) : GoodC (S.crashed flip l) (fun k => if (decide ((k : Int) ∈ l)) != flip then g k else f k) := by
  refine ⟨h.n, rfl, rfl, fun k hk => ?_⟩
  show (if (decide ((k : Int) ∈ l)) != flip then S.now k else S.last k) = _
  by_cases e : ((decide ((k : Int) ∈ l)) != flip) = true
  · rw [if_pos e]; simp only [e, if_true]; exact h.now k hk
  · rw [if_neg e]; simp only [e]; exact h.last k hk

theorem GoodC.counted {S : DevS} {f : Nat → Int} (h : GoodC S f) : GoodC S.counted f := ⟨h.n, h.dead, h.wait, h.now⟩
theorem GoodC.waiting {S : DevS} {f : Nat → Int} (h : GoodC S f) : S.waiting = [] := by simp [DevS.waiting, h.wait]
end Go.Lz
