/-
  The device that goes well, at any number of a sector.
-/
import Derived.Test.YtbnoebdpbpjbkaaLaw1d
namespace Go.Proofs.Ytbnoebdpbpjbkaa
open Go.RowKit Go.Lz

theorem _root_.Go.Lz.write_goodI' {S : DevS} {i : Int} {b : Bytes} (hd : S.dead = false) (h0 : 0 ≤ i) (hk : i < S.n) (hf : S.fuse ≠ 0) (hb : b.length = 64) : S.write i b = (0, S.burned.put i.toNat b) := by
  obtain ⟨k, rfl⟩ := Int.eq_ofNat_of_zero_le h0
  exact write_good hd (by omega) hf hb

theorem read_goodI {w : World} {p : Nat} {S : DevS} {F : Nat → Prop} (h : DevAt Try.prog w p S F) (hd : S.dead = false) {i : Int} (h0 : 0 ≤ i) (hk : i < S.n) : Calls Try.prog 19 #[Dptr p, .int .i64 i] w (ReadGood w p S F (S.now i.toNat)) := by
  obtain ⟨k, rfl⟩ := Int.eq_ofNat_of_zero_le h0
  exact read_good h hd (by omega) rfl

theorem read_dead {w : World} {p : Nat} {S : DevS} {F : Nat → Prop} (h : DevAt Try.prog w p S F) (hd : S.dead = true) (i : Int) : Calls Try.prog 19 #[Dptr p, .int .i64 i] w fun e w' => e = .returned (.tuple #[.slice none 0 0, .int .i64 50]) ∧ w = w' := by
  obtain ⟨lv, m, vs, vf, c, hD⟩ := h
  have hw : S.wrong i = 50 := by simp [DevS.wrong, hd]
  have := read_bad hD i (by rw [hw]; decide)
  rwa [hw] at this

end Go.Proofs.Ytbnoebdpbpjbkaa
