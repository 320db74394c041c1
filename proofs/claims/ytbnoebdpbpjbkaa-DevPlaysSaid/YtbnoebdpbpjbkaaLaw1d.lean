/-
  What the document fixes of layer 1: awake answers true.
-/
import Derived.Test.YtbnoebdpbpjbkaaLaw1c
namespace Go.Proofs.Ytbnoebdpbpjbkaa
open Go.RowKit Go.Lz

theorem bytes64 (w : World) (k : Int) : Buf 5 (w.alloc (bobj w (bytesOf k 64))).drew w.heap.size (.slice (some ⟨w.heap.size, 0, none⟩) 64 (bcap w (bytesOf k 64))) (bytesOf k 64) := by
  have h := bytes_buf w (bytesOf k 64) (by simp)
  rw [bytesOf_length] at h
  exact h

theorem bytes_chg (w : World) (b : Bytes) (M : Nat → Prop) : Chg M w (w.alloc (bobj w b)).drew := ((Chg.refl M w).alloc _).drew

theorem _root_.Go.Lz.DevAt.below {P : Program} {w w' : World} {p : Nat} {S : DevS} {F : Nat → Prop} (h : DevAt P w p S F) (hb : Below w.heap.size w w') : DevAt P w' p S F := h.chg (M := fun _ => False) (Chg.of_below hb) (fun _ _ h => h)

theorem write_good {S : DevS} {k : Nat} {b : Bytes} (hd : S.dead = false) (hk : k < S.n) (hf : S.fuse ≠ 0) (hb : b.length = 64) : S.write (k : Int) b = (0, S.burned.put k b) := by
  have h1 : S.wrong (k : Int) = 0 := by simp [DevS.wrong, hd]; omega
  simp [DevS.write, h1, hb, hf]

/-- One number in a new row. -/
theorem ints_one (w : World) (x : Int) (F : Nat → Prop) (hF : F w.heap.size) : IntsAt (w.alloc (.cells #[.int .i64 x] 3)) F (.slice (some ⟨w.heap.size, 0, none⟩) 1 1) [x] :=
  ⟨_, 1, 1, rfl, rfl, by omega, .inr ⟨w.heap.size, 0, rfl, hF, by simp, fun j hj => by
    obtain rfl : j = 0 := by omega
    rw [cell_of (heap_alloc_new w _)]
    rfl⟩⟩

/-- A read that goes well. -/
def ReadGood (w : World) (p : Nat) (S : DevS) (F : Nat → Prop) (b : Bytes) (e : Ending) (w' : World) : Prop :=
  ∃ v g, e = .returned (.tuple #[v, .int .i64 0]) ∧ Buf 5 w' g v b ∧ w.heap.size ≤ g ∧ DevAt Try.prog w' p S.counted F ∧ Chg F w w'

theorem read_good {w : World} {p : Nat} {S : DevS} {F : Nat → Prop} (h : DevAt Try.prog w p S F) (hd : S.dead = false) {k : Nat} (hk : k < S.n) {b : Bytes} (hb : S.now k = b) : Calls Try.prog 19 #[Dptr p, .int .i64 (k : Int)] w (ReadGood w p S F b) := by
  subst hb
  obtain ⟨lv, m, vs, vf, c, hD⟩ := h
  refine (read_ok hD hd hk).mono ?_
  rintro e w' ⟨v, g, rfl, h2, h3, h4, h5⟩
  obtain ⟨g', rfl, h6⟩ := h2.buf
  exact ⟨v, g', rfl, h6, h3, h4.at_, h5.mono fun j _ e => by subst e; exact hD.Fp⟩

set_option maxHeartbeats 1000000 in
theorem awake1_any (w : World) : Calls Try.prog 25 #[] w fun e w' => e = .returned (.bool true) ∧ Below w.heap.size w w' := by
  have hcv := run_bytes
  go_enter Try.func25, Try.ntmps25
  go_wp2_with fail
  refine (new_ok w 2 (by omega)).mono ?_
  rintro e w1 ⟨p, rfl, hD1, hB1⟩
  go_wp2_with fail
  refine (bytes_any 3 64 w1 (by omega) (by omega)).mono ?_
  rintro e w2 ⟨rfl, hB2⟩
  go_wp2_with fail
  have hD2 := (hD1.below hB2).chg (M := fun _ => False) (bytes_chg w2 (bytesOf 3 64) _) (fun _ _ h => h)
  have hw1 := write_any hD2 (bytes64 w2 3).src ((1 : Nat) : Int)
  rw [write_good rfl (by decide) (by decide) (by simp)] at hw1
  refine hw1.mono ?_
  rintro e w3 ⟨rfl, hD3, hC3⟩
  clear hw1
  go_wp2_with fail
  have hs1 := hB1.size
  have hs2 := hB2.size
  have hs3 : w2.heap.size + 1 ≤ w3.heap.size := by have := hC3.size; simpa using this
  have hD3' := hD3.below ((Below.refl _ w3).alloc (Nat.le_refl _) (.cells #[.int .i64 0] 3))
  refine (crash_any' hD3' false (ints_one w3 0 (· = w3.heap.size) rfl) (fun k hk => by subst hk; simp only [ext]; simp; omega)).mono ?_
  rintro e w4 ⟨rfl, hD4, hC4⟩
  go_wp2_with fail
  refine (read_good hD4 rfl (k := 1) (by decide) (b := zero64) rfl).mono ?_
  rintro e w5 ⟨x, gx, rfl, hx, hgx, hD5, hC5⟩
  go_wp2_with fail
  refine (bytes_any 3 64 w5 (by omega) (by omega)).mono ?_
  rintro e w6 ⟨rfl, hB6⟩
  go_wp2_with fail
  have hD6 := (hD5.below hB6).chg (M := fun _ => False) (bytes_chg w6 (bytesOf 3 64) _) (fun _ _ h => h)
  have hw1 := write_any hD6 (bytes64 w6 3).src ((1 : Nat) : Int)
  rw [write_good rfl (by decide) (by decide) (by simp)] at hw1
  refine hw1.mono ?_
  rintro e w7 ⟨rfl, hD7, hC7⟩
  clear hw1
  go_wp2_with fail
  have hs4 : w3.heap.size + 1 ≤ w4.heap.size := by have := hC4.size; simpa using this
  have hs5 := hC5.size
  have hs6 := hB6.size
  have hs7 : w6.heap.size + 1 ≤ w7.heap.size := by have := hC7.size; simpa using this
  have hD7' := hD7.below ((Below.refl _ w7).alloc (Nat.le_refl _) (.cells #[.int .i64 0] 3))
  have hxl := hx.lt
  refine (crash_any' hD7' true (ints_one w7 0 (· = w7.heap.size) rfl) (fun k hk => by subst hk; simp only [ext]; simp; omega)).mono ?_
  rintro e w8 ⟨rfl, hD8, hC8⟩
  have hs8 : w7.heap.size + 1 ≤ w8.heap.size := by have := hC8.size; simpa using this
  go_wp2_with fail
  refine (read_good hD8 rfl (k := 1) (by decide) (b := bytesOf 3 64) rfl).mono ?_
  rintro e w9 ⟨y, gy, rfl, hy, hgy, hD9, hC9⟩
  have hs9 := hC9.size
  have hx9 : Buf 5 w9 gx x zero64 := by
    have h6 := (hx.chg (M := fun _ => False) (Chg.of_below hB6) (by simp)).chg (bytes_chg w6 (bytesOf 3 64) (fun _ => False)) (by simp)
    have h7 := (h6.chg hC7 (by simp only [ext]; simp; omega)).chg (M := fun _ => False) ((Chg.refl _ w7).alloc (.cells #[.int .i64 0] 3)) (by simp)
    have h8 := h7.chg hC8 (by simp only [ext]; simp; omega)
    exact h8.chg hC9 (by simp only [ext]; simp; omega)
  go_wp2_with fail
  have hB9 : Below w.heap.size w w9 := by
    have c2 := (Chg.of_below (M := fun j => w.heap.size ≤ j) (hB1.trans (hB2.mono hs1))).trans (bytes_chg w2 (bytesOf 3 64) (fun j => w.heap.size ≤ j)) (fun _ _ h => h)
    have c3 := c2.trans hC3 (fun j hj h => by (try simp [ext] at h); omega)
    have c4 := (c3.alloc (.cells #[.int .i64 0] 3)).trans hC4 (fun j hj h => by (try simp [ext] at h); omega)
    have c5 := (c4.trans hC5 (fun j hj h => by (try simp [ext] at h); omega)).below hB6
    have c6 := c5.trans (bytes_chg w6 (bytesOf 3 64) (fun j => w.heap.size ≤ j)) (fun _ _ h => h)
    have c7 := (c6.trans hC7 (fun j hj h => by (try simp [ext] at h); omega)).alloc (.cells #[.int .i64 0] 3)
    have c8 := c7.trans hC8 (fun j hj h => by (try simp [ext] at h); omega)
    exact (c8.trans hC9 (fun j hj h => by (try simp [ext] at h); omega)).to_below (fun j hj h => by omega)
  clear hD1 hD2 hD3 hD3' hD4 hD5 hD6 hD7 hD7' hD8 hC3 hC4 hC5 hC7 hC8 hC9 hB1 hB2 hB6 hs1 hs2 hs3 hs4 hs5 hs6 hs7 hs8 hs9 hx hxl hgx hgy
  have q1 : ∀ W : BelowOf w9, (convert 28 9 x).run Try.prog W.val = .ok (.string ⟨zero64.toArray⟩) W.val := fun W => run_string (hx9.chg (M := fun _ => False) (Chg.of_below W.prop) (by simp))
  have q2 : ∀ W : BelowOf w9, (convert 28 9 y).run Try.prog W.val = .ok (.string ⟨(bytesOf 3 64).toArray⟩) W.val := fun W => run_string (hy.chg (M := fun _ => False) (Chg.of_below W.prop) (by simp))
  refine wp_region_below (by kernel_rfl) (by kernel_rfl) ?_
  repeat (quiet_step (first
    | (go_at_call 26; exact Calls.below_of (zero_any _))
    | (go_at_call 23; exact Calls.below_of (bytes_any 3 64 _ (by omega) (by omega)))
    | (go_at_call 66; exact Calls.below_of_same (size_any (hD9.below (BelowOf.prop _))))))
  refine wpQuiet_nil ?_
  rintro _ ⟨⟨wq, hq⟩, rfl⟩
  go_wp2
  go_ret
  exact ⟨rfl, hB9.trans (hq.mono hB9.size)⟩
end Go.Proofs.Ytbnoebdpbpjbkaa
