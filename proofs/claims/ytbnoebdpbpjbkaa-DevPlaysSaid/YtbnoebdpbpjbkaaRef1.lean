/-
  The document's device: how it lies in memory, and its calls.
-/
import Derived.Test.YtbnoebdpbpjbkaaLaw1e
import Derived.Test.YtbnoebdpbpjbkaaVec
import Derived.Deep.LoopGhost
import Derived.Deep.CutBlock
import Derived.Maps.AppendAt
namespace Go.Lz
open Go.RowKit

/-- A row of bytes as a string. -/
abbrev strV (b : Bytes) : Value := .string ⟨b.toArray⟩
/-- The cells of the sectors. -/
def secV (l n : Nat → Bytes) (ws : Nat → Bool) : Nat → Value := fun j => if j % 3 = 0 then strV (l (j / 3)) else if j % 3 = 1 then strV (n (j / 3)) else .bool (ws (j / 3))
section
variable (l n : Nat → Bytes) (ws : Nat → Bool) (i : Nat)
theorem secV_0 : secV l n ws (i * 3) = strV (l i) := by
  unfold secV
  rw [if_pos (by omega), show i * 3 / 3 = i from by omega]
theorem secV_1 : secV l n ws (i * 3 + 1) = strV (n i) := by
  unfold secV
  rw [if_neg (by omega), if_pos (by omega), show (i * 3 + 1) / 3 = i from by omega]
theorem secV_2 : secV l n ws (i * 3 + 2) = .bool (ws i) := by
  unfold secV
  rw [if_neg (by omega), if_neg (by omega), show (i * 3 + 2) / 3 = i from by omega]
theorem secV_set0 (b : Bytes) : upd (secV l n ws) (i * 3) (strV b) = secV (upd l i b) n ws := by
  funext j
  by_cases e : j = i * 3
  · subst e
    rw [upd_same, secV_0, upd_same]
  · rw [upd_other _ e]
    unfold secV
    by_cases h : j % 3 = 0
    · rw [if_pos h, if_pos h, upd_other _ (by omega)]
    · rw [if_neg h, if_neg h]
theorem secV_set1 (b : Bytes) : upd (secV l n ws) (i * 3 + 1) (strV b) = secV l (upd n i b) ws := by
  funext j
  by_cases e : j = i * 3 + 1
  · subst e
    rw [upd_same, secV_1, upd_same]
  · rw [upd_other _ e]
    unfold secV
    by_cases h : j % 3 = 0
    · rw [if_pos h, if_pos h]
    · rw [if_neg h, if_neg h]
      by_cases h1 : j % 3 = 1
      · rw [if_pos h1, if_pos h1, upd_other _ (by omega)]
      · rw [if_neg h1, if_neg h1]
theorem secV_set2 (b : Bool) : upd (secV l n ws) (i * 3 + 2) (.bool b) = secV l n (upd ws i b) := by
  funext j
  by_cases e : j = i * 3 + 2
  · subst e
    rw [upd_same, secV_2, upd_same]
  · rw [upd_other _ e]
    unfold secV
    by_cases h : j % 3 = 0
    · rw [if_pos h, if_pos h]
    · rw [if_neg h, if_neg h]
      by_cases h1 : j % 3 = 1
      · rw [if_pos h1, if_pos h1]
      · rw [if_neg h1, if_neg h1, upd_other _ (by omega)]
end

/-- Block r is a device of n sectors, its row of cells in block g. -/
structure RefR (w : World) (r g n cap : Nat) (c fu : Int) (d : Bool) (f : Nat → Value) : Prop where
  blk : w.heap[r]? = some (.cells #[.slice (some ⟨g, 0, none⟩) n cap, .int .i64 c, .int .i64 fu, .bool d] 55 (0, 0))
  row : ∃ cur, w.heap[g]? = some (.cells cur 124 (0, 0)) ∧ ∀ j, j < 3 * n → cur[j]? = some (f j)
  n8 : n ≤ 8192
  cap8 : n ≤ cap ∧ cap ≤ maxLen

section
variable {w w' : World} {r g n cap : Nat} {c fu : Int} {d : Bool} {f : Nat → Value}
theorem RefR.ne (h : RefR w r g n cap c fu d f) : r ≠ g := by
  obtain ⟨cur, hg, _⟩ := h.row
  exact ne_of_elem h.blk hg (by decide)
theorem RefR.chg {M : Nat → Prop} (h : RefR w r g n cap c fu d f) (hc : Chg M w w') (h1 : ¬ M r) (h2 : ¬ M g) : RefR w' r g n cap c fu d f := by
  obtain ⟨cur, hg, hf⟩ := h.row
  exact ⟨(hc.block r (lt_of_heap h.blk) h1).trans h.blk, ⟨cur, (hc.block g (lt_of_heap hg) h2).trans hg, hf⟩, h.n8, h.cap8⟩
theorem RefR.lt (h : RefR w r g n cap c fu d f) : r < w.heap.size ∧ g < w.heap.size := by
  obtain ⟨cur, hg, hf⟩ := h.row
  exact ⟨lt_of_heap h.blk, lt_of_heap hg⟩
theorem RefR.cell (h : RefR w r g n cap c fu d f) {j : Nat} (hj : j < 3 * n) : w.cell? ⟨g, j, none⟩ = some (f j) ∧ w.frozen? ⟨g, j, none⟩ = false := by
  obtain ⟨cur, hg, hf⟩ := h.row
  exact ⟨(cell_of hg j).trans (hf j hj), frozen_of hg j⟩
theorem RefR.fields (h : RefR w r g n cap c fu d f) : w.cell? ⟨r, 0, none⟩ = some (.slice (some ⟨g, 0, none⟩) n cap) ∧ w.cell? ⟨r, 1, none⟩ = some (.int .i64 c) ∧ w.cell? ⟨r, 2, none⟩ = some (.int .i64 fu) ∧ w.cell? ⟨r, 3, none⟩ = some (.bool d) ∧ ∀ k, w.frozen? ⟨r, k, none⟩ = false :=
  ⟨cell_of h.blk 0, cell_of h.blk 1, cell_of h.blk 2, cell_of h.blk 3, fun k => frozen_of h.blk k⟩
theorem RefR.set (h : RefR w r g n cap c fu d f) (j : Nat) (v : Value) : RefR (w.setCell ⟨g, j, none⟩ v) r g n cap c fu d (upd f j v) := by
  have hne := h.ne
  obtain ⟨cur, hg, hf⟩ := h.row
  refine ⟨(heap_set_other hne v).trans h.blk, ⟨_, heap_set_same hg j v, fun k hk => ?_⟩, h.n8, h.cap8⟩
  rw [Array.getElem?_setIfInBounds]
  by_cases e : j = k
  · subst e
    have := (Array.getElem?_eq_some_iff.1 (hf j hk)).1
    simp [this]
  · rw [if_neg e, upd_other _ (fun e2 => e e2.symm)]
    exact hf k hk
theorem RefR.setC (h : RefR w r g n cap c fu d f) (x : Int) : RefR (w.setCell ⟨r, 1, none⟩ (.int .i64 x)) r g n cap x fu d f := by
  have hne := h.ne
  obtain ⟨cur, hg, hf⟩ := h.row
  exact ⟨heap_set_same h.blk 1 _, ⟨cur, (heap_set_other (fun e => hne e.symm) _).trans hg, hf⟩, h.n8, h.cap8⟩
theorem RefR.setF (h : RefR w r g n cap c fu d f) (x : Int) : RefR (w.setCell ⟨r, 2, none⟩ (.int .i64 x)) r g n cap c x d f := by
  have hne := h.ne
  obtain ⟨cur, hg, hf⟩ := h.row
  exact ⟨heap_set_same h.blk 2 _, ⟨cur, (heap_set_other (fun e => hne e.symm) _).trans hg, hf⟩, h.n8, h.cap8⟩
theorem RefR.setD (h : RefR w r g n cap c fu d f) (x : Bool) : RefR (w.setCell ⟨r, 3, none⟩ (.bool x)) r g n cap c fu x f := by
  have hne := h.ne
  obtain ⟨cur, hg, hf⟩ := h.row
  exact ⟨heap_set_same h.blk 3 _, ⟨cur, (heap_set_other (fun e => hne e.symm) _).trans hg, hf⟩, h.n8, h.cap8⟩
theorem RefR.drew (h : RefR w r g n cap c fu d f) : RefR w.drew r g n cap c fu d f := ⟨h.blk, h.row, h.n8, h.cap8⟩
end

/-- Block r is the device D; its row lies in g. -/
def RefAt (w : World) (r g : Nat) (D : DevS) : Prop := ∃ cap, RefR w r g D.n cap D.calls D.fuse D.dead (secV D.last D.now fun i => (D.wait i).isSome)
end Go.Lz
namespace Go.Proofs.Ytbnoebdpbpjbkaa
open Go.RowKit Go.Lz
section
variable {w : World} {r g : Nat} {D : DevS}

/-- The call hands back v; the device is D. -/
def RDid (w : World) (r g : Nat) (D : DevS) (v : Value) (e : Ending) (w' : World) : Prop := e = .returned v ∧ RefAt w' r g D ∧ Chg (fun k => k = r ∨ k = g) w w'

theorem chg_r (w : World) (r g i : Nat) (v : Value) : Chg (fun k => k = r ∨ k = g) w (w.setCell ⟨r, i, none⟩ v) := (Chg.refl _ w).setCell (fun _ => .inl rfl) v
theorem chg_g {w1 : World} {r g : Nat} (h : Chg (fun k => k = r ∨ k = g) w w1) (i : Nat) (v : Value) : Chg (fun k => k = r ∨ k = g) w (w1.setCell ⟨g, i, none⟩ v) := h.setCell (fun _ => .inr rfl) v
theorem chg_r2 {w1 : World} {r g : Nat} (h : Chg (fun k => k = r ∨ k = g) w w1) (i : Nat) (v : Value) : Chg (fun k => k = r ∨ k = g) w (w1.setCell ⟨r, i, none⟩ v) := h.setCell (fun _ => .inl rfl) v

theorem rburn_dead {n cap : Nat} {c : Int} {d : Bool} {f : Nat → Value} (h : RefR w r g n cap c 0 d f) : Calls Try.prog 72 #[Dptr r] w fun e w' => e = .returned (.bool false) ∧ w' = w.setCell ⟨r, 3, none⟩ (.bool true) := by
  obtain ⟨c0, c1, c2, c3, fz⟩ := h.fields
  have f3 := fz 3
  clear fz
  go_enter Try.func72, Try.ntmps72
  go_wp2
  go_ret
  exact ⟨rfl, rfl⟩
theorem rburn_ok {n cap : Nat} {c fu : Int} {d : Bool} {f : Nat → Value} (h : RefR w r g n cap c fu d f) (h0 : fu ≠ 0) (h1 : -1 ≤ fu ∧ fu ≤ 9223372036854775807) : Calls Try.prog 72 #[Dptr r] w fun e w' => e = .returned (.bool true) ∧ w' = w.setCell ⟨r, 2, none⟩ (.int .i64 (max (fu - 1) (-1))) := by
  obtain ⟨c0, c1, c2, c3, fz⟩ := h.fields
  have f2 := fz 2
  obtain ⟨h1, h2⟩ := h1
  clear fz
  go_enter Try.func72, Try.ntmps72
  go_wp2
  go_ret
  exact ⟨rfl, rfl⟩

theorem _root_.Go.Lz.RefAt.mk' {cap : Nat} {c fu : Int} {d : Bool} {f : Nat → Value} (h : RefR w r g D.n cap c fu d f) (hc : c = D.calls) (hf : fu = D.fuse) (hd : d = D.dead) (hs : ∀ j, j < 3 * D.n → f j = secV D.last D.now (fun i => (D.wait i).isSome) j) : RefAt w r g D := by
  subst hc hf hd
  obtain ⟨cur, hg, hf⟩ := h.row
  exact ⟨cap, h.blk, ⟨cur, hg, fun j hj => (hf j hj).trans (congrArg some (hs j hj))⟩, h.n8, h.cap8⟩
theorem _root_.Go.Lz.RefAt.chg {w' : World} {M : Nat → Prop} (h : RefAt w r g D) (hc : Chg M w w') (h1 : ¬ M r) (h2 : ¬ M g) : RefAt w' r g D := by
  obtain ⟨cap, h⟩ := h
  exact ⟨cap, h.chg hc h1 h2⟩

/-- A read: what was last written, and how it went. -/
def _root_.Go.Lz.DevS.rread (D : DevS) (i : Int) : Bytes × Int × DevS := if D.wrong i ≠ 0 then ([], D.wrong i, D) else (D.now i.toNat, 0, D.counted)

set_option maxRecDepth 100000 in
theorem rread_any (h : RefAt w r g D) (i : Int) : Calls Try.prog 31 #[Dptr r, .int .i64 i] w (RDid w r g (D.rread i).2.2 (.tuple #[strV (D.rread i).1, .int .i64 (D.rread i).2.1])) := by
  obtain ⟨cap, h⟩ := h
  obtain ⟨c0, c1, c2, c3, fz⟩ := h.fields
  have f1 := fz 1
  have hn8 := h.n8
  have hcap := h.cap8
  by_cases hd : D.dead = true
  · have e : D.rread i = ([], 50, D) := by simp [DevS.rread, DevS.wrong, hd]
    rw [e]
    rw [hd] at c3
    clear e hd fz
    go_enter Try.func31, Try.ntmps31
    go_wp2
    go_ret2
    exact ⟨rfl, ⟨cap, h⟩, Chg.refl _ _⟩
  simp only [Bool.not_eq_true] at hd
  rw [hd] at c3
  by_cases hi : i < 0 ∨ (D.n : Int) ≤ i
  · have e : D.rread i = ([], 1, D) := by simp [DevS.rread, DevS.wrong, hd, hi]
    rw [e]
    have hdH : Hid _ := Lib.hid hd
    clear e hd fz
    rcases hi with hi | hi
    · go_enter Try.func31, Try.ntmps31
      go_wp2
      go_ret2
      exact ⟨rfl, ⟨cap, h⟩, Chg.refl _ _⟩
    · have h0 : ¬ i < 0 := by omega
      go_enter Try.func31, Try.ntmps31
      go_wp2
      go_ret2
      exact ⟨rfl, ⟨cap, h⟩, Chg.refl _ _⟩
  · obtain ⟨k, rfl⟩ : ∃ k : Nat, i = (k : Int) := ⟨i.toNat, by omega⟩
    have hk : k < D.n := by omega
    have e : D.rread (k : Int) = (D.now k, 0, D.counted) := by
      unfold DevS.rread
      have hw0 : D.wrong (k : Int) = 0 := by unfold DevS.wrong; rw [if_neg (by simp [hd]), if_neg hi]
      rw [if_neg (by simp [hw0])]
      rfl
    rw [e]
    have hR := h.setC (wrap64 (D.calls + 1))
    have hx := (hR.cell (j := k * 3 + 1) (by omega)).1
    rw [secV_1] at hx
    have hC := chg_r w r g 1 (.int .i64 (wrap64 (D.calls + 1)))
    obtain ⟨k0, _⟩ := hR.fields
    have hk' : (k : Int) < (D.n : Int) := by omega
    clear e hi fz hd
    go_enter Try.func31, Try.ntmps31
    go_wp2
    go_ret2
    exact ⟨rfl, ⟨cap, hR⟩, hC⟩

theorem _root_.Go.Lz.DevS.put_now (D : DevS) (k : Nat) (b : Bytes) : (D.put k b).now = upd D.now k b := by
  funext j
  unfold DevS.now DevS.put
  by_cases e : j = k
  · subst e; simp
  · simp [upd_other _ e]
theorem _root_.Go.Lz.DevS.put_waits (D : DevS) (k : Nat) (b : Bytes) : (fun i => ((D.put k b).wait i).isSome) = upd (fun i => (D.wait i).isSome) k true := by
  funext j
  unfold DevS.put
  by_cases e : j = k
  · subst e; simp
  · simp [upd_other _ e]

set_option maxRecDepth 100000 in
set_option maxHeartbeats 1000000 in
theorem rwrite_any (h : RefAt w r g D) (hfu : -1 ≤ D.fuse ∧ D.fuse ≤ 9223372036854775807) (i : Int) (b : Bytes) (hb : b.length ≤ 1000000) : Calls Try.prog 30 #[Dptr r, .int .i64 i, strV b] w (RDid w r g (D.write i b).2 (.int .i64 (D.write i b).1)) := by
  obtain ⟨cap, h⟩ := h
  obtain ⟨c0, c1, c2, c3, fz⟩ := h.fields
  have hn8 := h.n8
  have hcap := h.cap8
  have hsz : (⟨b.toArray⟩ : ByteArray).size = b.length := by simp [ByteArray.size]
  by_cases hd : D.dead = true
  · have e : D.write i b = (50, D) := by simp [DevS.write, DevS.wrong, hd]
    rw [e]
    rw [hd] at c3
    clear e hd fz hsz
    go_enter Try.func30, Try.ntmps30
    go_wp2
    go_ret
    exact ⟨rfl, ⟨cap, h⟩, Chg.refl _ _⟩
  simp only [Bool.not_eq_true] at hd
  rw [hd] at c3
  by_cases hi : i < 0 ∨ (D.n : Int) ≤ i
  · have e : D.write i b = (1, D) := by simp [DevS.write, DevS.wrong, hd, hi]
    rw [e]
    clear e hd fz hsz
    rcases hi with hi | hi
    · go_enter Try.func30, Try.ntmps30
      go_wp2
      go_ret
      exact ⟨rfl, ⟨cap, h⟩, Chg.refl _ _⟩
    · have h0 : ¬ i < 0 := by omega
      go_enter Try.func30, Try.ntmps30
      go_wp2
      go_ret
      exact ⟨rfl, ⟨cap, h⟩, Chg.refl _ _⟩
  obtain ⟨k, rfl⟩ : ∃ k : Nat, i = (k : Int) := ⟨i.toNat, by omega⟩
  have hk : k < D.n := by omega
  have hk' : (k : Int) < (D.n : Int) := by omega
  have hw0 : D.wrong (k : Int) = 0 := by unfold DevS.wrong; rw [if_neg (by simp [hd]), if_neg hi]
  obtain ⟨m, hm⟩ : ∃ m, m = b.length := ⟨_, rfl⟩
  rw [← hm] at hsz hb
  by_cases h64 : m = 64
  rotate_left
  · have e : D.write (k : Int) b = (1, D) := by
      unfold DevS.write
      rw [if_neg (by simp [hw0]), if_pos (by omega)]
    rw [e]
    have h64' : ((m : Int) == 64) = false := by rw [beq_eq_false_iff_ne]; omega
    have h64'' : ((m : Int) != 64) = true := by simp; omega
    clear e hd fz hm hi h64 hw0
    go_enter Try.func30, Try.ntmps30
    go_wp2
    go_ret
    exact ⟨rfl, ⟨cap, h⟩, Chg.refl _ _⟩
  subst h64
  by_cases hf : D.fuse = 0
  · have e : D.write (k : Int) b = (50, D.killed) := by
      unfold DevS.write
      rw [if_neg (by simp [hw0]), if_neg (by omega), if_pos hf]
    rw [e]
    have h' := h
    rw [hf] at h'
    have cb := rburn_dead h'
    have hR := h.setD true
    have hC := chg_r w r g 3 (.bool true)
    have hfH : Hid _ := Lib.hid hf
    clear e hd fz hm hi hw0 hf h'
    go_enter Try.func30, Try.ntmps30
    go_wp2_with (go_at_call 72; refine cb.mono ?_; rintro e w' ⟨rfl, rfl⟩)
    go_ret
    exact ⟨rfl, ⟨cap, hR⟩, hC⟩
  · have e : D.write (k : Int) b = (0, D.burned.put k b) := by
      unfold DevS.write
      rw [if_neg (by simp [hw0]), if_neg (by omega), if_neg hf]
      rfl
    rw [e]
    have cb := rburn_ok h hf hfu
    have hR1 := h.setF (max (D.fuse - 1) (-1))
    have hR2 := hR1.setC (wrap64 (D.calls + 1))
    have hR3 := hR2.set (k * 3 + 1) (strV b)
    have hR4 := hR3.set (k * 3 + 2) (.bool true)
    rw [secV_set1, secV_set2] at hR4
    have hC := chg_g (chg_g (chg_r2 (chg_r w r g 2 (.int .i64 (max (D.fuse - 1) (-1)))) 1 (.int .i64 (wrap64 (D.calls + 1)))) (k * 3 + 1) (strV b)) (k * 3 + 2) (.bool true)
    obtain ⟨_, a1, _, _, af⟩ := hR1.fields
    have af1 := af 1
    obtain ⟨b0, _⟩ := hR2.fields
    obtain ⟨x1, x2⟩ := hR2.cell (j := k * 3 + 1) (by omega)
    obtain ⟨y0, _⟩ := hR3.fields
    obtain ⟨y1, y2⟩ := hR3.cell (j := k * 3 + 2) (by omega)
    clear e hd fz hm hi hw0 hf hR1 hR2 hR3 af
    go_enter Try.func30, Try.ntmps30
    go_wp2_with (go_at_call 72; refine cb.mono ?_; rintro e w' ⟨rfl, rfl⟩)
    go_ret
    refine ⟨rfl, RefAt.mk' (D := D.burned.put k b) hR4 rfl rfl rfl (fun j _ => ?_), hC⟩
    rw [DevS.put_now, DevS.put_waits]
    rfl
end
end Go.Proofs.Ytbnoebdpbpjbkaa
