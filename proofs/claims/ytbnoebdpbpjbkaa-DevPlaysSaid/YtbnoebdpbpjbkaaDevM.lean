/-
  The device's small methods; what waits.
-/
import Derived.Test.YtbnoebdpbpjbkaaDevN
import Derived.Test.YtbnoebdpbpjbkaaKeys
namespace Go.Proofs.Ytbnoebdpbpjbkaa
open Go.RowKit Go.Lz

set_option maxHeartbeats 400000 in
theorem new_bad (w : World) (n : Int) (hn : n < 0 ∨ 8192 < n) : Calls Try.prog 17 #[.int .i64 n] w fun e w' => e = .returned (.tuple #[.pointer none, .int .i64 1]) ∧ w = w' := by
  by_cases h1 : n < 0
  · go_enter Try.func17, Try.ntmps17
    go_wp2
    go_ret2
    exact ⟨rfl, rfl⟩
  · have h2 : 8192 < n := by omega
    clear hn
    go_enter Try.func17, Try.ntmps17
    go_wp2
    go_ret2
    exact ⟨rfl, rfl⟩

section
variable {w : World} {p : Nat} {S : DevS} {F : Nat → Prop} {lv : Value} {m : Nat} {vs : List Value} {vf : Nat → Option Value} {c : Nat}

theorem dead_any (h : DevAt Try.prog w p S F) : Calls Try.prog 20 #[Dptr p] w fun e w' => e = .returned (.bool S.dead) ∧ w = w' := by
  obtain ⟨lv, m, vs, vf, c, hD⟩ := h
  have h4 : w.cell? ⟨p, 4, none⟩ = some (.bool S.dead) := cell_of hD.blk 4
  go_enter Try.func20, Try.ntmps20
  go_wp2
  go_ret
  exact ⟨rfl, rfl⟩

theorem calls_any (h : DevAt Try.prog w p S F) : Calls Try.prog 74 #[Dptr p] w fun e w' => e = .returned (.int .i64 S.calls) ∧ w = w' := by
  obtain ⟨lv, m, vs, vf, c, hD⟩ := h
  have h4 : w.cell? ⟨p, 2, none⟩ = some (.int .i64 S.calls) := cell_of hD.blk 2
  go_enter Try.func74, Try.ntmps74
  go_wp2
  go_ret
  exact ⟨rfl, rfl⟩

theorem size_any (h : DevAt Try.prog w p S F) : Calls Try.prog 66 #[Dptr p] w fun e w' => e = .returned (.int .i64 (S.n : Int)) ∧ w = w' := by
  obtain ⟨lv, m, vs, vf, c, hD⟩ := h
  obtain ⟨ao, cap, rfl⟩ : ∃ ao cap, lv = .slice ao S.n cap := by
    rcases hD.arr.2 with ⟨rfl, h2⟩ | ⟨g, cap, cur, rfl, _⟩
    · exact ⟨none, 0, by rw [h2]⟩
    · exact ⟨_, _, rfl⟩
  have h4 : w.cell? ⟨p, 0, none⟩ = some (.slice ao S.n cap) := cell_of hD.blk 0
  go_enter Try.func66, Try.ntmps66
  go_wp2
  go_ret
  exact ⟨rfl, rfl⟩

theorem fuse_any (h : DevAt Try.prog w p S F) (k : Int) (hk : k ≤ 9223372036854775807) : Calls Try.prog 18 #[Dptr p, .int .i64 k] w fun e w' => e = .returned (.tuple #[]) ∧ DevAt Try.prog w' p (S.fused k) F ∧ Chg (· = p) w w' := by
  obtain ⟨lv, m, vs, vf, c, hD⟩ := h
  have h3 : w.cell? ⟨p, 3, none⟩ = some (.int .i64 S.fuse) := cell_of hD.blk 3
  have f3 := frozen_of hD.blk 3
  go_enter Try.func18, Try.ntmps18
  go_wp2
  go_end0
  exact ⟨rfl, (hD.reset S.calls (max k (-1)) S.dead (by omega) ((Chg.refl _ w).own _ _) (heap_set_same hD.blk 3 _)).at_, (Chg.refl _ w).own _ _⟩

theorem clipI_any (w : World) (a : Option Addr) (n cap : Nat) (hn : n ≤ cap) (_hm : cap ≤ maxLen) :
    Calls Try.prog 67 #[.slice a n cap] w fun e w' => e = .returned (.slice a n n) ∧ w = w' := by
  go_enter Try.func67, Try.ntmps67
  go_wp2
  go_ret
  exact ⟨rfl, rfl⟩

/-- The numbers of the sectors of which something waits, rising. -/
def _root_.Go.Lz.DevS.waiting (S : DevS) : List Nat := (List.range S.n).filter fun k => (S.wait k).isSome

/-- The ints l in a new row. -/
def IntsPost (w : World) (l : List Int) (e : Ending) (w' : World) : Prop := ∃ v, e = .returned v ∧ IntsAt w' (fun g => w.heap.size ≤ g) v l ∧ Below w.heap.size w w'

set_option maxHeartbeats 400000 in
theorem waiting_any (h : DevAt Try.prog w p S F) : Calls Try.prog 27 #[Dptr p] w (IntsPost w (S.waiting.map fun (k : Nat) => (k : Int))) := by
  obtain ⟨lv, m, vs, vf, c, hD⟩ := h
  have h1 : w.cell? ⟨p, 1, none⟩ = some (.map (some m)) := cell_of hD.blk 1
  have hn : S.n ≤ 1000000 := Nat.le_trans hD.ok.n (by omega)
  have hk : keysOf vf S.n = S.waiting := by
    unfold keysOf DevS.waiting
    congr 1
    funext k
    exact hD.wait_iff k
  have cS := sortedA_any hD.map hD.keys hn rfl
  rw [hk] at cS
  go_enter Try.func27, Try.ntmps27
  go_wp2_with (first
    | (go_at_call 69; refine (keysA_any _ _).mono ?_; rintro e w' ⟨rfl, rfl⟩)
    | (go_at_call 68; refine cS.mono ?_; rintro e w1 ⟨v, rfl, hrow, hnil, hb⟩))
  have hB : Below w.heap.size w w1 := ((Below.refl _ w).alloc (Nat.le_refl _) _).trans (hb.mono (by simp))
  have hlen : S.waiting.length ≤ 9223372036854775807 := by
    have := List.length_filter_le (fun k => (S.wait k).isSome) (List.range S.n)
    rw [List.length_range] at this
    exact Nat.le_trans this (by omega)
  rcases hrow.2 with ⟨rfl, h0⟩ | ⟨g, cap, cur, rfl, hg, hh, h4, h5, h6, h7⟩
  · refine (clipI_any _ _ _ _ (Nat.le_refl _) (by decide)).mono ?_
    rintro e w' ⟨rfl, rfl⟩
    go_wp2
    go_ret
    exact ⟨_, rfl, ⟨none, 0, 0, rfl, by simpa using h0, by omega, .inl rfl⟩, hB⟩
  · refine (clipI_any _ _ _ _ h4 h5).mono ?_
    rintro e w' ⟨rfl, rfl⟩
    go_wp2
    go_ret
    refine ⟨_, rfl, ⟨_, _, _, rfl, by simp, hlen, .inr ⟨g, 0, rfl, by simp at hg; omega, lt_of_heap hh, fun j hj => ?_⟩⟩, hB⟩
    rw [Nat.zero_add, cell_of hh]
    have h8 : (cur.toList.take (S.waiting.length * 1))[j]? = (S.waiting.map fun (k : Nat) => Value.int .i64 (k : Int))[j]? := by rw [h7]
    rw [List.getElem?_take, if_pos (by omega)] at h8
    rw [← Array.getElem?_toList, h8]
    simp [List.getD, hj]
end
end Go.Proofs.Ytbnoebdpbpjbkaa
