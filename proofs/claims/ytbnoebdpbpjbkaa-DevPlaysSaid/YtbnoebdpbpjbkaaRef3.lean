/-
  The document's device: Waiting, Copy, New.
-/
import Derived.Test.YtbnoebdpbpjbkaaRef2
import Derived.Test.YtbnoebdpbpjbkaaLifeW
namespace Go.Lz
open Go.RowKit
theorem owns_some {w : World} {base : Nat} {T : TypeId} {size : Nat} {v : Value} {n : Nat} {xs : List Value} (h : w.ownsRow base T size v n xs) (hv : v ≠ .slice none 0 0) :
    ∃ g cap cur, v = .slice (some ⟨g, 0, none⟩) n cap ∧ base ≤ g ∧ w.heap[g]? = some (.cells cur T (0, 0)) ∧ n ≤ cap ∧ cap ≤ maxLen ∧ cur.size = cap * size ∧ cur.toList.take (n * size) = xs := by
  rcases h.2 with h | h
  · exact absurd h.1 hv
  · exact h
/-- A row of ints that the call made, as a list. -/
theorem owns_ints {w : World} {base : Nat} {T : TypeId} {v : Value} {n : Nat} {l : List Int} (h : w.ownsRow base T 1 v n (l.map (Value.int .i64))) : IntsAt w (fun g => base ≤ g) v l := by
  obtain ⟨hl, ⟨rfl, rfl⟩ | ⟨g, cap, cur, rfl, h1, h2, h3, h4, h5, h6⟩⟩ := h
  · have hn : l = [] := List.length_eq_zero_iff.1 (by simpa using hl)
    subst hn
    exact ⟨none, 0, 0, rfl, rfl, by omega, .inl rfl⟩
  · have hn : l.length = n := by simpa using hl
    refine ⟨some ⟨g, 0, none⟩, n, cap, rfl, hn, by unfold maxLen at h4; omega, ?_⟩
    by_cases h0 : n = 0
    · exact .inl h0
    · refine .inr ⟨g, 0, rfl, h1, lt_of_heap h2, fun j hj => ?_⟩
      rw [Nat.zero_add, cell_of h2]
      have h7 : (l.map (Value.int .i64))[j]? = some (.int .i64 (l.getD j 0)) := by simp [List.getD, show j < l.length by omega]
      rw [← h6, List.getElem?_take] at h7
      split at h7
      · simpa using h7
      · cases h7
end Go.Lz
namespace Go.Proofs.Ytbnoebdpbpjbkaa
open Go.RowKit Go.Lz
section
variable {w : World} {r g : Nat} {D : DevS}

def _root_.Go.Lz.DevS.waitL (D : DevS) (i : Nat) : List Int := ((List.range i).filter fun k => (D.wait k).isSome).map fun (k : Nat) => (k : Int)
theorem _root_.Go.Lz.DevS.waitL_succ (D : DevS) (i : Nat) : D.waitL (i + 1) = D.waitL i ++ (if (D.wait i).isSome then [(i : Int)] else []) := by
  unfold DevS.waitL
  rw [List.range_succ, List.filter_append, List.map_append]
  congr 1
  cases h : (D.wait i).isSome <;> simp [h]
theorem _root_.Go.Lz.DevS.waitL_length (D : DevS) (i : Nat) : (D.waitL i).length ≤ i := by
  unfold DevS.waitL
  rw [List.length_map]
  have := List.length_filter_le (fun k => (D.wait k).isSome) (List.range i)
  rwa [List.length_range] at this

set_option maxRecDepth 100000 in
set_option maxHeartbeats 1000000 in
theorem rwaiting_any (h : RefAt w r g D) : Calls Try.prog 73 #[Dptr r] w (IntsPost w (D.waiting.map fun (k : Nat) => (k : Int))) := by
  obtain ⟨cap, h⟩ := h
  have hn8 := h.n8
  have hcap := h.cap8
  obtain ⟨hr1, hg1⟩ := h.lt
  have h8 : (Try.prog.info? 3).map (fun i => (i.zero, i.size, i.bytes)) = some (some (.int .i64 0), 1, 8) := by kernel_rfl
  obtain ⟨i0, hi0, hz0, hz1, hz2⟩ := info_parts h8
  go_enter Try.func73, Try.ntmps73
  go_wp2_with fail
  go_loopg [3, 4] D.n (fun gg v iv wr => ∃ i : Nat, i + gg = D.n ∧ iv = .int .i64 (i : Int) ∧ wr.ownsRow w.heap.size 3 1 v (D.waitL i).length ((D.waitL i).map (Value.int .i64)) ∧ Below w.heap.size w wr)
  case atStart => exact ⟨0, by omega, rfl, ⟨rfl, .inl ⟨rfl, rfl⟩⟩, Below.refl _ _⟩
  case round =>
    obtain ⟨i, hid, rfl, hown, hB⟩ := hrel
    have hid' : Hid (i + gk = D.n) := hid
    have hR := h.chg (M := fun _ => False) (Chg.of_below hB) (fun h => h) (fun h => h)
    obtain ⟨c0, _⟩ := hR.fields
    by_cases hi : i < D.n
    · have hi' : (i : Int) < (D.n : Int) := by omega
      obtain ⟨x2, _⟩ := hR.cell (j := i * 3 + 2) (by omega)
      rw [secV_2] at x2
      have hsu := D.waitL_succ i
      have hle := D.waitL_length i
      have hsz := hB.size
      clear hid
      cases hw : (D.wait i).isSome with
      | true =>
        rw [hw] at x2 hsu
        simp only [if_true] at hsu
        have hnews : ∀ (j : Nat) u, [Value.int .i64 (i : Int)][j]? = some u → (wr.alloc (.cells #[.int .i64 (i : Int)] 3)).cell? ((⟨wr.heap.size, 0, none⟩ : Addr).add j) = some u := fun j u hu => by
          rw [addN, cell_of (heap_alloc_new wr _)]
          simpa using hu
        have hone : ∀ u ∈ [Value.int .i64 (i : Int)], u.oneCell' = true := fun u hu => by
          cases List.mem_singleton.1 hu
          rfl
        have hsuH : Hid _ := Lib.hid hsu
        clear hsu hw
        go_wp2_with (at_builtin; refine wpList_append_own _ rfl _ _ 22 rfl w.heap.size 3 i0 (.int .i64 0) 1 8 Try.underlying22 hi0 hz0 hz1 hz2 rfl (by decide) u3 _ _ rfl (hown.alloc _) ⟨wr.heap.size, 0, none⟩ 1 1 [.int .i64 (i : Int)] rfl rfl hnews hone (by unfold maxLen; omega) (by omega) (by simp; omega) ?_; intro v' w1 hown' hgrow _)
        go_roundg (gk - 1)
        case measure => have := hid'.out; omega
        case rel =>
          refine ⟨i + 1, by have := hid'.out; omega, by go_num, ?_, ?_⟩
          · rw [hsuH.out, List.map_append, List.length_append]
            exact hown'
          · refine ((hB.alloc hsz (.cells #[.int .i64 (i : Int)] 3)).trans ?_)
            refine ((Chg.refl (fun k => some k = u3.ownBlock) _).grown hgrow (fun k e _ => e.symm)).belowB (by simp; omega) (fun k hk e => ?_)
            obtain ⟨_, ⟨rfl, _⟩ | ⟨g', _, _, rfl, h9, _⟩⟩ := hown
            · cases e
            · have e2 : k = g' := by injection e
              omega
      | false =>
        rw [hw] at x2 hsu
        simp only [Bool.false_eq_true, if_false, List.append_nil] at hsu
        have hsuH : Hid _ := Lib.hid hsu
        clear hsu hw
        go_wp2_with fail
        go_roundg (gk - 1)
        case measure => have := hid'.out; omega
        case rel => exact ⟨i + 1, by have := hid'.out; omega, by go_num, by rw [hsuH.out]; exact hown, hB⟩
    · obtain rfl : i = D.n := by omega
      clear hid
      go_wp2_with fail
      go_ret
      exact ⟨_, rfl, owns_ints hown, hB⟩

/-- A copy. -/
def RCopyPost (w : World) (D : DevS) (e : Ending) (w' : World) : Prop := ∃ r' g', e = .returned (Dptr r') ∧ RefAt w' r' g' D ∧ w.heap.size ≤ r' ∧ w.heap.size ≤ g' ∧ Below w.heap.size w w'

set_option maxRecDepth 100000 in
set_option maxHeartbeats 1000000 in
theorem rcopy_any (h : RefAt w r g D) : Calls Try.prog 34 #[Dptr r] w (RCopyPost w D) := by
  obtain ⟨cap, h⟩ := h
  have hn8 := h.n8
  have hcap := h.cap8
  obtain ⟨hr1, hg1⟩ := h.lt
  obtain ⟨c0, c1, c2, c3, _⟩ := h.fields
  have h40 : (Try.prog.info? 124).map (fun i => (i.zero, i.size, i.bytes)) = some (some (.agg #[.string ⟨#[]⟩, .string ⟨#[]⟩, .bool false]), 3, 40) := by kernel_rfl
  obtain ⟨i0, hi0, hz0, hz1, hz2⟩ := info_parts h40
  obtain ⟨V, hV⟩ : ∃ V, V = secV D.last D.now fun i => (D.wait i).isSome := ⟨_, rfl⟩
  have hVH : Hid _ := Lib.hid hV
  have hnews : ∀ (o1 o2 : Obj) (j : Nat) u, (vec (3 * D.n) V).toList[j]? = some u → ((w.alloc o1).alloc o2).cell? ((⟨g, 0, none⟩ : Addr).add j) = some u := fun o1 o2 j u hu => by
    have hj : j < 3 * D.n := by
      have := (List.getElem?_eq_some_iff.1 hu).1
      simpa using this
    have hB := (Below.refl w.heap.size w).alloc (Nat.le_refl _) o1
    have hB2 := hB.alloc hB.size o2
    rw [addN, hB2.cell (p := ⟨g, j, none⟩) hg1, (h.cell hj).1]
    rw [Array.getElem?_toList, vec_at _ hj, hV] at hu
    exact hu
  have hone : ∀ u ∈ (vec (3 * D.n) V).toList, u.oneCell' = true := fun u hu => by
    obtain ⟨k, hk⟩ := List.getElem?_of_mem hu
    have hk3 : k < 3 * D.n := by
      have := (List.getElem?_eq_some_iff.1 hk).1
      simpa using this
    rw [Array.getElem?_toList, vec_at _ hk3, hV] at hk
    cases hk
    unfold secV
    split
    · rfl
    · split <;> rfl
  have hlen : (vec (3 * D.n) V).toList.length = D.n * 3 := by simp; omega
  clear hV
  go_enter Try.func34, Try.ntmps34
  go_upto_region 2 with fail
  have hmade := World.ownsRow_made (e := 124) (size := 3) (base := w.heap.size + 1) (w.alloc (.cells #[.slice (some ⟨g, 0, none⟩) D.n cap, .int .i64 D.calls, .int .i64 D.fuse, .bool D.dead] 55)) #[] 0 (by simp) (Nat.zero_le _) rfl
  simp only [World.size_alloc] at hmade
  have hbt : (0 + D.n) * 40 ≤ 140737488355328 := by omega
  have hmx : 0 + D.n ≤ maxLen := by unfold maxLen; omega
  have hkeep : ∀ (w1 : World) (o2 : Obj), ((w.alloc (.cells #[.slice (some ⟨g, 0, none⟩) D.n cap, .int .i64 D.calls, .int .i64 D.fuse, .bool D.dead] 55)).alloc o2).grownBy w1 (some (w.heap.size + 1)) → w1.heap[w.heap.size]? = some (.cells #[.slice (some ⟨g, 0, none⟩) D.n cap, .int .i64 D.calls, .int .i64 D.fuse, .bool D.dead] 55 (0, 0)) ∧ w1.cell? ⟨w.heap.size, 0, none⟩ = some (.slice (some ⟨g, 0, none⟩) D.n cap) ∧ w1.frozen? ⟨w.heap.size, 0, none⟩ = false := fun w1 o2 hg => by
    have h1 := hg.block w.heap.size (by simp; omega) (by intro e; injection e; omega)
    rw [Below.heap_alloc _ _ _ (by simp), heap_alloc_new] at h1
    exact ⟨h1, cell_of h1 0, frozen_of h1 0⟩
  have hkeepH : Hid _ := Lib.hid hkeep
  clear hkeep
  go_wp2_with (at_builtin; refine wpList_append_own_at _ rfl _ _ 53 rfl (w.heap.size + 1) 124 i0 (.agg #[.string ⟨#[]⟩, .string ⟨#[]⟩, .bool false]) 3 40 Try.underlying53 hi0 hz0 hz1 hz2 rfl (by decide) _ 0 [] rfl hmade ⟨g, 0, none⟩ D.n cap (vec (3 * D.n) V).toList rfl hlen (hnews _ _) hone hmx hbt (by simp) ?_; intro v' w1 hown' hgrow hnil hat; obtain ⟨e0, e1, e2⟩ := hkeepH.out _ _ hgrow; obtain ⟨g', cap', cur', rfl, k1, k2, k3, k4, k5, k6⟩ := owns_some hown' (fun e => nomatch (hnil.1 e).1))
  go_ret
  have hB := (((Below.refl w.heap.size w).alloc (Nat.le_refl _) (.cells #[.slice (some ⟨g, 0, none⟩) D.n cap, .int .i64 D.calls, .int .i64 D.fuse, .bool D.dead] 55)).alloc (by simp) (.cells #[] 124))
  have hC := (Chg.of_below (M := fun k => w.heap.size ≤ k) hB).grown hgrow (fun k e _ => by
    have e2 : w.heap.size + 1 = k := by injection e
    show w.heap.size ≤ k
    omega)
  have hC2 := hC.setCell (p := ⟨w.heap.size, 0, none⟩) (fun _ => Nat.le_refl _) (.slice (some ⟨g', 0, none⟩) D.n cap')
  refine ⟨w.heap.size, g', rfl, RefAt.mk' (cap := cap') (f := V) ⟨?_, ⟨cur', (heap_set_other (p := ⟨w.heap.size, 0, none⟩) (k := g') (by show g' ≠ w.heap.size; omega) _).trans k2, fun j hj => ?_⟩, hn8, by omega, k4⟩ rfl rfl rfl (fun j hj => by rw [hVH.out]), Nat.le_refl _, by omega, hC2.to_below (fun j hj e => by omega)⟩
  · exact heap_set_same e0 0 _
  · have h9 : (vec (3 * D.n) V).toList[j]? = some (V j) := by rw [Array.getElem?_toList, vec_at _ hj]
    rw [List.nil_append] at k6
    rw [← k6, List.getElem?_take] at h9
    split at h9
    · simpa using h9
    · cases h9

theorem rnew_bad (w : World) (n : Int) (hn : n < 0 ∨ 8192 < n) : Calls Try.prog 29 #[.int .i64 n] w fun e w' => e = .returned (.tuple #[.pointer none, .int .i64 1]) ∧ w = w' := by
  by_cases h0 : n < 0
  · clear hn
    go_enter Try.func29, Try.ntmps29
    go_wp2
    go_ret2
    exact ⟨rfl, rfl⟩
  · have h1 : 8192 < n := by omega
    clear hn
    go_enter Try.func29, Try.ntmps29
    go_wp2
    go_ret2
    exact ⟨rfl, rfl⟩

def RNewPost (w : World) (n : Nat) (e : Ending) (w' : World) : Prop := ∃ r g, e = .returned (.tuple #[Dptr r, .int .i64 0]) ∧ RefAt w' r g (DevS.new n) ∧ w.heap.size ≤ r ∧ w.heap.size ≤ g ∧ Below w.heap.size w w'

theorem mksects (W : World) (n : Nat) (hn : n ≤ 100000) : ∃ cur : Array Value, cur.size = n * 3 ∧ (Instr.makeSlice 53 (.int .i64 (n : Int)) (.int .i64 (n : Int))).run Try.prog W = .ok (.slice (some ⟨W.heap.size, 0, none⟩) n n) (W.alloc (.cells cur 124)) := by
  have h40 : (Try.prog.info? 124).map (fun i => (i.zero, i.size, i.bytes)) = some (some (.agg #[.string ⟨#[]⟩, .string ⟨#[]⟩, .bool false]), 3, 40) := by kernel_rfl
  obtain ⟨i0, hi0, hz0, hz1, hz2⟩ := info_parts h40
  have hr := run_make (P := Try.prog) W 53 124 i0 _ Try.underlying53 hi0 hz0 .i64 .i64 n n (by omega) (Int.le_refl _) (by rw [hz2]; omega) (by omega)
  simp only [Int.toNat_natCast, hz1] at hr
  exact ⟨_, size_madeCells _ _, hr⟩

set_option maxRecDepth 100000 in
set_option maxHeartbeats 1000000 in
theorem rnew_ok (w : World) (n : Nat) (hn : n ≤ 8192) : Calls Try.prog 29 #[.int .i64 (n : Int)] w (RNewPost w n) := by
  obtain ⟨cur, hcur, hmk⟩ := mksects w n (by omega)
  have hcH : Hid _ := Lib.hid hcur
  clear hcur
  have h0 : ¬ (n : Int) < 0 := by omega
  have h1 : ¬ (8192 : Int) < (n : Int) := by omega
  go_enter Try.func29, Try.ntmps29
  go_wp2_with fail
  have hR0 : RefR ((w.alloc (.cells cur 124)).alloc (.cells #[.slice (some ⟨w.heap.size, 0, none⟩) n n, .int .i64 0, .int .i64 (-1), .bool false] 55)) (w.heap.size + 1) w.heap.size n n 0 (-1) false (fun j => cur.getD j undef) := by
    refine ⟨?_, ⟨cur, ?_, fun j hj => ?_⟩, hn, Nat.le_refl _, by unfold maxLen; omega⟩
    · have := heap_alloc_new (w.alloc (.cells cur 124)) (.cells #[.slice (some ⟨w.heap.size, 0, none⟩) n n, .int .i64 0, .int .i64 (-1), .bool false] 55)
      simpa using this
    · rw [Below.heap_alloc _ _ _ (by simp), heap_alloc_new]
    · have : j < cur.size := by rw [hcH.out]; omega
      simp [Array.getD, this]
  have hB0 := ((Below.refl w.heap.size w).alloc (Nat.le_refl _) (.cells cur 124)).alloc (by simp) (.cells #[.slice (some ⟨w.heap.size, 0, none⟩) n n, .int .i64 0, .int .i64 (-1), .bool false] 55)
  refine (zero_any _).mono ?_
  rintro e w2 ⟨rfl, hB2⟩
  have hR2 := hR0.chg (M := fun _ => False) (Chg.of_below hB2) (fun h => h) (fun h => h)
  have hB3 := hB0.trans (hB2.mono hB0.size)
  clear hR0 hB0 hB2 hmk hcH
  go_wp2_with fail
  go_loopg [6] n (fun gg iv wr => ∃ (i : Nat) (f : Nat → Value), i + gg = n ∧ iv = .int .i64 (i : Int) ∧ RefR wr (w.heap.size + 1) w.heap.size n n 0 (-1) false f ∧ (∀ j, j < 3 * i → f j = secV (fun _ => zero64) (fun _ => zero64) (fun _ => false) j) ∧ Below w.heap.size w wr)
  case atStart => exact ⟨0, _, by omega, rfl, hR2, fun j hj => by omega, hB3⟩
  case round =>
    clear hR2 hB3
    obtain ⟨i, f, hid, rfl, hR, hf, hB⟩ := hrel
    have hid' : Hid (i + gk = n) := hid
    have hfH : Hid _ := Lib.hid hf
    obtain ⟨c0, _⟩ := hR.fields
    clear hf
    by_cases hi : i < n
    · have hi' : (i : Int) < (n : Int) := by omega
      have hR1 := hR.set (i * 3) (strV zero64)
      have hR2 := hR1.set (i * 3 + 1) (strV zero64)
      have hR3 := hR2.set (i * 3 + 2) (.bool false)
      obtain ⟨x0, f0⟩ := hR.cell (j := i * 3) (by omega)
      obtain ⟨x1, f1⟩ := hR.cell (j := i * 3 + 1) (by omega)
      obtain ⟨x2, f2⟩ := hR.cell (j := i * 3 + 2) (by omega)
      have hC := ((((Chg.refl (fun k => w.heap.size ≤ k) wr).setCell (p := ⟨w.heap.size, i * 3, none⟩) (fun _ => Nat.le_refl _) (strV zero64)).setCell (p := ⟨w.heap.size, i * 3 + 1, none⟩) (fun _ => Nat.le_refl _) (strV zero64)).setCell (p := ⟨w.heap.size, i * 3 + 2, none⟩) (fun _ => Nat.le_refl _) (.bool false))
      have hB4 := hB.trans (hC.belowB hB.size (fun j hj e => by omega))
      clear hid hR1 hR2 hC
      go_wp2_with fail
      go_roundg (gk - 1)
      case measure => have := hid'.out; omega
      case rel =>
        refine ⟨i + 1, _, by have := hid'.out; omega, by go_num, hR3, fun j hj => ?_, hB4⟩
        by_cases e2 : j = i * 3 + 2
        · subst e2
          rw [upd_same, secV_2]
        · rw [upd_other _ e2]
          by_cases e1 : j = i * 3 + 1
          · subst e1
            rw [upd_same, secV_1]
          · rw [upd_other _ e1]
            by_cases e0 : j = i * 3
            · subst e0
              rw [upd_same, secV_0]
            · rw [upd_other _ e0]
              exact hfH.out j (by omega)
    · obtain rfl : i = n := by omega
      clear hid
      go_wp2_with fail
      go_ret2
      exact ⟨_, _, rfl, RefAt.mk' (D := DevS.new i) hR rfl rfl rfl (fun j hj => hfH.out j hj), by omega, Nat.le_refl _, hB⟩
end
end Go.Proofs.Ytbnoebdpbpjbkaa
