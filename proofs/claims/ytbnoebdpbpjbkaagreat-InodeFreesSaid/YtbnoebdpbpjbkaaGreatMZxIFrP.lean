/-
  InodeFrees, plain; its function that tells.
-/
import Derived.Test.YtbnoebdpbpjbkaaGreatMZ20
import Derived.Deep.LoopGhost
namespace Go.Lz
open Go.RowKit Go.Proofs.YtbnoebdpbpjbkaaGreat
def frA (i : Nat) (sz : Nat → Nat) : Nodes := fun k => if 1 ≤ k ∧ k ≤ i then some ⟨1, [(k : Int)], [], 30, List.replicate (sz (k - 1)) 0⟩ else none
theorem frA_some {i k : Nat} {sz : Nat → Nat} (h : 1 ≤ k ∧ k ≤ i) : frA i sz k = some ⟨1, [(k : Int)], [], 30, List.replicate (sz (k - 1)) 0⟩ := if_pos h
theorem frA_none {i k : Nat} {sz : Nat → Nat} (h : ¬ (1 ≤ k ∧ k ≤ i)) : frA i sz k = none := if_neg h
theorem frA_succ (i : Nat) (sz : Nat → Nat) (x : Nat) : upd (frA i sz) (i + 1) (some ⟨1, [((i + 1 : Nat) : Int)], [], 30, List.replicate x 0⟩) = frA (i + 1) (upd sz i x) := by
  funext n
  unfold frA
  by_cases e : n = i + 1
  · subst e; rw [upd_same, if_pos (by omega), Nat.add_sub_cancel, upd_same]
  · rw [upd_other _ e]
    by_cases h : 1 ≤ n ∧ n ≤ i
    · rw [if_pos h, if_pos (by omega), upd_other _ (by omega)]
    · rw [if_neg h, if_neg (by omega)]
theorem frA_set (i : Nat) (sz : Nat → Nat) {j : Nat} (hj : j < i) (x : Nat) : upd (frA i sz) (j + 1) (some ⟨1, [((j + 1 : Nat) : Int)], [], 30, List.replicate x 0⟩) = frA i (upd sz j x) := by
  funext n
  unfold frA
  by_cases e : n = j + 1
  · subst e; rw [upd_same, if_pos (by omega), Nat.add_sub_cancel, upd_same]
  · rw [upd_other _ e]
    by_cases h : 1 ≤ n ∧ n ≤ i
    · rw [if_pos h, if_pos h, upd_other _ (by omega)]
    · rw [if_neg h, if_neg h]
theorem allOf_upd {A : Nodes} {n : Nat} {a : NodeA} (hn : n < 65) : allOf (upd A n (some a)) + withN (cOf A n) = allOf A + withN (cntN a.data.length) := by
  unfold allOf
  have := sumF_upd (fun n => withN (cOf A n)) (k := n) (m := 65) hn (withN (cntN a.data.length))
  have e : (fun n_1 => withN (cOf (upd A n (some a)) n_1)) = upd (fun n => withN (cOf A n)) n (withN (cntN a.data.length)) := by
    funext j
    rw [cOf_upd]
    by_cases e : j = n
    · subst e; rw [upd_same, upd_same]
    · rw [upd_other _ e, upd_other _ e]
  rw [e]
  exact this
theorem allOf_fr : ∀ (i : Nat) (sz : Nat → Nat), i ≤ 64 → allOf (frA i sz) = sumF (fun j => withN (cntN (sz j))) i
  | 0, sz, _ => by
    have : frA 0 sz = fun _ => none := by funext k; exact frA_none (by omega)
    rw [this]
    exact sumF_zero fun k _ => by rw [cOf_none rfl]; rfl
  | i + 1, sz, h => by
    have h1 := frA_succ i sz (sz i)
    have e : upd sz i (sz i) = sz := upd_self sz i
    rw [e] at h1
    have h2 := allOf_upd (A := frA i sz) (n := i + 1) (a := ⟨1, [((i + 1 : Nat) : Int)], [], 30, List.replicate (sz i) 0⟩) (by omega)
    rw [h1, cOf_none (frA_none (by omega)), allOf_fr i sz (by omega)] at h2
    have h3 : withN 0 = 0 := rfl
    rw [h3, List.length_replicate] at h2
    show _ = sumF _ i + withN (cntN (sz i))
    omega
theorem sumF_mono {f g : Nat → Nat} : ∀ {m : Nat}, (∀ k, k < m → f k ≤ g k) → sumF f m ≤ sumF g m
  | 0, _ => Nat.le_refl _
  | m + 1, h => by
    have h1 := sumF_mono (f := f) (g := g) (m := m) (fun k hk => h k (by omega))
    have h2 := h m (by omega)
    show sumF f m + f m ≤ sumF g m + g m
    omega
theorem sumF_pad {f : Nat → Nat} {i : Nat} : ∀ {m : Nat}, i ≤ m → (∀ k, i ≤ k → f k = 0) → sumF f m = sumF f i
  | 0, h, _ => by rw [show i = 0 by omega]
  | m + 1, h, h0 => by
    by_cases e : i = m + 1
    · rw [e]
    · show sumF f m + f m = _
      rw [h0 m (by omega), sumF_pad (m := m) (by omega) h0]
      rfl
def mostN (k : Nat) : Nat := if k = 0 then 0 else k + (k / 8 + 1)
theorem withN_least (k : Nat) : k ≤ withN k := by unfold withN; omega
theorem withN_most (k : Nat) : withN k ≤ mostN k := by
  unfold withN mostN
  split <;> omega
end Go.Lz
namespace Go.Proofs.YtbnoebdpbpjbkaaGreat
open Go.RowKit Go.Lz
section
variable {w w0 : World} {p q pb pn pk N cc m : Nat} {L : Locals} {A A0 : Nodes}
theorem lists_any (w : World) {k : Nat} (hk : k ≤ 1000) : Calls Tryz.prog 19 #[.int .i64 (k : Int)] w fun e w' => e = .returned (.int .i64 ((k / 8 + 1 : Nat) : Int)) ∧ w = w' := by
  have e : ((k / 8 + 1 : Nat) : Int) = (k : Int) / 8 + 1 := by omega
  rw [e]
  go_enter Tryz.func19, Tryz.ntmps19
  go_wp2_with fail
  go_ret
  exact ⟨rfl, rfl⟩
set_option maxRecDepth 100000 in
set_option maxHeartbeats 4000000 in
theorem told_any {b6 b7 b8 b9 b10 n : Nat} {sz : Nat → Nat} (h : Own w0 w (TB p q 600 A A0 cc m) L) (hL : BaseL L pb p pn pk 600)
    (c9 : L b9 = some (.cells #[.int .i64 (n : Int)] 3 (0, 0))) (c10 : L b10 = some (.cells (vec 6 fun k => .int .i64 (sz k : Int)) 47 (0, 0))) (c6 : L b6 = some (.cells #[Dptr pb] 23 (0, 0)))
    (c7 : L b7 = some (.cells #[.int .i64 300] 3 (0, 0))) (c8 : L b8 = some (.cells #[.int .i64 300] 3 (0, 0))) (hn : n ≤ 6) (hsz : ∀ k, sz k ≤ 1023) (hA : allOf A = sumF (fun j => withN (cntN (sz j))) n) :
    Calls Tryz.prog 18 #[.pointer (some ⟨b9, 0, none⟩), .pointer (some ⟨b10, 0, none⟩), .pointer (some ⟨b6, 0, none⟩), .pointer (some ⟨b7, 0, none⟩), .pointer (some ⟨b8, 0, none⟩)] w (Did w0 w (TB p q 600 A A0 cc m) L (.bool true)) := by
  have d9 : w.cell? ⟨b9, 0, none⟩ = some (.int .i64 (n : Int)) := cell_of (h.loc c9) 0
  have d6 : w.cell? ⟨b6, 0, none⟩ = some (Dptr pb) := cell_of (h.loc c6) 0
  have h10 := h.loc c10
  have h10H : Hid _ := Lib.hid h10
  have hH : Hid _ := Lib.hid h
  have hA1 : sumF (fun j => cntN (sz j)) n ≤ allOf A := by rw [hA]; exact sumF_mono fun k _ => withN_least _
  have hA2 : allOf A ≤ sumF (fun j => mostN (cntN (sz j))) n := by rw [hA]; exact sumF_mono fun k _ => withN_most _
  have hbnd : ∀ j, j ≤ 6 → sumF (fun j => cntN (sz j)) j ≤ 16 * j ∧ sumF (fun j => mostN (cntN (sz j))) j ≤ 19 * j := fun j => by
    induction j with
    | zero => intro _; exact ⟨Nat.le_refl _, Nat.le_refl _⟩
    | succ j ih =>
      intro hj
      obtain ⟨h1, h2⟩ := ih (by omega)
      have h3 := hsz j
      have h4 : cntN (sz j) ≤ 16 := by unfold cntN; omega
      have h5 : mostN (cntN (sz j)) ≤ 19 := by unfold mostN; split <;> omega
      exact ⟨by show sumF _ j + cntN (sz j) ≤ _; omega, by show sumF _ j + mostN (cntN (sz j)) ≤ _; omega⟩
  have hbH : Hid _ := Lib.hid hbnd
  have hA1H : Hid _ := Lib.hid hA1
  have hA2H : Hid _ := Lib.hid hA2
  have hszH : Hid _ := Lib.hid hsz
  clear h10 hA1 hA2 hbnd hA hsz h
  go_enter Tryz.func18, Tryz.ntmps18
  go_wp2_with fail
  go_loopg [8, 6, 7, 9, 12, 13, 14, 15, 16, 17, 18, 19, 20, 21, 22, 23, 24, 25, 26, 27, 28, 29, 30, 31, 32] n (fun g iv lv mv _ _ _ _ _ _ _ _ _ _ _ _ _ _ _ _ _ _ _ _ _ _ wr => ∃ j : Nat, j + g = n ∧ iv = .int .i64 (j : Int) ∧ lv = .int .i64 ((sumF (fun j => cntN (sz j)) j : Nat) : Int) ∧ mv = .int .i64 ((sumF (fun j => mostN (cntN (sz j))) j : Nat) : Int) ∧ wr = w)
  case atStart => exact ⟨0, by omega, rfl, rfl, rfl, rfl⟩
  case round =>
    obtain ⟨j, hj, rfl, rfl, rfl, rfl⟩ := hrel
    by_cases hjn : j < n
    · have hjz : (j : Int) < (n : Int) := by omega
      obtain ⟨s, hs⟩ : ∃ s, s = sz j := ⟨_, rfl⟩
      have d10 : wr.cell? ⟨b10, j, none⟩ = some (.int .i64 (s : Int)) := by
        rw [cell_of h10H.out, vec_at _ (by omega), hs]
      have hj6 : j < 6 := by omega
      have hs1 : s ≤ 1023 := by rw [hs]; exact hszH.out j
      obtain ⟨k, hk⟩ : ∃ k, k = cntN s := ⟨_, rfl⟩
      have ek : ((s : Int) + 63) / 64 = (k : Int) := by rw [hk]; unfold cntN; omega
      have hk16 : k ≤ 16 := by rw [hk]; unfold cntN; omega
      obtain ⟨a, ha⟩ : ∃ a, a = sumF (fun j => cntN (sz j)) j := ⟨_, rfl⟩
      obtain ⟨b, hb⟩ : ∃ b, b = sumF (fun j => mostN (cntN (sz j))) j := ⟨_, rfl⟩
      have hab := hbH.out j (by omega)
      rw [← ha, ← hb] at hab
      have hab1 : a ≤ 96 := by omega
      have hab2 : b ≤ 114 := by omega
      rw [← ha, ← hb]
      have cL := lists_any wr (k := k) (by omega)
      have hend : sumF (fun j => cntN (sz j)) (j + 1) = a + k := by rw [ha, hk, hs]; rfl
      have hend2 : sumF (fun j => mostN (cntN (sz j))) (j + 1) = b + mostN k := by rw [hb, hk, hs]; rfl
      have heH : Hid _ := Lib.hid (And.intro hend hend2)
      have hjH : Hid _ := Lib.hid hj
      clear hs hk ha hb hab hend hend2 hj hjn
      by_cases hk0 : k = 0
      · have hm0 : mostN k = 0 := by rw [hk0]; rfl
        have hkz : ¬ (0 : Int) < (k : Int) := by omega
        go_wp2_with fail
        go_roundg (gk - 1)
        case measure => have := hjH.out; omega
        case rel =>
          have := hjH.out
          exact ⟨j + 1, by omega, by go_num, by rw [heH.out.1]; go_num, by rw [heH.out.2, hm0]; go_num, rfl⟩
      · have hkz : (0 : Int) < (k : Int) := by omega
        have hm0 : mostN k = k + (k / 8 + 1) := by unfold mostN; rw [if_neg hk0]
        obtain ⟨x, hx⟩ : ∃ x, x = k / 8 + 1 := ⟨_, rfl⟩
        rw [← hx] at cL hm0
        have hx3 : x ≤ 3 := by omega
        clear hx
        go_wp2_with (go_at_call 19; refine cL.mono ?_; rintro e w2 ⟨rfl, rfl⟩)
        go_roundg (gk - 1)
        case measure => have := hjH.out; omega
        case rel =>
          have := hjH.out
          exact ⟨j + 1, by omega, by go_num, by rw [heH.out.1]; go_num, by rw [heH.out.2, hm0]; go_num, rfl⟩
    · obtain rfl : j = n := by omega
      have hjz : ¬ (j : Int) < (j : Int) := by omega
      obtain ⟨a, ha⟩ : ∃ a, a = sumF (fun j => cntN (sz j)) j := ⟨_, rfl⟩
      obtain ⟨b, hb⟩ : ∃ b, b = sumF (fun j => mostN (cntN (sz j))) j := ⟨_, rfl⟩
      have hab := hbH.out j (by omega)
      have hx1 := hA1H.out
      have hx2 := hA2H.out
      rw [← ha, ← hb] at hab
      rw [← ha] at hx1
      rw [← hb] at hx2
      rw [← ha, ← hb]
      have cB := blocks6 hH.out hL
      obtain ⟨x, hx⟩ : ∃ x, x = 600 - 300 - allOf A := ⟨_, rfl⟩
      rw [← hx] at cB
      have hb300 : b ≤ 114 := by omega
      have ha300 : a ≤ 96 := by omega
      have hz1 : (x : Int) ≤ 300 - (a : Int) := by omega
      have hz2 : 300 - (b : Int) ≤ (x : Int) := by omega
      have cB2 : Calls Tryz.prog 17 #[Dptr pb] wr (Did w0 wr (TB p q 600 A A0 cc m) L (.tuple #[.int .i64 (x : Int), .int .i64 300])) := cB
      clear cB ha hb hab hx1 hx2 hx hj
      go_upto_region 10 with (go_at_call 17; refine cB2.mono ?_; rintro e w3 ⟨rfl, hO3, hs3⟩)
      have d6 : w3.cell? ⟨b6, 0, none⟩ = some (Dptr pb) := cell_of (hO3.loc c6) 0
      have d7 : w3.cell? ⟨b7, 0, none⟩ = some (.int .i64 300) := cell_of (hO3.loc c7) 0
      have d8 : w3.cell? ⟨b8, 0, none⟩ = some (.int .i64 300) := cell_of (hO3.loc c8) 0
      have cK := check6 hO3 hL
      go_wp2_with (go_at_call 15; refine cK.mono ?_; rintro e w4 ⟨rfl, hO4, hs4⟩)
      go_ret
      exact ⟨rfl, hO4, Nat.le_trans hs3 hs4⟩
end
end Go.Proofs.YtbnoebdpbpjbkaaGreat
