/-
  The texts Tb2 Mods, one behind the other.
-/
import Derived.Test.YtjngphffgdjcfaaGreatDoorME16
import Derived.Test.YtjngphffgdjcfaaGreatDoorMExInK
import Derived.Test.YtjngphffgdjcfaaGreatDoorME0
/-
  A base on a new store; the statements' own small functions of layer 6.
-/
namespace Go.Proofs.YtjngphffgdjcfaaGreatDoor
open Go.RowKit Go.Lz
section
variable {w w0 : World} {p q N cc m : Nat} {S : WalS} {F : Nat → Prop} {L : Locals} {A A0 : Nodes}
set_option maxRecDepth 100000 in
set_option maxHeartbeats 1000000 in
theorem iopen_any (h : StoreC Tryz.prog w p q S F) (h4 : 400 ≤ S.size) : Calls Tryz.prog 19 #[Dptr p] w fun e w' => e = .returned (.tuple #[Dptr w.heap.size, .int .i64 0]) ∧ Below w.heap.size w w' ∧ w'.heap.size = w.heap.size + 3 ∧
    w'.heap[w.heap.size]? = some (baseObj p (w.heap.size + 1) (w.heap.size + 2) S.size) ∧ w'.heap[w.heap.size + 1]? = some (mapObj p 0 64) ∧ w'.heap[w.heap.size + 2]? = some (mapObj p 1 (S.size - 300)) := by
  have h8 := h.size_le
  have cs : ∀ W, Below w.heap.size w W → Calls Tryz.prog 52 #[Dptr p] W fun e w' => e = .returned (.int .i64 (S.size : Int)) ∧ W = w' := fun W hb => csize (h.below hb)
  have cn : ∀ W (a n : Nat), Below w.heap.size w W → mapFits S.size a n = true → Calls Tryz.prog 53 #[Dptr p, .int .i64 (a : Int), .int .i64 (n : Int)] W fun e w' => e = .returned (.tuple #[Dptr W.heap.size, .int .i64 0]) ∧ w' = W.alloc (mapObj p a n) := fun W a n hb hf => by
    obtain ⟨c, hA⟩ := h.below hb
    refine (anew_any hA a n).mono ?_
    rw [WalS.wc_size, hf]
    rintro e w' (⟨_, he, hw⟩ | ⟨hx, _⟩)
    · exact ⟨he, hw⟩
    · cases hx
  have f1 : mapFits S.size ((0 : Nat) : Int) ((64 : Nat) : Int) = true := by unfold mapFits sectorsOf; exact decide_eq_true (by omega)
  have f2 : mapFits S.size ((1 : Nat) : Int) ((S.size - 300 : Nat) : Int) = true := by unfold mapFits sectorsOf; exact decide_eq_true (by omega)
  have hsz : ((S.size - 300 : Nat) : Int) = (S.size : Int) - 300 := by omega
  have h4z : ¬ (S.size : Int) < 400 := by omega
  go_enter Tryz.func19, Tryz.ntmps19
  go_upto_region 3 with (go_at_call 52; refine (cs _ (Below.refl _ w)).mono ?_; rintro e w1 ⟨rfl, rfl⟩)
  go_upto_region 4 with (go_at_call 52; refine (cs _ (Below.refl _ w)).mono ?_; rintro e w1 ⟨rfl, rfl⟩)
  have hb1 : Below w.heap.size w (w.alloc (.cells #[Dptr p, .pointer none, .pointer none, .int .i64 ((S.size : Int) - 300)] 66)) := (Below.refl _ w).alloc (Nat.le_refl _) _
  have s1 : (w.alloc (.cells #[Dptr p, .pointer none, .pointer none, .int .i64 ((S.size : Int) - 300)] 66)).heap.size = w.heap.size + 1 := by simp
  have k1 := heap_alloc_new w (.cells #[Dptr p, .pointer none, .pointer none, .int .i64 ((S.size : Int) - 300)] 66)
  generalize w.alloc (.cells #[Dptr p, .pointer none, .pointer none, .int .i64 ((S.size : Int) - 300)] 66) = W1 at *
  have c1 : Calls Tryz.prog 53 #[Dptr p, .int .i64 0, .int .i64 64] W1 fun e w' => e = .returned (.tuple #[Dptr (w.heap.size + 1), .int .i64 0]) ∧ w' = W1.alloc (mapObj p 0 64) := by
    have := cn W1 0 64 hb1 f1
    rw [s1] at this
    exact this
  have hb2 : Below w.heap.size w (W1.alloc (mapObj p 0 64)) := hb1.alloc (by omega) _
  have s2 : (W1.alloc (mapObj p 0 64)).heap.size = w.heap.size + 2 := by simp [s1]
  have k2 : (W1.alloc (mapObj p 0 64)).heap[w.heap.size]? = _ := (((Below.refl W1.heap.size W1).alloc (Nat.le_refl _) _).block w.heap.size (by omega)).trans k1
  have k2n : (W1.alloc (mapObj p 0 64)).heap[w.heap.size + 1]? = some (mapObj p 0 64) := by
    have := heap_alloc_new W1 (mapObj p 0 64)
    rwa [s1] at this
  generalize W1.alloc (mapObj p 0 64) = W2 at *
  have c2b := cell_of k2 1
  have f2b := frozen_of k2 1
  go_upto_region 5 with (go_at_call 53; refine c1.mono ?_; rintro e w2 ⟨rfl, rfl⟩)
  have hc2 : Chg (· = w.heap.size) w2 (w2.setCell ⟨w.heap.size, 1, none⟩ (Dptr (w.heap.size + 1))) := (Chg.refl _ w2).own 1 _
  have hb3 : Below w.heap.size w (w2.setCell ⟨w.heap.size, 1, none⟩ (Dptr (w.heap.size + 1))) := hb2.trans (hc2.belowB hb2.size (fun j hj e => by omega))
  have s3 : (w2.setCell ⟨w.heap.size, 1, none⟩ (Dptr (w.heap.size + 1))).heap.size = w.heap.size + 2 := by simp [s2]
  have k3 := heap_set_same k2 1 (Dptr (w.heap.size + 1))
  have k3n : (w2.setCell ⟨w.heap.size, 1, none⟩ (Dptr (w.heap.size + 1))).heap[w.heap.size + 1]? = some (mapObj p 0 64) := (heap_set_other (by simp) _).trans k2n
  simp only [List.setIfInBounds_toArray, List.set_cons_succ, List.set_cons_zero] at k3
  clear hc2 c2b f2b k1 hb1 hb2 c1 k2 k2n
  generalize w2.setCell ⟨w.heap.size, 1, none⟩ (Dptr (w.heap.size + 1)) = W3 at *
  have c3 : W3.cell? ⟨w.heap.size, 3, none⟩ = some (.int .i64 ((S.size : Int) - 300)) := cell_of k3 3
  have c5 : Calls Tryz.prog 53 #[Dptr p, .int .i64 1, .int .i64 ((S.size : Int) - 300)] W3 fun e w' => e = .returned (.tuple #[Dptr (w.heap.size + 2), .int .i64 0]) ∧ w' = W3.alloc (mapObj p 1 (S.size - 300)) := by
    have := cn W3 1 (S.size - 300) hb3 f2
    rw [s3, hsz] at this
    exact this
  have hb4 : Below w.heap.size w (W3.alloc (mapObj p 1 (S.size - 300))) := hb3.alloc (by omega) _
  have s4 : (W3.alloc (mapObj p 1 (S.size - 300))).heap.size = w.heap.size + 3 := by simp [s3]
  have hbW := (Below.refl W3.heap.size W3).alloc (Nat.le_refl _) (mapObj p 1 (S.size - 300))
  have k4 : (W3.alloc (mapObj p 1 (S.size - 300))).heap[w.heap.size]? = _ := (hbW.block w.heap.size (by omega)).trans k3
  have k4n : (W3.alloc (mapObj p 1 (S.size - 300))).heap[w.heap.size + 1]? = _ := (hbW.block (w.heap.size + 1) (by omega)).trans k3n
  have k4k : (W3.alloc (mapObj p 1 (S.size - 300))).heap[w.heap.size + 2]? = some (mapObj p 1 (S.size - 300)) := by
    have := heap_alloc_new W3 (mapObj p 1 (S.size - 300))
    rwa [s3] at this
  clear hbW
  generalize W3.alloc (mapObj p 1 (S.size - 300)) = W4 at *
  have c4b := cell_of k4 2
  have f4b := frozen_of k4 2
  go_wp2_with (go_at_call 53; refine c5.mono ?_; rintro e w4 ⟨rfl, rfl⟩)
  go_ret2
  have hc4 : Chg (· = w.heap.size) w4 (w4.setCell ⟨w.heap.size, 2, none⟩ (Dptr (w.heap.size + 2))) := (Chg.refl _ w4).own 2 _
  refine ⟨rfl, hb4.trans (hc4.belowB hb4.size (fun j hj e => by omega)), by simp [s4], ?_, (heap_set_other (by simp) _).trans k4n, (heap_set_other (by simp) _).trans k4k⟩
  have k5 := heap_set_same k4 2 (Dptr (w.heap.size + 2))
  refine k5.trans ?_
  unfold baseObj
  rw [hsz]
  rfl
def BaseO (L : Locals) (pb pn pk p N : Nat) : Locals := upd (upd (upd L pb (some (baseObj p pn pk N))) pn (some (mapObj p 0 64))) pk (some (mapObj p 1 (N - 300)))
theorem BaseO.baseL {L : Locals} {pb pn pk p N : Nat} (h1 : pb ≠ pn) (h2 : pb ≠ pk) (h3 : pn ≠ pk) : BaseL (BaseO L pb pn pk p N) pb p pn pk N := by
  unfold BaseO
  exact ⟨by rw [upd_other _ h2, upd_other _ h1, upd_same], by rw [upd_other _ h3, upd_same], upd_same _ _ _⟩
theorem BaseO.other {L : Locals} {pb pn pk p N k : Nat} (h1 : k ≠ pb) (h2 : k ≠ pn) (h3 : k ≠ pk) : BaseO L pb pn pk p N k = L k := by
  unfold BaseO
  rw [upd_other _ h3, upd_other _ h2, upd_other _ h1]
/-- A base is opened: three local blocks more. -/
theorem own_base {T : World → (Nat → Prop) → Prop} {w' : World} (h : Own w0 w T L) (hk : Keeps T) (hb : Below w.heap.size w w') (hs : w'.heap.size = w.heap.size + 3) (h1 : w'.heap[w.heap.size]? = some (baseObj p (w.heap.size + 1) (w.heap.size + 2) N)) (h2 : w'.heap[w.heap.size + 1]? = some (mapObj p 0 64)) (h3 : w'.heap[w.heap.size + 2]? = some (mapObj p 1 (N - 300))) :
    Own w0 w' T (BaseO L w.heap.size (w.heap.size + 1) (w.heap.size + 2) p N) := by
  obtain ⟨F, hT, hF, hb0, hL⟩ := h
  have hs0 := hb0.size
  have hc : Chg (fun _ => False) w w' := Chg.of_below hb
  refine ⟨F, hk _ _ _ _ hT hc (fun _ _ h => h), fun k hk => ⟨(hF k hk).1, by have := (hF k hk).2; omega⟩, hb0.trans (hb.mono hs0), fun b o ho => ?_⟩
  have hnF : ∀ k, w.heap.size ≤ k → ¬ F k := fun k hk h => by have := (hF k h).2; omega
  unfold BaseO at ho
  by_cases e3 : b = w.heap.size + 2
  · subst e3
    rw [upd_same] at ho
    cases ho
    exact ⟨by omega, hnF _ (by omega), h3⟩
  · rw [upd_other _ e3] at ho
    by_cases e2 : b = w.heap.size + 1
    · subst e2
      rw [upd_same] at ho
      cases ho
      exact ⟨by omega, hnF _ (by omega), h2⟩
    · rw [upd_other _ e2] at ho
      by_cases e1 : b = w.heap.size
      · subst e1
        rw [upd_same] at ho
        cases ho
        exact ⟨by omega, hnF _ (by omega), h1⟩
      · rw [upd_other _ e1] at ho
        obtain ⟨k1, k2, k3⟩ := hL b o ho
        exact ⟨k1, k2, (hb.block b (lt_of_heap k3)).trans k3⟩
/-- What Open of a base tells, in Own's form. -/
def OpenB (w0 w : World) (p N : Nat) (T : World → (Nat → Prop) → Prop) (L : Locals) (e : Ending) (w' : World) : Prop :=
  ∃ pb pn pk, e = .returned (.tuple #[Dptr pb, .int .i64 0]) ∧ Own w0 w' T (BaseO L pb pn pk p N) ∧ pb ≠ pn ∧ pb ≠ pk ∧ pn ≠ pk ∧ (w.heap.size ≤ pb ∧ w.heap.size ≤ pn ∧ w.heap.size ≤ pk) ∧ w.heap.size ≤ w'.heap.size
theorem newS_get {M k : Nat} (h1 : 300 < M) (h2 : M ≤ 8192) (hk : k < M - 300) : (newS M).get k = zero64 := by
  obtain ⟨K, hn⟩ := Kp.new (n := M) h1 h2
  rw [K.get hk, hn]
  rfl
theorem open6_new {M : Nat} (h : Own w0 w (TStore p q (newS M)) L) (h1 : 700 ≤ M) (h2 : M ≤ 8192) : Calls Tryz.prog 19 #[Dptr p] w (OpenB w0 w p (M - 300) (TB p q (M - 300) (fun _ => none) (fun _ => none) 0 0) L) := by
  obtain ⟨F, hS, _, _⟩ := h.step
  have B := BaseP.new h1 h2
  have hsz := B.kb.size
  have hO : Own w0 w (TB p q (M - 300) (fun _ => none) (fun _ => none) 0 0) L := h.view fun F' hT _ => ⟨_, _, StoreAt.toC hT, B, ⟨_, _, _, _, B, fun k hk => (newS_get (by omega) h2 hk).symm⟩⟩
  refine (iopen_any (StoreAt.toC hS) (by rw [hsz]; omega)).mono ?_
  rw [hsz]
  rintro e w' ⟨rfl, hb, hs, k1, k2, k3⟩
  exact ⟨_, _, _, rfl, own_base hO (keepsTB _ _ _ _ _ _ _) hb hs k1 k2 k3, by omega, by omega, by omega, ⟨by omega, by omega, by omega⟩, by omega⟩
theorem open6_again (h : Own w0 w (TB p q N A A0 cc m) L) : Calls Tryz.prog 19 #[Dptr p] w (OpenB w0 w p N (TB p q N A A0 cc m) L) := by
  obtain ⟨F, ⟨S, g, hS, B, D⟩, _, _⟩ := h.step
  refine (iopen_any hS (by rw [B.kb.size]; exact B.big)).mono ?_
  rw [B.kb.size]
  rintro e w' ⟨rfl, hb, hs, k1, k2, k3⟩
  exact ⟨_, _, _, rfl, own_base h (keepsTB _ _ _ _ _ _ _) hb hs k1 k2 k3, by omega, by omega, by omega, ⟨by omega, by omega, by omega⟩, by omega⟩
end
end Go.Proofs.YtjngphffgdjcfaaGreatDoor
/-
  A number brought between 0 and a bound, as the statements do it.
-/
namespace Go.Lz
open Go.RowKit
theorem mod_in (n m : Int) (h0 : 0 < m) (h1 : m ≤ 1000000) : ∃ N : Nat, (wrap64 (n.tmod m + m)).tmod m = (N : Int) ∧ (N : Int) < m := by
  have a := Int.tmod_lt_of_pos n h0
  have b := Int.lt_tmod_of_pos n h0
  have hw : wrap64 (n.tmod m + m) = n.tmod m + m := by
    unfold wrap64
    omega
  rw [hw, Int.tmod_eq_emod_of_nonneg (by omega)]
  have c := Int.emod_nonneg (n.tmod m + m) (show m ≠ 0 by omega)
  have d := Int.emod_lt_of_pos (n.tmod m + m) h0
  exact ⟨((n.tmod m + m) % m).toNat, by omega, by omega⟩
end Go.Lz
