/-
  DirNames, walked: it answers true, if utf8's tables read as the library's text lays them.
-/
import Derived.Test.YtjngphffgdjcfaaDoorDN
import Derived.BigQuiet
import Derived.Deep.QuietTactic
namespace Go.Proofs.YtjngphffgdjcfaaDoor
open Go.RowKit Go.Shelf Go.Lib

/-- What the calls ask of the world. -/
structure Env (w : World) : Prop where
  h3 : 3 < w.heap.size
  hm : ∃ m, w.cell? ⟨3, 0, none⟩ = some (.int .i64 m)
  hT : ∀ w', Below w.heap.size w w' → Tabs w'
theorem Env.below {w w' : World} (h : Env w) (hb : Below w.heap.size w w') : Env w' := by
  obtain ⟨m, hm⟩ := h.hm
  refine ⟨Nat.lt_of_lt_of_le h.h3 hb.size, ⟨m, ?_⟩, fun w2 h2 => h.hT w2 (hb.trans (h2.mono hb.size))⟩
  have := hb.block 3 h.h3
  simp only [World.cell?] at hm ⊢
  rw [this]
  exact hm
/-- A row of strings. -/
def StrRow (w : World) (v : Value) (l : List ByteArray) : Prop := ∃ ad cap, v = .slice ad l.length cap ∧ ∀ (j : Nat) x, l[j]? = some x → ∃ g, ad = some ⟨g, 0, none⟩ ∧ g < w.heap.size ∧ w.cell? ⟨g, j, none⟩ = some (.string x)
theorem lt_of_cell {w : World} {g j : Nat} {v : Value} (h : w.cell? ⟨g, j, none⟩ = some v) : g < w.heap.size := by
  rcases Nat.lt_or_ge g w.heap.size with k | k
  · exact k
  · simp [World.cell?, Array.getElem?_eq_none k] at h
theorem StrRow.below {w w' : World} {v : Value} {l : List ByteArray} (h : StrRow w v l) (hb : Below w.heap.size w w') : StrRow w' v l := by
  obtain ⟨ad, cap, h1, h2⟩ := h
  refine ⟨ad, cap, h1, fun j x hx => ?_⟩
  obtain ⟨g, e, hg, hc⟩ := h2 j x hx
  refine ⟨g, e, Nat.lt_of_lt_of_le hg hb.size, ?_⟩
  simp only [World.cell?] at hc ⊢
  rw [hb.block g hg]
  exact hc
theorem StrRow.cell {w : World} {ad : Option Addr} {cap n : Nat} {l : List ByteArray} (h : StrRow w (.slice ad n cap) l) {j : Nat} {x : ByteArray} (hx : l[j]? = some x) : ∃ g, ad = some ⟨g, 0, none⟩ ∧ w.cell? ⟨g, j, none⟩ = some (.string x) := by
  obtain ⟨ad', cap', h1, h2⟩ := h
  cases h1
  obtain ⟨g, e, _, hc⟩ := h2 j x hx
  exact ⟨g, e, hc⟩
/-- What a split tells. -/
def SplitRes (w : World) (r : Option (List ByteArray)) (e : Ending) (w' : World) : Prop :=
  ∃ ad cap, e = .returned (.tuple #[.slice ad ((r.getD []).length : Nat) cap, .int .i64 (if r.isSome then 0 else 1)]) ∧ StrRow w' (.slice ad ((r.getD []).length : Nat) cap) (r.getD []) ∧ Below w.heap.size w w'
theorem dsplit (s : ByteArray) (w : World) (hs : s.size ≤ 9223372036854775807) (hE : Env w) : Calls Tryd.prog 8 #[.string s] w (SplitRes w (splitD s)) := by
  obtain ⟨m, hm⟩ := hE.hm
  refine (split_any s m w hs hm hE.h3 hE.hT).mono ?_
  rintro e w' ⟨hb, h⟩
  cases hr : splitD s with
  | none =>
    rw [hr] at h
    exact ⟨none, 0, h, ⟨none, 0, rfl, fun j x hx => by simp at hx⟩, hb⟩
  | some l =>
    rw [hr] at h
    obtain ⟨sv, h1, h2⟩ := h
    rcases h2 with ⟨rfl, rfl⟩ | ⟨g, rfl, hg, hc⟩
    · exact ⟨none, 0, h1, ⟨none, 0, rfl, fun j x hx => by simp at hx⟩, hb⟩
    · refine ⟨_, _, h1, ⟨_, _, rfl, fun j x hx => ?_⟩, hb⟩
      have hx : l[j]? = some x := hx
      have : w'.cell? ⟨g, j, none⟩ = some (.string x) := by simp [World.cell?, hc, hx]
      exact ⟨g, rfl, lt_of_cell this, this⟩
theorem rsplit (s : ByteArray) (w : World) (hs : s.size ≤ 9223372036854775807) : Calls Tryd.prog 10 #[.string s] w (SplitRes w (split8 s)) := by
  refine (split8_any s w hs).mono ?_
  rintro e w' ⟨hb, h⟩
  cases hr : split8 s with
  | none =>
    rw [hr] at h
    exact ⟨none, 0, h, ⟨none, 0, rfl, fun j x hx => by simp at hx⟩, hb⟩
  | some l =>
    rw [hr] at h
    obtain ⟨sv, h1, h2⟩ := h
    rcases h2.post with ⟨rfl, rfl⟩ | ⟨g, cap, rfl, hc⟩
    · exact ⟨none, 0, h1, ⟨none, 0, rfl, fun j x hx => by simp at hx⟩, hb⟩
    · refine ⟨_, _, h1, ⟨_, _, rfl, fun j x hx => ?_⟩, hb⟩
      exact ⟨g, rfl, lt_of_cell (hc j x hx), hc j x hx⟩

theorem splitD_len (s : ByteArray) : ((splitD s).getD []).length ≤ 8 := by
  unfold splitD
  split
  · simp
  · split
    · simp
    · split
      · simp
      · rename_i h
        simp only [Option.getD_some]
        omega
theorem spl1 : splitD ⟨#[47, 97, 47, 98]⟩ = some [⟨#[97]⟩, ⟨#[98]⟩] := by kernel_rfl
theorem spl2 : splitD ⟨#[47, 97, 47, 47, 98]⟩ = none := by kernel_rfl
theorem spl3 : splitD ⟨#[47]⟩ = some [] := by kernel_rfl
theorem nam1 : nameD ⟨#[120]⟩ = true := by kernel_rfl
theorem nam2 : nameD ⟨#[46, 46]⟩ = false := by kernel_rfl
set_option maxRecDepth 1000000 in
set_option maxHeartbeats 400000 in
theorem awake_any (w : World) (hE : Env w) : Calls Tryd.prog 9 #[] w fun e w' => e = .returned (.bool true) ∧ Below w.heap.size w w' := by
  have cA : ∀ w', Below w.heap.size w w' → Calls Tryd.prog 8 #[.string ⟨#[47, 97, 47, 98]⟩] w' (fun e w2 => ∃ g cap, e = .returned (.tuple #[.slice (some ⟨g, 0, none⟩) 2 cap, .int .i64 0]) ∧ w2.cell? ⟨g, 1, none⟩ = some (.string ⟨#[98]⟩) ∧ Below w'.heap.size w' w2) := fun w' hb => by
    have h := dsplit ⟨#[47, 97, 47, 98]⟩ w' (by decide) (hE.below hb)
    rw [spl1] at h
    refine h.mono ?_
    rintro e w2 ⟨ad, cap, h1, h2, h3⟩
    obtain ⟨g, rfl, hc⟩ := h2.cell (j := 1) (x := ⟨#[98]⟩) rfl
    exact ⟨g, cap, h1, hc, h3⟩
  have cB : ∀ w', Below w.heap.size w w' → Calls Tryd.prog 8 #[.string ⟨#[47, 97, 47, 47, 98]⟩] w' (fun e w2 => ∃ ad cap, e = .returned (.tuple #[.slice ad 0 cap, .int .i64 1]) ∧ Below w'.heap.size w' w2) := fun w' hb => by
    have h := dsplit ⟨#[47, 97, 47, 47, 98]⟩ w' (by decide) (hE.below hb)
    rw [spl2] at h
    refine h.mono ?_
    rintro e w2 ⟨ad, cap, h1, h2, h3⟩
    exact ⟨ad, cap, h1, h3⟩
  have cC : ∀ w', Below w.heap.size w w' → Calls Tryd.prog 8 #[.string ⟨#[47]⟩] w' (fun e w2 => ∃ ad cap, e = .returned (.tuple #[.slice ad 0 cap, .int .i64 0]) ∧ Below w'.heap.size w' w2) := fun w' hb => by
    have h := dsplit ⟨#[47]⟩ w' (by decide) (hE.below hb)
    rw [spl3] at h
    refine h.mono ?_
    rintro e w2 ⟨ad, cap, h1, h2, h3⟩
    exact ⟨ad, cap, h1, h3⟩
  have cX : ∀ w', Below w.heap.size w w' → Calls Tryd.prog 11 #[.string ⟨#[120]⟩] w' (fun e w2 => e = .returned (.bool true) ∧ Below w'.heap.size w' w2) := fun w' hb => by
    have h := name_any ⟨#[120]⟩ w' (by decide) (hE.below hb).hT
    rw [nam1] at h
    exact h
  have cY : ∀ w', Below w.heap.size w w' → Calls Tryd.prog 11 #[.string ⟨#[46, 46]⟩] w' (fun e w2 => e = .returned (.bool false) ∧ Below w'.heap.size w' w2) := fun w' hb => by
    have h := name_any ⟨#[46, 46]⟩ w' (by decide) (hE.below hb).hT
    rw [nam2] at h
    exact h
  have cAH : Hid _ := Lib.hid cA
  have cBH : Hid _ := Lib.hid cB
  have cCH : Hid _ := Lib.hid cC
  have cXH : Hid _ := Lib.hid cX
  have cYH : Hid _ := Lib.hid cY
  clear cA cB cC cX cY hE
  go_enter Tryd.func9, Tryd.ntmps9
  go_upto_region 4 with (first
    | (go_at_call 8; with_reducible refine (cAH.out w (Below.refl _ _)).mono ?_; rintro e w1 ⟨g1, cap1, rfl, hc1, hb1⟩; have hb1H : Hid _ := Lib.hid hb1; clear hb1)
    | (go_at_call 8; with_reducible refine (cBH.out w1 hb1H.out).mono ?_; rintro e w2 ⟨ad2, cap2, rfl, hb2⟩)
    | (go_at_call 8; with_reducible refine (cCH.out w2 (hb1H.out.trans (hb2.mono hb1H.out.size))).mono ?_; rintro e w3 ⟨ad3, cap3, rfl, hb3⟩)
    | fail)
  have hb3' := hb1H.out.trans ((hb2.trans (hb3.mono hb2.size)).mono hb1H.out.size)
  have hc3 : w3.cell? ⟨g1, 1, none⟩ = some (.string ⟨#[98]⟩) := by
    have hlt := lt_of_cell hc1
    have := (hb2.trans (hb3.mono hb2.size)).block g1 hlt
    simp only [World.cell?] at hc1 ⊢
    rw [this]
    exact hc1
  clear hc1
  have hb3H : Hid _ := Lib.hid hb3'
  clear hb2 hb3 hb3' hb1H
  go_wp2_with (first
    | (go_at_call 11; with_reducible refine (cXH.out w3 hb3H.out).mono ?_; rintro e w4 ⟨rfl, hb4⟩)
    | (go_at_call 11; with_reducible refine (cYH.out w4 (hb3H.out.trans (hb4.mono hb3H.out.size))).mono ?_; rintro e w5 ⟨rfl, hb5⟩)
    | fail)
  go_ret
  exact ⟨rfl, hb3H.out.trans ((hb4.trans (hb5.mono hb4.size)).mono hb3H.out.size)⟩

set_option maxHeartbeats 400000 in
set_option maxRecDepth 1000000 in
theorem dirNames_any (s p : ByteArray) (w : World) (hs : s.size ≤ 9223372036854775807) (hp : p.size ≤ 9223372036854775807) (hE : Env w) : Calls Tryd.prog 5 #[.string s, .string p] w fun e w' => e = .returned (.bool true) ∧ Below w.heap.size w w' := by
  obtain ⟨L, E, hL, c1, c2⟩ : ∃ (L : List ByteArray) (E : Int), L.length ≤ 8 ∧ (∀ w', Below w.heap.size w w' → Calls Tryd.prog 8 #[.string p] w' (fun e w2 => ∃ ad cap, e = .returned (.tuple #[.slice ad L.length cap, .int .i64 E]) ∧ StrRow w2 (.slice ad L.length cap) L ∧ Below w'.heap.size w' w2)) ∧
      (∀ w', Below w.heap.size w w' → Calls Tryd.prog 10 #[.string p] w' (fun e w2 => ∃ ad cap, e = .returned (.tuple #[.slice ad L.length cap, .int .i64 E]) ∧ StrRow w2 (.slice ad L.length cap) L ∧ Below w'.heap.size w' w2)) := by
    refine ⟨(splitD p).getD [], if (splitD p).isSome then 0 else 1, splitD_len p, fun w' hb => dsplit p w' hp (hE.below hb), fun w' hb => ?_⟩
    have h := rsplit p w' hp
    rw [← split_eq] at h
    exact h
  obtain ⟨N, c3, c4⟩ : ∃ N : Bool, (∀ w', Below w.heap.size w w' → Calls Tryd.prog 11 #[.string s] w' (fun e w2 => e = .returned (.bool N) ∧ Below w'.heap.size w' w2)) ∧
      (∀ w', Below w.heap.size w w' → Calls Tryd.prog 12 #[.string s] w' (fun e w2 => e = .returned (.bool N) ∧ Below w'.heap.size w' w2)) := by
    refine ⟨nameD s, fun w' hb => name_any s w' hs (hE.below hb).hT, fun w' hb => ?_⟩
    have h := name8_any s w' hs
    rw [name_eq] at h
    exact h
  have c5 : ∀ w', Below w.heap.size w w' → Calls Tryd.prog 9 #[] w' fun e w2 => e = .returned (.bool true) ∧ Below w'.heap.size w' w2 := fun w' hb => awake_any w' (hE.below hb)
  have c1H : Hid _ := Lib.hid c1
  have c2H : Hid _ := Lib.hid c2
  have c3H : Hid _ := Lib.hid c3
  have c4H : Hid _ := Lib.hid c4
  have c5H : Hid _ := Lib.hid c5
  clear c1 c2 c3 c4 c5 hE
  have hN : (N != N) = false := by cases N <;> rfl
  go_enter Tryd.func5, Tryd.ntmps5
  go_wp2_with (first
    | (go_at_call 8; refine (c1H.out w (Below.refl _ _)).mono ?_; rintro e w1 ⟨ad1, cap1, rfl, hr1, hb1⟩)
    | (go_at_call 10; refine (c2H.out w1 hb1).mono ?_; rintro e w2 ⟨ad2, cap2, rfl, hr2, hb2⟩)
    | (go_at_call 11; refine (c3H.out w2 (hb1.trans (hb2.mono hb1.size))).mono ?_; rintro e w3 ⟨rfl, hb3⟩)
    | (go_at_call 12; refine (c4H.out w3 ((hb1.trans (hb2.mono hb1.size)).trans (hb3.mono (hb1.trans (hb2.mono hb1.size)).size))).mono ?_; rintro e w4 ⟨rfl, hb4⟩)
    | fail)
  have hb14 := ((hb1.trans (hb2.mono hb1.size)).trans (hb3.mono (hb1.trans (hb2.mono hb1.size)).size)).trans (hb4.mono ((hb1.trans (hb2.mono hb1.size)).trans (hb3.mono (hb1.trans (hb2.mono hb1.size)).size)).size)
  have hr1' := hr1.below ((hb2.trans (hb3.mono hb2.size)).trans (hb4.mono (hb2.trans (hb3.mono hb2.size)).size))
  have hr2' := hr2.below (hb3.trans (hb4.mono hb3.size))
  have hr1H : Hid _ := Lib.hid hr1'
  have hr2H : Hid _ := Lib.hid hr2'
  have hb4H : Hid _ := Lib.hid hb14
  clear hr1 hr2 hr1' hr2' hb1 hb2 hb3 hb4 hb14 c1H c2H c3H c4H hN
  go_loopg [9, 4, 37, 38, 39, 40, 41, 42, 43, 44, 45, 46, 47, 48, 49, 50, 51] L.length (fun g iv _ _ _ _ _ _ _ _ _ _ _ _ _ _ _ _ wr => ∃ i : Nat, i + g = L.length ∧ iv = .int .i64 (i : Int) ∧ Below w4.heap.size w4 wr)
  case atStart => exact ⟨0, by omega, rfl, Below.refl _ _⟩
  case round =>
    obtain ⟨i, hi, rfl, hbw⟩ := hrel
    rename World => wr
    by_cases hlt : i < L.length
    · have hiz : (i : Int) < (L.length : Int) := by omega
      obtain ⟨g1, rfl, hc1⟩ := (hr1H.out.below hbw).cell (List.getElem?_eq_getElem hlt)
      obtain ⟨g2, rfl, hc2⟩ := (hr2H.out.below hbw).cell (List.getElem?_eq_getElem hlt)
      generalize L[i] = x at hc1 hc2
      go_wp2_with fail
      refine wp_region_quiet (C := fun W => W = wr.drew) (by kernel_rfl) (by kernel_rfl) rfl ?_
      repeat (any_goals (first | go_big_quiet_step (fail) | quiet_step (fail)))
      refine wpQuiet_nil ?_
      rintro _ rfl
      go_wp2_with fail
      go_roundg (gk - 1)
      case measure => omega
      case rel => exact ⟨i + 1, by omega, rfl, hbw.drew⟩
    · have hiz : ¬ (i : Int) < (L.length : Int) := by omega
      go_wp2_with (go_at_call 9; refine (c5H.out _ (hb4H.out.trans (hbw.mono hb4H.out.size))).mono ?_; rintro e w5 ⟨rfl, hb5⟩)
      go_ret
      exact ⟨rfl, (hb4H.out.trans (hbw.mono hb4H.out.size)).trans (hb5.mono (hb4H.out.trans (hbw.mono hb4H.out.size)).size)⟩
end Go.Proofs.YtjngphffgdjcfaaDoor
