/-
  DirPaths, walked: it answers true, if utf8's tables read as the library's text lays them.
-/
import Derived.Test.YtjngphffgdjcfaaDoorDL
import Derived.Test.YtjngphffgdjcfaaDoorDPP
import Derived.BigRegion
namespace Go.Proofs.YtjngphffgdjcfaaDoor
open Go.RowKit Go.Shelf Go.Lib

theorem mod_in (n m : Int) (h0 : 0 < m) (h1 : m ≤ 1000000) : ∃ N : Nat, (wrap64 (n.tmod m + m)).tmod m = (N : Int) ∧ (N : Int) < m := by
  have a := Int.tmod_lt_of_pos n h0
  have b := Int.lt_tmod_of_pos n h0
  have hw : wrap64 (n.tmod m + m) = n.tmod m + m := by
    unfold wrap64
    omega
  rw [hw, Int.tmod_eq_emod_of_nonneg (by omega)]
  have c := Int.emod_nonneg (n.tmod m + m) (show m ≠ 0 by omega)
  have d := Int.emod_lt_of_pos (n.tmod m + m) h0
  exact ⟨((n.tmod m + m) % m).toNat, by omega, by omega⟩
def wordCells : Array Value := #[.string ⟨#[]⟩, .string ⟨#[46]⟩, .string ⟨#[46, 46]⟩, .string ⟨#[97, 1]⟩, .string ⟨#[97, 127]⟩, .string ⟨#[97, 98, 99, 100, 101, 102, 103, 104, 105, 106, 107, 108, 109, 110, 111, 112, 113, 114, 115, 116, 117, 118, 119, 120, 121]⟩, .string ⟨#[255]⟩]

theorem run_letter {i : Nat} (hi : i < 100) (W : World) : (convert 30 9 (.slice (some ⟨W.heap.size, 0, none⟩) 1 1)).run Tryd.prog (W.alloc (.cells #[.int .u8 (97 + (i : Int))] 5)) = .ok (.string (letter i)) (W.alloc (.cells #[.int .u8 (97 + (i : Int))] 5)) := by
  refine run_convert_bytes_back (P := Tryd.prog) _ 30 9 5 ⟨W.heap.size, 0, none⟩ 1 [UInt8.ofNat (97 + i)] Tryd.underlying30 Tryd.underlying5 Tryd.underlying9 (fun j hj => ?_)
  have hn : (W.alloc (.cells #[.int .u8 (97 + (i : Int))] 5)).heap[W.heap.size]? = some (.cells #[.int .u8 (97 + (i : Int))] 5 (0, 0)) := heap_alloc_new W _
  have hj0 : j = 0 := by simpa using hj
  subst hj0
  show World.cell? _ ⟨W.heap.size, 0, none⟩ = _
  unfold World.cell?
  rw [hn]
  have : (UInt8.ofNat (97 + i)).toNat = 97 + i := by
    rw [UInt8.toNat_ofNat']
    omega
  simp
  omega
theorem run_letter_d {i : Nat} (hi : i < 100) (W : World) : (convert 30 9 (.slice (some ⟨W.heap.size, 0, none⟩) 1 1)).run Tryd.prog (W.alloc (.cells #[.int .u8 (97 + (i : Int))] 5)).drew = .ok (.string (letter i)) (W.alloc (.cells #[.int .u8 (97 + (i : Int))] 5)).drew := run_letter hi W.drew
theorem lt_of_heap {w : World} {g : Nat} {o : Obj} (h : w.heap[g]? = some o) : g < w.heap.size := (Array.getElem?_eq_some_iff.1 h).1
theorem words_size (b : Nat) : (wordsB.getD b ⟨#[]⟩).size ≤ 25 := by
  rcases Nat.lt_or_ge b 7 with h | h
  · have := List.all_eq_true.1 (show (List.range 7).all (fun b => decide ((wordsB.getD b ⟨#[]⟩).size ≤ 25)) = true by decide +kernel) b (by simpa using h)
    simpa using this
  · rw [List.getD_eq_getElem?_getD, List.getElem?_eq_none (by simpa [wordsB] using h)]
    decide
theorem qS_size (k : Nat) (x : ByteArray) (hx : x.size ≤ 25) : ∀ i : Nat, (qS k x i).size ≤ 26 * i := by
  intro i
  induction i with
  | zero => exact Nat.le_refl _
  | succ i ih =>
    unfold qS
    have h1 : (⟨#[47]⟩ : ByteArray).size = 1 := rfl
    have h2 : (⟨#[47, 120]⟩ : ByteArray).size = 2 := rfl
    split
    · simp only [ByteArray.size_append, h1]
      omega
    · simp only [ByteArray.size_append, h2]
      omega
theorem word_cell {w : World} {g : Nat} (h : w.heap[g]? = some (.cells wordCells 9 (0, 0))) {b : Nat} (hb : b < 7) : w.cell? ⟨g, b, none⟩ = some (.string (wordsB.getD b ⟨#[]⟩)) := by
  have : ∀ b : Nat, b < 7 → wordCells[b]? = some (.string (wordsB.getD b ⟨#[]⟩)) := by
    intro b hb
    match b, hb with
    | 0, _ => rfl
    | 1, _ => rfl
    | 2, _ => rfl
    | 3, _ => rfl
    | 4, _ => rfl
    | 5, _ => rfl
    | 6, _ => rfl
    | n + 7, h => omega
  simp [World.cell?, h, this b hb]
theorem bad_q {N k b : Nat} (hN : N < 12) (hk : k < N + 1) (hb : b < 7) : splitD (qS k (wordsB.getD b ⟨#[]⟩) (N + 1)) = none ∨ (qS k (wordsB.getD b ⟨#[]⟩) (N + 1)).toList = [47] := by
  have h1 := List.all_eq_true.1 qS_bad N (by simpa using hN)
  have h2 := List.all_eq_true.1 h1 k (by simpa using hk)
  have h3 := List.all_eq_true.1 h2 (wordsB.getD b ⟨#[]⟩) (by
    rw [List.getD_eq_getElem?_getD, List.getElem?_eq_getElem (show b < wordsB.length from hb)]
    exact List.getElem_mem _)
  rw [split_eq]
  simpa using h3
def SNone (E : Int) (w : World) (e : Ending) (w' : World) : Prop := ∃ ad cap, e = .returned (.tuple #[.slice ad 0 cap, .int .i64 E]) ∧ Below w.heap.size w w'
theorem split_empty {s : ByteArray} (hs : s.size ≤ 9223372036854775807) (h : s.toList = [47]) {w : World} (hE : Env w) : Calls Tryd.prog 8 #[.string s] w (SNone 0 w) := by
  have hs2 : s = ⟨#[47]⟩ := by
    rw [toList_data] at h
    rw [← mk_toList s, h]
    rfl
  subst hs2
  refine (dsplit _ w hs hE).mono ?_
  rintro e w' ⟨ad, cap, r1, r2, r3⟩
  rw [spl3] at r1
  exact ⟨ad, cap, r1, r3⟩
theorem split_none {s : ByteArray} (hs : s.size ≤ 9223372036854775807) (h : (splitD s).isNone = true) {w : World} (hE : Env w) : Calls Tryd.prog 8 #[.string s] w (SNone 1 w) := by
  refine (dsplit s w hs hE).mono ?_
  rintro e w' ⟨ad, cap, r1, r2, r3⟩
  have h2 : splitD s = none := by simpa using h
  rw [h2] at r1
  exact ⟨ad, cap, r1, r3⟩
theorem split_good (N : Nat) (hN : N < 8) {w : World} (hE : Env w) : Calls Tryd.prog 8 #[.string (pS (N + 1))] w fun e w' => ∃ g cap, e = .returned (.tuple #[.slice (some ⟨g, 0, none⟩) (N + 1) cap, .int .i64 0]) ∧ w'.cell? ⟨g, N, none⟩ = some (.string (⟨#[110]⟩ ++ letter N ++ ⟨#[195, 169]⟩)) ∧ Below w.heap.size w w' := by
  have h := List.all_eq_true.1 pS_last N (by simpa using hN)
  simp only [Bool.and_eq_true, beq_iff_eq] at h
  obtain ⟨⟨h1, h2⟩, h3⟩ := h
  have c := dsplit (pS (N + 1)) w (by rw [pS_size]; omega) hE
  refine c.mono ?_
  rintro e w' ⟨ad, cap, r1, r2, r3⟩
  rw [h1, h2] at r1
  rw [h2] at r2
  obtain ⟨y, hy, hy2⟩ := Option.map_eq_some_iff.1 h3
  obtain ⟨g, rfl, hc⟩ := r2.cell hy
  have : y = ⟨#[110]⟩ ++ letter N ++ ⟨#[195, 169]⟩ := by
    rw [toList_data, toList_data] at hy2
    rw [← mk_toList y, hy2, mk_toList]
  exact ⟨g, cap, r1, this ▸ hc, r3⟩

set_option maxHeartbeats 400000 in
set_option maxRecDepth 1000000 in
theorem dirPaths_any (n at' bad : Int) (w : World) (hE : Env w) : Calls Tryd.prog 4 #[.int .i64 n, .int .i64 at', .int .i64 bad] w fun e w' => e = .returned (.bool true) ∧ Below w.heap.size w w' := by
  obtain ⟨N0, hN0, hN0'⟩ := mod_in n 12 (by omega) (by omega)
  have hN12 : N0 < 12 := by omega
  go_enter Tryd.func4, Tryd.ntmps4
  go_wp2_with fail
  have hEH : Hid _ := Lib.hid hE
  clear hE
  go_loopg [8, 9, 27, 28, 29, 30, 31, 32, 33, 34, 35, 36, 37, 38, 39, 40] (N0 + 1) (fun g sv iv _ _ _ _ _ _ _ _ _ _ _ _ _ _ wr => ∃ i : Nat, i + g = N0 + 1 ∧ sv = .string (pS i) ∧ iv = .int .i64 (i : Int) ∧ wr.heap[w.heap.size]? = some (.cells wordCells 9 (0, 0)) ∧ Below w.heap.size w wr)
  case atStart => exact ⟨0, by omega, rfl, rfl, heap_alloc_new w _, (Below.refl _ w).alloc (Nat.le_refl _) _⟩
  case round =>
    obtain ⟨i, hi, rfl, rfl, hwd, hbw⟩ := hrel
    rename World => wr
    by_cases hlt : i < N0 + 1
    · have hiz : (i : Int) < (N0 : Int) + 1 := by omega
      have hcv := run_letter (i := i) (by omega)
      have hps : (pS i).size = 5 * i := pS_size i
      have hls : (letter i).size = 1 := rfl
      go_wp2_with fail
      go_roundg (gk - 1)
      case measure => omega
      case rel => exact ⟨i + 1, by omega, rfl, rfl, (((Below.refl _ wr).alloc (Nat.le_refl _) _).block _ (lt_of_heap hwd)).trans hwd, hbw.alloc hbw.size _⟩
    · have hiz : ¬ (i : Int) < (N0 : Int) + 1 := by omega
      have hiN : i = N0 + 1 := by omega
      subst hiN
      obtain ⟨k, hk, hk'⟩ := mod_in at' ((N0 : Int) + 1) (by omega) (by omega)
      obtain ⟨b, hb7, hb7'⟩ := mod_in bad 7 (by omega) (by omega)
      have hb7n : b < 7 := by omega
      have hP := pS_size (N0 + 1)
      have hnz : ((N0 : Int) + 1 == 0) = false := by simp; omega
      rcases Nat.lt_or_ge N0 8 with h8 | h8
      case' inl =>
        have c1 := split_good N0 h8 (hEH.out.below hbw)
        have h8z : (N0 : Int) + 1 ≤ 8 := by omega
        go_upto_region 9 with (go_at_call 8; refine c1.mono ?_; rintro e w1 ⟨g1, cap1, rfl, hc1, hb1⟩)
        have hcv := run_letter_d (i := N0) (by omega)
        have hls : (letter N0).size = 1 := rfl
        have hbw1 := hbw.trans (hb1.mono hbw.size)
        have hwd1 := (hb1.block _ (lt_of_heap hwd)).trans hwd
        have hbw2 : Hid _ := Lib.hid (hbw1.alloc hbw1.size (.cells #[.int .u8 (97 + (N0 : Int))] 5)).drew
        have hwd2 : Hid _ := Lib.hid ((((Below.refl _ w1).alloc (Nat.le_refl _) (.cells #[.int .u8 (97 + (N0 : Int))] 5)).drew.block _ (lt_of_heap hwd1)).trans hwd1)
        have hb8 : decide ((N0 : Int) + 1 ≤ 8) = true := decide_eq_true h8z
        have hc1' : (w1.alloc (.cells #[.int .u8 (97 + (N0 : Int))] 5)).cell? ⟨g1, N0, none⟩ = _ := (World.cell?_alloc_lt _ _ _ (lt_of_cell hc1)).trans hc1
        clear hbw hwd hb1 hi hlt hN0' c1 hbw1 hwd1
        go_big_region
        generalize (w1.alloc (.cells #[.int .u8 (97 + (N0 : Int))] 5)).drew = w2 at hbw2 hwd2 ⊢
        clear hc1 hc1' hcv hls hb8 h8z h8
        go_wp2_with fail
      case' inr =>
        have c1 := split_none (s := pS (N0 + 1)) (by omega) (by
          have h := List.all_eq_true.1 pS_many (N0 + 1) (by simp; omega)
          exact h) (hEH.out.below hbw)
        have h8z : ¬ (N0 : Int) + 1 ≤ 8 := by omega
        go_upto_region 9 with (go_at_call 8; refine c1.mono ?_; rintro e w1 ⟨ad1, cap1, rfl, hb1⟩)
        have hbw1 := hbw.trans (hb1.mono hbw.size)
        have hwd1 := (hb1.block _ (lt_of_heap hwd)).trans hwd
        have hbw2 : Hid _ := Lib.hid hbw1.drew
        have hwd2 : Hid _ := Lib.hid (show w1.drew.heap[w.heap.size]? = _ from hwd1)
        have hb8 : decide ((N0 : Int) + 1 ≤ 8) = false := decide_eq_false (by omega)
        clear hbw hwd hb1 hi hlt hN0' c1 hbw1 hwd1
        go_big_region
        generalize w1.drew = w2 at hbw2 hwd2 ⊢
        clear hb8 h8z h8
        go_wp2_with fail
      all_goals
        go_loopg [13, 14, 84, 85, 86, 87, 88, 89, 90, 91, 92, 93, 94, 95, 96, 97, 98, 99, 100, 101, 102, 103] (N0 + 1) (fun g qv iv _ _ _ _ _ _ _ _ _ _ _ _ _ _ _ _ _ _ _ _ wr => ∃ i : Nat, i + g = N0 + 1 ∧ qv = .string (qS k (wordsB.getD b ⟨#[]⟩) i) ∧ iv = .int .i64 (i : Int) ∧ wr.heap[w.heap.size]? = some (.cells wordCells 9 (0, 0)) ∧ Below w.heap.size w wr)
        case atStart => exact ⟨0, by omega, rfl, rfl, hwd2.out, hbw2.out⟩
        case round =>
          obtain ⟨i, hi, rfl, rfl, hwd, hbw⟩ := hrel
          rename World => wr
          have hqs := qS_size k (wordsB.getD b ⟨#[]⟩) (words_size b) i
          by_cases hlt : i < N0 + 1
          · have hiz : (i : Int) < (N0 : Int) + 1 := by omega
            by_cases hik : i = k
            · have hikz : ((i : Int) == (k : Int)) = true := by simp [hik]
              have hc := word_cell hwd hb7n
              have hws := words_size b
              have hq1 : qS k (wordsB.getD b ⟨#[]⟩) (i + 1) = qS k (wordsB.getD b ⟨#[]⟩) i ++ ⟨#[47]⟩ ++ wordsB.getD b ⟨#[]⟩ := by rw [qS, if_pos hik]
              have hq1H : Hid _ := Lib.hid hq1
              have hbz : (b : Int) < 7 := by omega
              clear hik hq1
              generalize wordsB.getD b ⟨#[]⟩ = x at *
              generalize qS k x i = q at *
              go_wp2_with fail
              go_roundg (gk - 1)
              case measure => omega
              case rel => exact ⟨i + 1, by omega, by rw [hq1H.out], rfl, hwd, hbw⟩
            · have hikz : ((i : Int) == (k : Int)) = false := by simp; omega
              have hq1 : qS k (wordsB.getD b ⟨#[]⟩) (i + 1) = qS k (wordsB.getD b ⟨#[]⟩) i ++ ⟨#[47, 120]⟩ := by rw [qS, if_neg hik]
              have hq1H : Hid _ := Lib.hid hq1
              clear hik hq1
              generalize wordsB.getD b ⟨#[]⟩ = x at *
              generalize qS k x i = q at *
              go_wp2_with fail
              go_roundg (gk - 1)
              case measure => omega
              case rel => exact ⟨i + 1, by omega, by rw [hq1H.out], rfl, hwd, hbw⟩
          · have hiz : ¬ (i : Int) < (N0 : Int) + 1 := by omega
            have hiN : i = N0 + 1 := by omega
            subst hiN
            have hqb := bad_q hN12 (k := k) (by omega) hb7n
            have hs1 : (qS k (wordsB.getD b ⟨#[]⟩) (N0 + 1)).size ≤ 9223372036854775807 := by omega
            have h47 : (⟨#[47]⟩ : ByteArray).size = 1 := rfl
            have cS : ∀ W, Env W → Calls Tryd.prog 8 #[.string (pS (N0 + 1) ++ ⟨#[47]⟩)] W (SNone 1 W) := fun W hW => split_none (by
              rw [ByteArray.size_append, hP]
              omega) (List.all_eq_true.1 pS_slash N0 (by simpa using hN12)) hW
            have cR : ∀ W, Env W → Calls Tryd.prog 8 #[.string ((pS (N0 + 1)).extract 1 (pS (N0 + 1)).size)] W (SNone 1 W) := fun W hW => split_none (by
              rw [ByteArray.size_extract, hP]
              omega) (List.all_eq_true.1 pS_rest N0 (by simpa using hN12)) hW
            have hbwH : Hid _ := Lib.hid hbw
            have hP1 : 1 ≤ (pS (N0 + 1)).size := by omega
            have hP2 : (pS (N0 + 1)).size ≤ 1000 := by omega
            clear hbw hwd hP
            rcases hqb with hq | hq
            case' inl =>
              have cQ : ∀ W, Env W → Calls Tryd.prog 8 #[.string (qS k (wordsB.getD b ⟨#[]⟩) (N0 + 1))] W (SNone 1 W) := fun W hW => split_none hs1 (by rw [hq]; rfl) hW
              clear hq
            case' inr =>
              have cQ : ∀ W, Env W → Calls Tryd.prog 8 #[.string (qS k (wordsB.getD b ⟨#[]⟩) (N0 + 1))] W (SNone 0 W) := fun W hW => split_empty hs1 hq hW
              have hq47 : ((qS k (wordsB.getD b ⟨#[]⟩) (N0 + 1)).toList == [47]) = true := by rw [hq]; rfl
              clear hq
            all_goals
              have cSH : Hid _ := Lib.hid cS
              have cRH : Hid _ := Lib.hid cR
              have cQH : Hid _ := Lib.hid cQ
              clear cS cR cQ
              generalize qS k (wordsB.getD b ⟨#[]⟩) (N0 + 1) = q at *
              generalize pS (N0 + 1) = P at *
              go_upto_region 20 with (go_at_call 8; refine (cQH.out wr (hEH.out.below hbwH.out)).mono ?_; rintro e w3 ⟨ad3, cap3, rfl, hb3⟩)
              have h3 : Hid _ := Lib.hid (hbwH.out.trans (hb3.mono hbwH.out.size))
              clear hb3 hbwH
              go_upto_region 21 with (go_at_call 8; refine (cSH.out w3 (hEH.out.below h3.out)).mono ?_; rintro e w4 ⟨ad4, cap4, rfl, hb4⟩)
              have h4 : Hid _ := Lib.hid (h3.out.trans (hb4.mono h3.out.size))
              clear hb4 h3
              go_upto_region 22 with (go_at_call 8; refine (cRH.out w4 (hEH.out.below h4.out)).mono ?_; rintro e w5 ⟨ad5, cap5, rfl, hb5⟩)
              have h5 : Hid _ := Lib.hid (h4.out.trans (hb5.mono h4.out.size))
              clear hb5 h4
              go_wp2_with (go_at_call 9; refine (awake_any _ (hEH.out.below h5.out)).mono ?_; rintro e w6 ⟨rfl, hb6⟩)
              go_ret
              exact ⟨rfl, h5.out.trans (hb6.mono h5.out.size)⟩
end Go.Proofs.YtjngphffgdjcfaaDoor
