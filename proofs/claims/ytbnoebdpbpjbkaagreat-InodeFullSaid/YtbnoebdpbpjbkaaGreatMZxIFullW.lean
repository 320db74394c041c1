/-
  InodeFull, walked.
-/
import Derived.Test.YtbnoebdpbpjbkaaGreatMZ20
import Derived.Deep.LoopGhost
namespace Go.Proofs.YtbnoebdpbpjbkaaGreat
open Go.RowKit Go.Lz
section
variable {w w0 : World} {p q pb pn pk N cc m : Nat} {L : Locals} {A A0 : Nodes}
def fullA (rm i : Nat) : Nodes := fun n => if 1 ≤ n ∧ n ≤ i then some ⟨1, [], [], rm, []⟩ else none
theorem fullA_succ (rm i : Nat) : upd (fullA rm i) (i + 1) (some ⟨1, [], [], rm, []⟩) = fullA rm (i + 1) := by
  funext n
  unfold fullA
  by_cases e : n = i + 1
  · subst e; rw [upd_same, if_pos (by omega)]
  · rw [upd_other _ e]
    by_cases h : 1 ≤ n ∧ n ≤ i
    · rw [if_pos h, if_pos (by omega)]
    · rw [if_neg h, if_neg (by omega)]
theorem fullA_zero (rm : Nat) : fullA rm 0 = noNodes := by
  funext n
  unfold fullA
  rw [if_neg (by omega)]
  rfl
theorem fullA_some {rm i n : Nat} (h : 1 ≤ n ∧ n ≤ i) : fullA rm i n = some ⟨1, [], [], rm, []⟩ := if_pos h
theorem fullA_none {rm i n : Nat} (h : ¬ (1 ≤ n ∧ n ≤ i)) : fullA rm i n = none := if_neg h
theorem allOf_empty {A : Nodes} (h : ∀ n a, A n = some a → a.data = []) : allOf A = 0 := sumF_zero fun k _ => by
  cases e : A k with
  | none => rw [cOf_none e]; rfl
  | some a => rw [cOf_some e, h k a e]; rfl
/-- A write of literal bytes. -/
theorem write_lit {data : Bytes} {fr : Nat × Nat} {n : Nat} {at' : Int} {v : Value} {T' : World → (Nat → Prop) → Prop} (hO : Own w0 w (TB p q N A A0 cc m) L) (hL : BaseL L pb p pn pk N) (hl : data.length ≤ 1000)
    (hc : ∀ L1, Own w0 (w.alloc (.cells (data.map u8v).toArray 5 fr)) (TB p q N A A0 cc m) L1 → BaseL L1 pb p pn pk N → (data ≠ [] → Src 5 (w.alloc (.cells (data.map u8v).toArray 5 fr)) (· = w.heap.size) (.slice (some ⟨w.heap.size, 0, none⟩) data.length data.length) data) → (∀ k, k = w.heap.size → Mine w0 L1 k) → data.length ≤ maxLen →
      Calls Tryz.prog 11 #[Dptr pb, .int .i64 (n : Int), .int .i64 at', .slice (some ⟨w.heap.size, 0, none⟩) data.length data.length] (w.alloc (.cells (data.map u8v).toArray 5 fr)) (Did w0 (w.alloc (.cells (data.map u8v).toArray 5 fr)) T' L1 v)) :
    Calls Tryz.prog 11 #[Dptr pb, .int .i64 (n : Int), .int .i64 at', .slice (some ⟨w.heap.size, 0, none⟩) data.length data.length] (w.alloc (.cells (data.map u8v).toArray 5 fr)) (Did w0 w T' L v) := by
  have hn := hO.none_ (Nat.le_refl w.heap.size)
  refine (hc _ (hO.local_ (o := .cells (data.map u8v).toArray 5 fr) (keepsTB _ _ _ _ _ _ _) ((Below.refl _ w).alloc (Nat.le_refl _) _) (Nat.le_refl _) (heap_alloc_new w _)) (hL.upd_ hn) (fun _ => lit_src fr w hl) (mine_new _ _ _ _) (by unfold maxLen; omega)).mono ?_
  rintro e w' ⟨he, h1, h2⟩
  refine ⟨he, h1.drop hn, Nat.le_trans ?_ h2⟩
  simp
theorem nilG (w : World) (G : Nat → Prop) : IntsAt w G (.slice none 0 0) [] := ⟨none, 0, 0, rfl, rfl, by omega, .inl rfl⟩
theorem one_int {w1 : World} {x : Int} {b : Nat} {fr : Nat × Nat} (hb : w1.heap[b]? = some (.cells #[.int .i64 x] 3 fr)) : IntsAt w1 (· = b) (.slice (some ⟨b, 0, none⟩) 1 1) [x] := by
  refine ⟨_, _, _, rfl, rfl, by decide, .inr ⟨b, 0, rfl, rfl, lt_of_heap hb, fun j hj => ?_⟩⟩
  obtain rfl : j = 0 := by omega
  exact cell_of hb 0
set_option maxRecDepth 100000 in
set_option maxHeartbeats 4000000 in
theorem inodeFull_any {w : World} (room at' : Int) : Calls Tryz.prog 3 #[.int .i64 room, .int .i64 at'] w fun e w' => e = .returned (.bool true) ∧ Below w.heap.size w w' := by
  obtain ⟨R0, eR0, hR0⟩ := mod_in room 90 (by omega) (by omega)
  obtain ⟨rm, hrm⟩ : ∃ rm, rm = R0 + 1 := ⟨_, rfl⟩
  have eR : wrap64 ((R0 : Int) + 1) = (rm : Int) := by unfold wrap64; omega
  obtain ⟨K0, eK0, hK0⟩ := mod_in at' 64 (by omega) (by omega)
  obtain ⟨k, hk⟩ : ∃ k, k = K0 + 1 := ⟨_, rfl⟩
  have eK : wrap64 ((K0 : Int) + 1) = (k : Int) := by unfold wrap64; omega
  have hrm2 : 1 ≤ rm ∧ rm ≤ 90 := by omega
  have hk2 : 1 ≤ k ∧ k ≤ 64 := by omega
  clear hrm hk hR0 hK0
  go_enter Tryz.func3, Tryz.ntmps3
  go_wp2_with (go_at_call 7; refine (lw6Open_any w).mono ?_; rintro e w1 ⟨p, q, pb, pn, pk, rfl, hO1, hL⟩)
  rw [← fullA_zero rm] at hO1
  obtain ⟨L, hLe⟩ : ∃ L, L = BaseO noLocals pb pn pk p 600 := ⟨_, rfl⟩
  rw [← hLe] at hO1 hL
  clear hLe
  have hLH : Hid _ := Lib.hid hL
  rw [eR]
  clear eR eR0
  go_loopg [7, 4, 8, 9, 30, 31, 32, 33, 34, 35, 36, 37, 38, 39, 40, 41, 42, 43, 44, 45, 46, 47, 48, 49, 50, 51, 52, 53, 54, 55] 64 (fun g iv _ _ _ _ _ _ _ _ _ _ _ _ _ _ _ _ _ _ _ _ _ _ _ _ _ _ _ _ _ wr => ∃ (j cc m : Nat) (A0 : Nodes), j + g = 64 ∧ iv = .int .i64 ((j + 1 : Nat) : Int) ∧ Own w wr (TB p q 600 (fullA rm j) A0 cc m) L ∧ m = 4 * (j % 20) ∧ cc ≤ j)
  case atStart => exact ⟨0, 0, 0, _, by omega, rfl, hO1, rfl, by omega⟩
  case round =>
    obtain ⟨j, cc, m, A0, hj, rfl, hO, hm, hcc⟩ := hrel
    rename World => wr
    obtain ⟨i, hi⟩ : ∃ i, i = j + 1 := ⟨_, rfl⟩
    rw [← hi]
    by_cases hj64 : j < 64
    · have hiz : (i : Int) ≤ 64 := by omega
      have hi1 : 1 ≤ i := by omega
      have cM := make6_ok (n := i) (kind := 1) (room := rm) hO hLH.out (nilInts _) (nilInts _) (by decide) (by decide) (.inl rfl) (by omega) (by omega) (by omega) (by omega) (fullA_none (by omega)) (fun n' h1 h2 => by rw [fullA_some (by omega)]; rfl)
      rw [hi, fullA_succ, ← hi] at cM
      have hOH : Hid _ := Lib.hid hO
      have hjH : Hid _ := Lib.hid hj
      have hmH : Hid _ := Lib.hid hm
      have hccH : Hid _ := Lib.hid hcc
      have hiH : Hid _ := Lib.hid hi
      clear hO hj hm hcc hi
      by_cases h20 : i % 20 = 0
      · have hz : ((i : Int) % 20 == 0) = true := by rw [beq_iff_eq]; omega
        go_wp2_with (first
          | (go_at_call 8; refine cM.mono ?_; rintro e w3 ⟨rfl, hO3, hs3⟩)
          | (go_at_call 9; refine (commit6 hO3 (by have := hccH.out; omega)).mono ?_; rintro e w4 ⟨rfl, hO4, hs4⟩))
        go_roundg (gk - 1)
        case measure => have := hjH.out; omega
        case rel =>
          have := hjH.out
          have := hiH.out
          have := hccH.out
          exact ⟨i, cc + 1, 0, _, by omega, by go_num, hO4, by omega, by omega⟩
      · have hz : ((i : Int) % 20 == 0) = false := by rw [beq_eq_false_iff_ne]; omega
        go_wp2_with (first
          | (go_at_call 8; refine cM.mono ?_; rintro e w3 ⟨rfl, hO3, hs3⟩))
        go_roundg (gk - 1)
        case measure => have := hjH.out; omega
        case rel =>
          have := hjH.out
          have := hiH.out
          have := hccH.out
          have := hmH.out
          exact ⟨i, cc, m + 4, _, by omega, by go_num, hO3, by omega, by omega⟩
    · obtain rfl : j = 64 := by omega
      have hiz : ¬ (i : Int) ≤ 64 := by omega
      have hm16 : m = 16 := by omega
      subst hm16
      have cF := make6_full (kind := 1) (room := 1) hO hLH.out (nilInts _) (nilInts _) (by decide) (by decide) (.inl rfl) (by omega) (by omega) (fun n h1 h2 => by rw [fullA_some ⟨h1, h2⟩]; rfl)
      have hccH : Hid _ := Lib.hid hcc
      clear hO hj hm hcc hi hj64
      go_upto_region 17 with (go_at_call 8; refine cF.mono ?_; rintro e w3 ⟨rfl, hO3, hs3⟩)
      have cD := free6_ok (n := k) hO3 hLH.out (fullA_some hk2) (by omega)
      go_upto_region 19 with (go_at_call 10; refine cD.mono ?_; rintro e w4 ⟨rfl, hO4, hs4⟩)
      have hI4 : IntsAt (w4.alloc (.cells #[.int .i64 7] 3)) (· = w4.heap.size) (.slice (some ⟨w4.heap.size, 0, none⟩) 1 1) [7] := one_int (heap_alloc_new w4 _)
      have hO5 := hO4.below (keepsTB _ _ _ _ _ _ _) ((Below.refl _ w4).alloc (Nat.le_refl _) (.cells #[.int .i64 7] 3))
      have cM := make6_ok (n := k) (kind := 2) (room := rm) (s := [7]) (l := []) hO5 hLH.out hI4 (nilG _ _) (by decide) (by decide) (.inr rfl) (by omega) (by omega) (by omega) (by omega) (upd_same _ _ _) (fun n' h1 h2 => by rw [upd_other _ (by omega), fullA_some (by omega)]; rfl)
      rw [upd_two] at cM
      obtain ⟨A3, hA3⟩ : ∃ A3, A3 = upd (fullA rm 64) k (some ⟨2, [7], [], rm, []⟩) := ⟨_, rfl⟩
      rw [← hA3] at cM
      have hA3H : Hid _ := Lib.hid hA3
      clear hO3 hO4 hO5 cF cD hA3 hI4
      go_upto_region 20 with (go_at_call 8; refine cM.mono ?_; rintro e w5 ⟨rfl, hO6, hs6⟩)
      go_upto_region 22 with (go_at_call 9; refine (commit6 hO6 (by have := hccH.out; omega)).mono ?_; rintro e w6 ⟨rfl, hO7, hs7⟩)
      obtain ⟨a1, ha1, hr1, hd1⟩ : ∃ a1, A3 1 = some a1 ∧ a1.room = rm ∧ a1.data = [] := by
        rw [hA3H.out]
        by_cases e : k = 1
        · subst e; exact ⟨_, upd_same _ _ _, rfl, rfl⟩
        · rw [upd_other _ (fun h => e h.symm)]; exact ⟨_, fullA_some (by omega), rfl, rfl⟩
      have hall : allOf A3 = 0 := allOf_empty fun n a h => by
        rw [hA3H.out] at h
        by_cases e : n = k
        · subst e; rw [upd_same] at h; injection h with h; rw [← h]
        · rw [upd_other _ e] at h
          unfold fullA at h
          split at h
          · injection h with h; rw [← h]
          · cases h
      have e64 : ((64 * rm : Nat) : Int) = 64 * (rm : Int) := by omega
      have e63 : ((64 * rm - 1 : Nat) : Int) = 64 * (rm : Int) - 1 := by omega
      obtain ⟨A4, hA4⟩ : ∃ A4, A4 = upd A3 1 (some { a1 with data := wrB a1.data (64 * rm - 1) [120] }) := ⟨_, rfl⟩
      have hrm64 : cntN (64 * rm) = rm := by unfold cntN; omega
      have hwr : withN rm ≤ 300 := by unfold withN; omega
      obtain ⟨c, hc⟩ : ∃ c, c = cc + 1 := ⟨_, rfl⟩
      rw [← hc] at hO7
      have cW1 : ∀ W, Own w W (TB p q 600 A3 A3 c 0) L → Calls Tryz.prog 11 #[Dptr pb, .int .i64 1, .int .i64 (64 * (rm : Int)), .slice (some ⟨W.heap.size, 0, none⟩) 1 1] (W.alloc (.cells #[.int .u8 120] 5 (1, 2))) (Did w W (TB p q 600 A3 A3 c 0) L (.int .i64 72)) := fun W hW => by
        have := write_lit (data := [120]) (fr := (1, 2)) (n := 1) (at' := 64 * (rm : Int)) (v := .int .i64 72) (T' := TB p q 600 A3 A3 c 0) hW hLH.out (by decide) (fun L1 h1 h2 h3 h4 h5 => by
          have := write6_room (at' := 64 * rm) h1 h2 rfl h3 h4 h5 ha1 (.inr (by rw [hr1]; show 64 * rm < 64 * rm + 1; omega))
          rw [e64] at this
          exact this)
        exact this
      have cW2 : ∀ W, Own w W (TB p q 600 A3 A3 c 0) L → Calls Tryz.prog 11 #[Dptr pb, .int .i64 1, .int .i64 (64 * (rm : Int) - 1), .slice (some ⟨W.heap.size, 0, none⟩) 1 1] (W.alloc (.cells #[.int .u8 120] 5 (1, 2))) (Did w W (TB p q 600 A4 A3 c 106) L (.int .i64 0)) := fun W hW => by
        have := write_lit (data := [120]) (fr := (1, 2)) (n := 1) (at' := 64 * (rm : Int) - 1) (v := .int .i64 0) (T' := TB p q 600 A4 A3 c 106) hW hLH.out (by decide) (fun L1 h1 h2 h3 h4 h5 => by
          have := write6_ok (at' := 64 * rm - 1) h1 h2 rfl h3 h4 h5 ha1 (by rw [hr1]; show 64 * rm - 1 + 1 ≤ 64 * rm; omega) (by decide) (by rw [hd1]; show 64 * rm - 1 + 1 - min (64 * rm - 1) 0 ≤ 6144; omega) (by omega) (by rw [hall]; show 0 + withN (cntN (64 * rm - 1 + 1)) ≤ 600 - 300; rw [show 64 * rm - 1 + 1 = 64 * rm by omega, hrm64]; omega)
          rw [e63, ← hA4] at this
          exact this)
        exact this
      have ha4 : A4 1 = some { a1 with data := wrB a1.data (64 * rm - 1) [120] } := by rw [hA4]; exact upd_same _ _ _
      have cW3 : ∀ W, Own w W (TB p q 600 A4 A3 c 106) L → Calls Tryz.prog 11 #[Dptr pb, .int .i64 1, .int .i64 (64 * (rm : Int) - 1), .slice (some ⟨W.heap.size, 0, none⟩) 2 2] (W.alloc (.cells #[.int .u8 120, .int .u8 121] 5 (2, 3))) (Did w W (TB p q 600 A4 A3 c 106) L (.int .i64 72)) := fun W hW => by
        have := write_lit (data := [120, 121]) (fr := (2, 3)) (n := 1) (at' := 64 * (rm : Int) - 1) (v := .int .i64 72) (T' := TB p q 600 A4 A3 c 106) hW hLH.out (by decide) (fun L1 h1 h2 h3 h4 h5 => by
          have := write6_room (at' := 64 * rm - 1) h1 h2 rfl h3 h4 h5 ha4 (.inr (by show 64 * a1.room < 64 * rm - 1 + 2; rw [hr1]; omega))
          rw [e63] at this
          exact this)
        exact this
      have hlen : (wrB a1.data (64 * rm - 1) [120]).length = 64 * rm := by rw [wrB_length, hd1]; show max 0 (64 * rm - 1 + 1) = _; omega
      have hlast : ((wrB a1.data (64 * rm - 1) [120]).drop (64 * rm - 1)).take 5 = [120] := by
        refine List.ext_getElem? fun j => ?_
        have hg := wrB_getD a1.data (64 * rm - 1) [120] (64 * rm - 1)
        rw [if_pos ⟨Nat.le_refl _, by simp⟩, Nat.sub_self] at hg
        match j with
        | 0 =>
          rw [List.getElem?_take_of_lt (by omega), List.getElem?_drop, Nat.add_zero, List.getElem?_eq_getElem (by omega)]
          rw [List.getD_eq_getElem?_getD, List.getElem?_eq_getElem (by omega)] at hg
          simpa using hg
        | j + 1 => rw [List.getElem?_eq_none (by rw [List.length_take, List.length_drop]; omega), List.getElem?_eq_none (by simp)]
      have kc := fun (w : World) (C : Array Value) (n c : Nat) => Lib.run_convert_bytes_const (P := Tryz.prog) w 35 5 C n c Tryz.underlying35 Tryz.underlying5
      have hrm3 : (1 : Int) ≤ (rm : Int) := by omega
      have hrm4 : (rm : Int) ≤ 90 := by omega
      have hfH : Hid _ := Lib.hid (And.intro hlen hlast)
      have hA4H : Hid _ := Lib.hid hA4
      have hd1H : Hid _ := Lib.hid hd1
      have hcH : Hid _ := Lib.hid hc
      clear e64 e63 hA4 hlen hlast hc hd1 hall hrm64 hwr cM hO6
      go_upto_region 24 with fail
      go_at_call 11
      with_reducible refine (cW1 _ hO7).mono ?_
      rintro e w7 ⟨rfl, hO8, hs8⟩
      go_wp2_with fail
      go_at_call 11
      with_reducible refine (cW2 _ hO8).mono ?_
      rintro e w8 ⟨rfl, hO9, hs9⟩
      go_wp2_with fail
      go_at_call 11
      with_reducible refine (cW3 _ hO9).mono ?_
      rintro e w9 ⟨rfl, hO10, hs10⟩
      go_upto_region 24 with fail
      have hA4s : ∀ i, i < 64 → (A4 (i + 1)).isSome = true := fun i hi => by
        rw [hA4H.out]
        by_cases e : i + 1 = 1
        · rw [e, upd_same]; rfl
        · rw [upd_other _ e, hA3H.out]
          by_cases e2 : i + 1 = k
          · rw [e2, upd_same]; rfl
          · rw [upd_other _ e2, fullA_some (by omega)]; rfl
      have hn64 : (numsF A4 64).length = 64 := by
        unfold numsF
        rw [List.length_map, List.filter_eq_self.2 (fun i hi => hA4s i (by simpa using hi)), List.length_range]
      have hlen := hfH.out.1
      have e64 : ((64 * rm : Nat) : Int) = 64 * (rm : Int) := by omega
      have e63 : ((64 * rm - 1 : Nat) : Int) = 64 * (rm : Int) - 1 := by omega
      have hout : ((wrB a1.data (64 * rm - 1) [120]).drop (min (64 * rm - 1) (wrB a1.data (64 * rm - 1) [120]).length)).take 5 = [120] := by
        rw [hlen, show min (64 * rm - 1) (64 * rm) = 64 * rm - 1 by omega]
        exact hfH.out.2
      have cI := info6_ok hO10 hLH.out ha4
      have hIv : ∀ vs vi, InfoV { a1 with data := wrB a1.data (64 * rm - 1) [120] } vs vi = .agg #[.int .i64 (a1.kind : Int), .int .i64 (64 * (rm : Int)), .int .i64 (rm : Int), vs, vi] := fun vs vi => by
        unfold InfoV
        dsimp only
        rw [hlen, e64, hr1]
      have hoH : Hid _ := Lib.hid (And.intro hout (And.intro e63 hr1))
      have hn64H : Hid _ := Lib.hid hn64
      have hIvH : Hid _ := Lib.hid hIv
      clear hlen e64 e63 hout hr1 hA4s hn64 hIv cW1 cW2 cW3 hO7 hO8 hO9
      go_upto_region 25 with (go_at_call 12; refine cI.mono ?_; rintro e w10 ⟨vs, vi, L2, rfl, hO11, hl2, hvs, hvi, hs11⟩; obtain ⟨av, cv, rfl⟩ := IntsAt.form hvs; obtain ⟨ai, ci, rfl⟩ := IntsAt.form hvi; rw [hIvH.out])
      have hO12 := hO11.local_ (o := .cells #[.int .i64 (a1.kind : Int), .int .i64 (64 * (rm : Int)), .int .i64 (rm : Int), .slice av a1.s.length cv, .slice ai a1.i.length ci] 37) (keepsTB _ _ _ _ _ _ _) ((Below.refl _ w10).alloc (Nat.le_refl _) _) (Nat.le_refl _) (heap_alloc_new w10 _)
      have hL12 := (hLH.out.mono hl2).upd_ (o := .cells #[.int .i64 (a1.kind : Int), .int .i64 (64 * (rm : Int)), .int .i64 (rm : Int), .slice av a1.s.length cv, .slice ai a1.i.length ci] 37) (hO11.none_ (Nat.le_refl _))
      have s12 : (w10.alloc (.cells #[.int .i64 (a1.kind : Int), .int .i64 (64 * (rm : Int)), .int .i64 (rm : Int), .slice av a1.s.length cv, .slice ai a1.i.length ci] 37)).heap.size = w10.heap.size + 1 := by simp
      have k12 : upd L2 w10.heap.size (some (.cells #[.int .i64 (a1.kind : Int), .int .i64 (64 * (rm : Int)), .int .i64 (rm : Int), .slice av a1.s.length cv, .slice ai a1.i.length ci] 37)) w10.heap.size = some (.cells #[.int .i64 (a1.kind : Int), .int .i64 (64 * (rm : Int)), .int .i64 (rm : Int), .slice av a1.s.length cv, .slice ai a1.i.length ci] 37) := upd_same _ _ _
      generalize upd L2 w10.heap.size (some (.cells #[.int .i64 (a1.kind : Int), .int .i64 (64 * (rm : Int)), .int .i64 (rm : Int), .slice av a1.s.length cv, .slice ai a1.i.length ci] 37)) = L12 at *
      generalize w10.alloc (.cells #[.int .i64 (a1.kind : Int), .int .i64 (64 * (rm : Int)), .int .i64 (rm : Int), .slice av a1.s.length cv, .slice ai a1.i.length ci] 37) = w12 at *
      have cR := read6_ok (at' := 64 * rm - 1) (k := 5) hO12 hL12 ha4
      dsimp only at cR
      rw [hoH.out.1, hoH.out.2.1] at cR
      have cR2 : Calls Tryz.prog 13 #[Dptr pb, .int .i64 1, .int .i64 (64 * (rm : Int) - 1), .int .i64 5] w12 (RDid w w12 (TB p q 600 A4 A3 c 106) L12 [120] 0) := cR
      clear cR cI
      go_upto_region 26 with fail
      go_at_call 13
      with_reducible refine cR2.mono ?_
      rintro e w13 ⟨v, rfl, ho, hs13⟩
      go_upto_region 26 with fail
      rcases ho with ⟨e0, _⟩ | ⟨gg, og, hbuf, hgg, hO13⟩
      · cases e0
      have hstr : (convert 35 9 v).run Tryz.prog w13 = .ok (.string ⟨#[120]⟩) w13 := run_string_src (hbuf.buf (hO13.loc (upd_same _ _ _))).src
      have hL13 := hL12.upd_ (o := og) (hO12.none_ hgg)
      have hne : w10.heap.size ≠ gg := by omega
      have c15 : w13.cell? ⟨w10.heap.size, 1, none⟩ = some (.int .i64 (64 * (rm : Int))) := cell_of (hO13.loc (by rw [upd_other _ hne]; exact k12)) 1
      have hccH2 : Hid (c < 1000000) := Lib.hid (by have := hcH.out; have := hccH.out; omega)
      have cN := nodes6 hO13 hL13
      clear k12 hbuf cR2 hO12 hO11 hvs hvi
      go_wp2_with (first
        | (go_at_call 14; refine cN.mono ?_; rintro e w14 ⟨vn, L3, rfl, hO14, hl3, hvn, hs14⟩; obtain ⟨an, cn, rfl⟩ := IntsAt.form hvn; rw [hn64H.out])
        | (go_at_call 9; refine (commit6 hO14 hccH2.out).mono ?_; rintro e w15 ⟨rfl, hO15, hs15⟩)
        | (go_at_call 15; refine (check6 hO15 (hL13.mono hl3)).mono ?_; rintro e w16 ⟨rfl, hO16, hs16⟩)
        | (go_at_call 16; refine (lw6awake_any _).mono ?_; rintro e w17 ⟨rfl, hb17⟩))
      go_ret
      exact ⟨rfl, hO16.base.trans (hb17.mono hO16.base.size)⟩
end
end Go.Proofs.YtbnoebdpbpjbkaaGreat
