/-
  InodeAgain, walked.
-/
import Derived.Test.YtbnoebdpbpjbkaaGreatMP24
import Derived.Test.YtbnoebdpbpjbkaaGreatMPxTb3
import Derived.BigQuiet
import Derived.Deep.QuietTactic
namespace Go.Proofs.YtbnoebdpbpjbkaaGreat
open Go.RowKit Go.Lz
section
variable {w w0 : World} {p q pb pn pk N cc m bl : Nat} {L : Locals} {A A0 : Nodes} {lv : Nat → Value × Value}
theorem heavy_zero : heavyN noNodes 65 = 0 := sumF_zero fun k _ => by rw [cOf_none rfl]
set_option maxRecDepth 100000 in
set_option maxHeartbeats 8000000 in
theorem inodeAgain_any {w : World} {v : Value} {os : List Op7} (h : OpsAt7 w (fun _ => True) v os) (hd : ∀ j, j < os.length → (os.getD j default).data.length ≤ 1048576) : Calls Tryz.prog 5 #[v] w fun e w' => e = .returned (.bool true) ∧ Below w.heap.size w w' := by
  obtain ⟨ad, n, c, rfl, hl, hn, hc⟩ := h
  rw [hl] at hd
  have hn2 : n ≤ 9223372036854775807 := by unfold maxLen at hn; omega
  have hcH : Hid _ := Lib.hid hc
  have hdH : Hid _ := Lib.hid hd
  clear hc hd hl hn
  go_enter Tryz.func5, Tryz.ntmps5
  go_upto_region 2 with (go_at_call 7; refine (lw6Open_any w).mono ?_; rintro e w1 ⟨p, q, pb, pn, pk, rfl, hO1, hL1⟩)
  go_upto_region 5 with fail
  have hz := zero_nodes
  rw [hz]
  clear hz
  have hO2 := own_lst0 hO1 (keepsTB _ _ _ _ _ _ _)
  have hL2 := hL1.upd_ (o := lstO noNodes nilLv) (hO1.none_ (Nat.le_refl _))
  obtain ⟨bl, hbl⟩ : ∃ b, b = w1.heap.size := ⟨_, rfl⟩
  have hn0 := hO1.none_ (Nat.le_refl w1.heap.size)
  rw [← hbl] at hO2 hL2 hn0 ⊢
  generalize w1.alloc (lstO noNodes nilLv) = w2 at *
  generalize BaseO noLocals pb pn pk p 600 = L0 at *
  have hO2H : Hid _ := Lib.hid hO2
  clear hO2 hO1 hL2 hbl
  go_wp2_with fail
  go_loopg [6, 2, 7, 21, 22, 23, 24, 25, 26, 27, 28, 29, 30, 31, 32, 33, 34, 35, 36, 37, 38, 39, 40, 41, 42, 43, 44, 45, 46, 47, 48, 49, 50, 51, 52, 53, 54, 55, 56, 57, 58, 59, 60, 61, 62, 63, 64] 16 (fun g iv _ _ _ _ _ _ _ _ _ _ _ _ _ _ _ _ _ _ _ _ _ _ _ _ _ _ _ _ _ _ _ _ _ _ _ _ _ _ _ _ _ _ _ _ _ _ wr => ∃ i : Nat, i + g = 16 ∧ iv = .int .i64 (i : Int) ∧ ∃ A lv cc, Own w wr (TB p q 600 A A cc 0) (upd L0 bl (some (lstO A lv))) ∧ Fine w A lv ∧ cc ≤ i ∧ heavyN A 65 ≤ 150)
  case atStart => exact ⟨0, rfl, rfl, noNodes, nilLv, 0, hO2H.out, Fine.none_, Nat.le_refl _, by rw [heavy_zero]; omega⟩
  case round =>
    obtain ⟨i, hi, rfl, A, lv, cc, hO, hF, hcc, hhv⟩ := hrel
    rename World => wr
    clear hO2H
    by_cases hin : i < n ∧ i < 15
    · obtain ⟨hin, hi15⟩ := hin
      have hiz : (i : Int) < (n : Int) := by omega
      have hi15z : (i : Int) < 15 := by omega
      obtain ⟨b, off, rfl, _, hbw, hops⟩ := hcH.out.resolve_left (by omega)
      obtain ⟨vs, vi, vd, hop⟩ := hops i hin
      have hop2 := hop.below hbw hO.base
      have hdl := hdH.out i hin
      obtain ⟨o, ho⟩ : ∃ o, o = os.getD i default := ⟨_, rfl⟩
      rw [← ho] at hop hop2 hdl
      obtain ⟨k, z, a, b2, s, ii, data⟩ := o
      obtain ⟨c0, c1, c2, c3, c4, c5, c6, hV2⟩ := hop2
      have hV := hop.v
      obtain ⟨ax, cs, rfl⟩ := IntsAt.form hV.s
      obtain ⟨ai, ci, rfl⟩ := IntsAt.form hV.i
      obtain ⟨ax2, cd, rfl⟩ := BytesAt.form hV.d
      dsimp only at c0 c1 c2 c3 c4 c5 c6 hdl
      clear hop hops hV2 ho
      have hH : ∀ {x : Prop}, x → Hid x := fun h => Lib.hid h
      have hiH := hH hi
      have hccH := hH hcc
      clear hi hcc hH
      have hnb := hO.none_ (Nat.le_refl wr.heap.size)
      obtain ⟨O, hOe⟩ : ∃ O, O = opO k z a b2 (.slice ax s.length cs) (.slice ai ii.length ci) (.slice ax2 data.length cd) := ⟨_, rfl⟩
      have hO3 := own_new6 hO (keepsTB _ _ _ _ _ _ _) O
      have hL2 := hL1.upd_ (o := lstO A lv) hn0
      have hL3 := hL2.upd_ (o := O) hnb
      have i3 : LocIn (upd L0 bl (some (lstO A lv))) (upd (upd L0 bl (some (lstO A lv))) wr.heap.size (some O)) := LocIn.upd_ hnb
      have kL : upd (upd L0 bl (some (lstO A lv))) wr.heap.size (some O) bl = some (lstO A lv) := i3 _ _ (upd_same _ _ _)
      have kO : upd (upd L0 bl (some (lstO A lv))) wr.heap.size (some O) wr.heap.size = some O := upd_same _ _ _
      have i0 : LocIn L0 (upd (upd L0 bl (some (lstO A lv))) wr.heap.size (some O)) := (LocIn.upd_ hn0).trans i3
      have hOeH : Hid _ := Lib.hid hOe
      clear hOe hO hL2 hnb
      go_upto_region 9 with fail
      have hW : wr.alloc (.cells #[.int .i64 k, .int .i64 z, .int .i64 a, .int .i64 b2, .slice ax s.length cs, .slice ai ii.length ci, .slice ax2 data.length cd] 56) = wr.alloc O := by rw [hOeH.out]; rfl
      rw [hW]
      clear hW
      generalize upd (upd L0 bl (some (lstO A lv))) wr.heap.size (some O) = L3 at *
      generalize wr.alloc O = w3 at *
      generalize wr.heap.size = bo at *
      rw [hOeH.out] at kO
      obtain ⟨o0, o1, o2, o3, o4, o5, o6⟩ := op_cells (hO3.loc kO)
      obtain ⟨hv, hve⟩ : ∃ hv, hv = heavyN A 65 := ⟨_, rfl⟩
      rw [← hve] at hhv
      have cH : ∀ W : BelowOf w3, Calls Tryz.prog 21 #[.pointer (some ⟨bl, 0, none⟩)] W.val fun e w'' => e = .returned (.int .i64 (hv : Int)) ∧ ∃ q : BelowOf w3, w'' = q.val := fun W => Calls.below_of_same (by rw [hve]; exact heavy_any ((W.prop.block bl (hO3.loc_lt kL)).trans (hO3.loc kL)) hF.zero hF.len)
      have o0b : ∀ W : BelowOf w3, W.val.cell? ⟨bo, 0, none⟩ = some (.int .i64 k) := fun W => (W.prop.cell (p := ⟨bo, 0, none⟩) (hO3.loc_lt kO)).trans o0
      have o6b : ∀ W : BelowOf w3, W.val.cell? ⟨bo, 6, none⟩ = some (.slice ax2 data.length cd) := fun W => (W.prop.cell (p := ⟨bo, 6, none⟩) (hO3.loc_lt kO)).trans o6
      have hveH : Hid _ := Lib.hid hve
      have hO3H : Hid _ := Lib.hid hO3
      clear hve hO3 c0 c1 c2 c3 c4 c5 c6 hOeH
      obtain ⟨D, hD⟩ : ∃ D, D = data.length / 64 := ⟨_, rfl⟩
      have hq1 : Int.tdiv (data.length : Int) 64 = (D : Int) := by rw [Int.tdiv_eq_ediv_of_nonneg (by omega)]; omega
      have hq2 : (data.length : Int) / 64 = (D : Int) := by omega
      have hDH : Hid _ := Lib.hid hD
      have hDl : D ≤ 16384 := by omega
      clear hD
      obtain ⟨M, hM⟩ : ∃ M, M = hv + D := ⟨_, rfl⟩
      have hwD : IntKind.i64.wrap (D : Int) = (D : Int) := by rw [IntKind.wrap_i64]; omega
      have hw2 : IntKind.i64.wrap ((hv : Int) + (D : Int)) = (M : Int) := by rw [IntKind.wrap_i64]; omega
      have hMH : Hid _ := Lib.hid hM
      by_cases hA : k = 2 ∧ 100 < M
      · obtain ⟨rfl, h100⟩ := hA
        have b1 : decide ((100 : Int) < (M : Int)) = true := decide_eq_true (by omega)
        have b1n : decide (100 < M) = true := decide_eq_true h100
        clear hM
        refine wp_region_below (by kernel_rfl) (by kernel_rfl) ?_
        repeat (any_goals (first | go_big_quiet_skip | quiet_step (first
          | (go_at_call 21; with_reducible exact cH _))))
        refine wpQuiet_nil ?_
        rintro wq ⟨⟨_, hq⟩, rfl⟩
        go_wp2_with fail
        go_roundg (gk - 1)
        case measure => have := hiH.out; omega
        case rel =>
          have := hiH.out
          have := hccH.out
          exact ⟨i + 1, by omega, by go_num, A, lv, cc, (hO3H.out.below (keepsTB _ _ _ _ _ _ _) hq).forget i3, hF, by omega, by rw [← hveH.out]; exact hhv⟩
      · by_cases hB : 3 < k
        · have k2 : ¬ k = 2 := by omega
          have k2b : (k == 2) = false := by simpa using k2
          have b3 : decide ((3 : Int) < k) = true := decide_eq_true hB
          clear hA
          refine wp_region_below (by kernel_rfl) (by kernel_rfl) ?_
          repeat (any_goals (first | go_big_quiet_skip | quiet_step (first
            | (go_at_call 21; with_reducible exact cH _))))
          refine wpQuiet_nil ?_
          rintro wq ⟨⟨_, hq⟩, rfl⟩
          go_wp2_with fail
          go_roundg (gk - 1)
          case measure => have := hiH.out; omega
          case rel =>
            have := hiH.out
            have := hccH.out
            exact ⟨i + 1, by omega, by go_num, A, lv, cc, (hO3H.out.below (keepsTB _ _ _ _ _ _ _) hq).forget i3, hF, by omega, by rw [← hveH.out]; exact hhv⟩
        · by_cases k2 : k = 2
          · subst k2
            have h100 : ¬ 100 < M := fun h => hA ⟨rfl, h⟩
            have b1 : decide ((100 : Int) < (M : Int)) = false := decide_eq_false (by omega)
            have b1n : decide (100 < M) = false := decide_eq_false h100
            have hcond : (2 : Int) = 2 → heavyN A 65 + data.length / 64 ≤ 100 := fun _ => by rw [← hveH.out, ← hDH.out, ← hMH.out]; omega
            have hcondH : Hid _ := Lib.hid hcond
            have b3 : decide ((3 : Int) < 2) = false := by decide
            clear hA hB hcond hM
            refine wp_region_below (by kernel_rfl) (by kernel_rfl) ?_
            repeat (any_goals (first | go_big_quiet_skip | quiet_step (first
              | (go_at_call 21; with_reducible exact cH _))))
            refine wpQuiet_nil ?_
            rintro wq ⟨⟨_, hq⟩, rfl⟩
            have hcond := hcondH.out
            have hO4 := hO3H.out.below (keepsTB _ _ _ _ _ _ _) hq
            obtain ⟨r0, r1, r2, r3, r4, r5, r6⟩ := op_cells (hO4.loc kO)
            have cD := do_any hO4 hL3 kL hF hV (by omega) hdl hcond
            have hccl := hccH.out
            clear cH o0 o1 o2 o3 o4 o5 o6 o0b o6b hO4
            go_wp2_with fail
            go_at_call 22
            refine cD.mono ?_
            rintro e w5 ⟨rfl, A', lv', m', hO5, hF5, hm5, hk5⟩
            have cH5 := heavy_any (hO5.loc (upd_same _ _ _)) hF5.zero hF5.len
            obtain ⟨h2, hh2⟩ : ∃ h2, h2 = heavyN A' 65 := ⟨_, rfl⟩
            rw [← hh2] at cH5
            have hh2H : Hid _ := Lib.hid hh2
            have cC := commit6 hO5 (by omega)
            have hO5H : Hid _ := Lib.hid hO5
            clear cD hh2 hO5 r0 r1 r2 r3 r4 r5 r6
            by_cases hbig : 150 < h2
            · have hbz : (150 : Int) < (h2 : Int) := by omega
              clear cC
              go_wp2_with (go_at_call 21; refine cH5.mono ?_; rintro e w6 ⟨rfl, rfl⟩)
              go_ret
              exact ⟨rfl, hO5H.out.base⟩
            · have hbz : ¬ (150 : Int) < (h2 : Int) := by omega
              go_wp2_with (first
                | (go_at_call 21; refine cH5.mono ?_; rintro e w6 ⟨rfl, rfl⟩)
                | (go_at_call 9; refine cC.mono ?_; rintro e w7 ⟨rfl, hO7, hs7⟩))
              go_roundg (gk - 1)
              case measure => have := hiH.out; omega
              case rel =>
                have := hiH.out
                exact ⟨i + 1, by omega, by go_num, A', lv', cc + 1, own_back hO7 i0, hF5, by omega, by rw [← hh2H.out]; omega⟩
          · have k2b : (k == 2) = false := by simpa using k2
            have b3 : decide ((3 : Int) < k) = false := decide_eq_false hB
            have hcond : k = 2 → heavyN A 65 + data.length / 64 ≤ 100 := fun h => absurd h k2
            have hcondH : Hid _ := Lib.hid hcond
            clear hA hcond
            refine wp_region_below (by kernel_rfl) (by kernel_rfl) ?_
            repeat (any_goals (first | go_big_quiet_skip | quiet_step (first
              | (go_at_call 21; with_reducible exact cH _))))
            refine wpQuiet_nil ?_
            rintro wq ⟨⟨_, hq⟩, rfl⟩
            have hcond := hcondH.out
            have hO4 := hO3H.out.below (keepsTB _ _ _ _ _ _ _) hq
            obtain ⟨r0, r1, r2, r3, r4, r5, r6⟩ := op_cells (hO4.loc kO)
            have cD := do_any hO4 hL3 kL hF hV (by omega) hdl hcond
            have hccl := hccH.out
            clear cH o0 o1 o2 o3 o4 o5 o6 o0b o6b hO4
            go_wp2_with fail
            go_at_call 22
            refine cD.mono ?_
            rintro e w5 ⟨rfl, A', lv', m', hO5, hF5, hm5, hk5⟩
            have cH5 := heavy_any (hO5.loc (upd_same _ _ _)) hF5.zero hF5.len
            obtain ⟨h2, hh2⟩ : ∃ h2, h2 = heavyN A' 65 := ⟨_, rfl⟩
            rw [← hh2] at cH5
            have hh2H : Hid _ := Lib.hid hh2
            have cC := commit6 hO5 (by omega)
            have hO5H : Hid _ := Lib.hid hO5
            clear cD hh2 hO5 r0 r1 r2 r3 r4 r5 r6
            by_cases hbig : 150 < h2
            · have hbz : (150 : Int) < (h2 : Int) := by omega
              clear cC
              go_wp2_with (go_at_call 21; refine cH5.mono ?_; rintro e w6 ⟨rfl, rfl⟩)
              go_ret
              exact ⟨rfl, hO5H.out.base⟩
            · have hbz : ¬ (150 : Int) < (h2 : Int) := by omega
              go_wp2_with (first
                | (go_at_call 21; refine cH5.mono ?_; rintro e w6 ⟨rfl, rfl⟩)
                | (go_at_call 9; refine cC.mono ?_; rintro e w7 ⟨rfl, hO7, hs7⟩))
              go_roundg (gk - 1)
              case measure => have := hiH.out; omega
              case rel =>
                have := hiH.out
                exact ⟨i + 1, by omega, by go_num, A', lv', cc + 1, own_back hO7 i0, hF5, by omega, by rw [← hh2H.out]; omega⟩
    · have hLx := hL1.upd_ (o := lstO A lv) hn0
      have cO := open6_again hO
      have hlt : ∀ b o, upd L0 bl (some (lstO A lv)) b = some o → b < wr.heap.size := fun b o hb => hO.loc_lt hb
      clear hO hi hcc hhv
      rcases (show (i < n ∧ ¬ i < 15) ∨ ¬ i < n by omega) with ⟨h1, h2⟩ | h1
      case' inl =>
        have h1z : (i : Int) < (n : Int) := by omega
        have h2z : ¬ (i : Int) < 15 := by omega
        clear hin h1 h2
        go_upto_region 15 with (go_at_call 23; refine cO.mono ?_; rintro e w4 ⟨pb2, pn2, pk2, rfl, hO4, e1, e2, e3, ⟨g1, g2, g3⟩, hs4⟩)
      case' inr =>
        have h1z : ¬ (i : Int) < (n : Int) := by omega
        clear hin h1
        go_upto_region 15 with (go_at_call 23; refine cO.mono ?_; rintro e w4 ⟨pb2, pn2, pk2, rfl, hO4, e1, e2, e3, ⟨g1, g2, g3⟩, hs4⟩)
      all_goals
        have hO5 := hO4.forget (fun _ _ h => h)
        have i4 : LocIn (upd L0 bl (some (lstO A lv))) (BaseO (upd L0 bl (some (lstO A lv))) pb2 pn2 pk2 p 600) := fun b o hb => by
          have := hlt b o hb
          rw [BaseO.other (by omega) (by omega) (by omega)]
          exact hb
        have hLc : BaseL (BaseO (upd L0 bl (some (lstO A lv))) pb2 pn2 pk2 p 600) pb2 p pn2 pk2 600 := BaseO.baseL e1 e2 e3
        have hLb := hLx.mono i4
        have kL4 := i4 _ _ (upd_same L0 bl (some (lstO A lv)))
        have cS := sync6 hO5
        generalize BaseO (upd L0 bl (some (lstO A lv))) pb2 pn2 pk2 p 600 = L4 at *
        clear hO5 hO4 cO i4 e1 e2 e3 g1 g2 g3
        go_upto_region 17 with (go_at_call 24; refine cS.mono ?_; rintro e w5 ⟨rfl, hO6, hs6⟩)
        have hO6H : Hid _ := Lib.hid hO6
        clear cS hO6
        go_wp2_with fail
        go_loopg [10, 2, 81, 82, 83, 84, 85, 86, 87, 88, 89, 90, 91] 64 (fun g kv _ _ _ _ _ _ _ _ _ _ _ _ wr => ∃ k : Nat, k + g = 65 ∧ 1 ≤ k ∧ kv = .int .i64 (k : Int) ∧ Own w wr (TB p q 600 A A cc 0) L4)
        case atStart => exact ⟨1, rfl, Nat.le_refl _, rfl, hO6H.out⟩
        case round =>
          obtain ⟨k, hk, hk1, rfl, hO7⟩ := hrel
          rename World => wk
          clear hO6H
          by_cases hk64 : k ≤ 64
          · have hkz : (k : Int) ≤ 64 := by omega
            have k65 : k < 65 := by omega
            have hwL := hO7.loc kL4
            have q0 : wk.cell? ⟨bl, k * 6, none⟩ = some (lnodeC (A k) (lv k) 0) := lst_cell (c := 0) hwL hk64 (by omega)
            have q1 := lst_cell (c := 1) hwL hk64 (by omega)
            have q2 := lst_cell (c := 2) hwL hk64 (by omega)
            have q3 := lst_cell (c := 3) hwL hk64 (by omega)
            have q4 := lst_cell (c := 4) hwL hk64 (by omega)
            have q5 := lst_cell (c := 5) hwL hk64 (by omega)
            have hkH : Hid _ := Lib.hid hk
            clear hwL hk hk64
            cases hA : A k with
            | none =>
              have hno : ¬ IsN A (k : Int) := fun h => by
                have := h.2
                rw [Int.toNat_natCast, hA] at this
                cases this
              have cQ := same6_off hO7 hLc hno
              rw [hA] at q0 q1 q2 q3 q4 q5
              dsimp only [lnodeC] at q0 q1 q2 q3 q4 q5
              unfold offV at cQ
              clear hno
              go_wp2_with (go_at_call 25; refine cQ.mono ?_; rintro e w8 ⟨rfl, hO8, hs8⟩)
              go_roundg (gk - 1)
              case measure => have := hkH.out; omega
              case rel => have := hkH.out; exact ⟨k + 1, by omega, by omega, by go_num, hO8⟩
            | some x =>
              have cQ := same6_on hO7 hLc hA (hF.lbl k x hA).1 (hF.lbl k x hA).2 (by have := hF.len k x hA; omega)
              obtain ⟨a1, c1, f1⟩ := IntsAt.form (hF.lbl k x hA).1
              obtain ⟨a2, c2, f2⟩ := IntsAt.form (hF.lbl k x hA).2
              rw [hA] at q0 q1 q2 q3 q4 q5
              dsimp only [lnodeC] at q0 q1 q2 q3 q4 q5
              rw [f1] at q3 cQ
              rw [f2] at q4 cQ
              unfold onV at cQ
              clear f1 f2
              go_wp2_with (go_at_call 25; refine cQ.mono ?_; rintro e w8 ⟨rfl, hO8, hs8⟩)
              go_roundg (gk - 1)
              case measure => have := hkH.out; omega
              case rel => have := hkH.out; exact ⟨k + 1, by omega, by omega, by go_num, hO8⟩
          · obtain rfl : k = 65 := by omega
            have hkz : ¬ (((65 : Nat) : Int)) ≤ 64 := by omega
            have cB1 := blocks6 hO7 hLb
            clear hk hk64
            go_upto_region 23 with (go_at_call 17; refine cB1.mono ?_; rintro e w9 ⟨rfl, hO9, hs9⟩)
            have cB2 := blocks6 hO9 hLc
            clear cB1
            go_upto_region 24 with (go_at_call 17; refine cB2.mono ?_; rintro e wA ⟨rfl, hOA, hsA⟩)
            have cCh := check6 hOA hLc
            clear cB2
            go_wp2_with (first
              | (go_at_call 15; refine cCh.mono ?_; rintro e wB ⟨rfl, hOB, hsB⟩)
              | (go_at_call 16; refine (lw6awake_any wB).mono ?_; rintro e wC ⟨rfl, hbC⟩))
            go_ret
            exact ⟨rfl, hOB.base.trans (hbC.mono hOB.size)⟩
end
end Go.Proofs.YtbnoebdpbpjbkaaGreat
