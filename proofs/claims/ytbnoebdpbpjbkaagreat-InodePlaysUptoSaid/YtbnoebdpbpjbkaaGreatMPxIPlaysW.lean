/-
  InodePlays, walked.
-/
import Derived.Test.YtbnoebdpbpjbkaaGreatMP24
import Derived.Test.YtbnoebdpbpjbkaaGreatMPxTb3
import Derived.Test.YtbnoebdpbpjbkaaGreatMPxOwnR
import Derived.BigQuiet
import Derived.Deep.QuietTactic
import Derived.StillTailTactics
namespace Go.Lz
open Go.RowKit Go.Proofs.YtbnoebdpbpjbkaaGreat
theorem numsF_succ (A : Nodes) (k : Nat) : numsF A (k + 1) = if (A (k + 1)).isSome = true then numsF A k ++ [((k : Int) + 1)] else numsF A k := by
  unfold numsF
  rw [List.range_succ, List.filter_append, List.map_append]
  by_cases h : (A (k + 1)).isSome = true
  · simp [h]
  · simp [h]
theorem numsF_len (A : Nodes) (k : Nat) : (numsF A k).length ≤ k := by
  unfold numsF
  rw [List.length_map]
  refine Nat.le_trans (List.length_filter_le _ _) ?_
  simp
end Go.Lz
namespace Go.Proofs.YtbnoebdpbpjbkaaGreat
open Go.RowKit Go.Lz
section
variable {w w0 : World} {p q pb pn pk N cc m bl bd : Nat} {L L0 : Locals} {A A0 Ad : Nodes} {lv lvd : Nat → Value × Value}
theorem lst_one (hF : Fine w0 A lv) (c : Nat) : (lstF A lv c).oneCell' = true := by
  unfold lstF
  cases e : A (c / 6) with
  | none =>
    have h6 : c % 6 < 6 := by omega
    generalize c % 6 = d at h6
    match d, h6 with
    | 0, _ | 1, _ | 2, _ | 3, _ | 4, _ | 5, _ => rfl
  | some x =>
    obtain ⟨a1, c1, f1⟩ := IntsAt.form (hF.lbl _ x e).1
    obtain ⟨a2, c2, f2⟩ := IntsAt.form (hF.lbl _ x e).2
    have h6 : c % 6 < 6 := by omega
    generalize c % 6 = d at h6
    match d, h6 with
    | 0, _ | 1, _ | 2, _ | 5, _ => rfl
    | 3, _ => show (lv (c / 6)).1.oneCell' = true; rw [f1]; rfl
    | 4, _ => show (lv (c / 6)).2.oneCell' = true; rw [f2]; rfl
/-- Where the script's loop stands. -/
structure PSt (w0 wr : World) (p q bl bd : Nat) (L0 : Locals) (A Ad : Nodes) (lv lvd : Nat → Value × Value) (cc m : Nat) : Prop where
  ex : ∃ L, Own w0 wr (TB p q 600 A Ad cc m) L ∧ LocIn L0 L ∧ L bl = some (lstO A lv) ∧ L bd = some (lstO Ad lvd)
  f : Fine w0 A lv
  fd : Fine w0 Ad lvd
  hv : heavyN A 65 ≤ 150
  hd : heavyN Ad 65 ≤ 150
theorem heavy_zero' : heavyN noNodes 65 = 0 := sumF_zero fun k _ => by rw [cOf_none rfl]
theorem PSt.mono {wr : World} {L1 : Locals} (h : PSt w0 wr p q bl bd L1 A Ad lv lvd cc m) (i : LocIn L0 L1) : PSt w0 wr p q bl bd L0 A Ad lv lvd cc m := by
  obtain ⟨⟨L, h1, h2, h3, h4⟩, f, fd, hv, hd⟩ := h
  exact ⟨⟨L, h1, i.trans h2, h3, h4⟩, f, fd, hv, hd⟩
/-- The list that is wanted, so far. -/
def WantSt (w0 w : World) (T : World → (Nat → Prop) → Prop) (L : Locals) (v : Value) (xs : List Int) : Prop :=
  (xs = [] ∧ v = .slice none 0 0 ∧ Own w0 w T L) ∨ OwnRow w0 w T L 3 1 v xs.length (xs.map (Value.int .i64))
section
variable {T : World → (Nat → Prop) → Prop} {v : Value} {xs : List Int}
theorem WantSt.next (h : WantSt w0 w T L v xs) : ∃ L', Own w0 w T L' ∧ LocIn L L' ∧ ∀ {w' : World} {T' : World → (Nat → Prop) → Prop}, Own w0 w' T' L' → WantSt w0 w' T' L v xs := by
  rcases h with ⟨h1, h2, h3⟩ | h
  · exact ⟨L, h3, LocIn.refl _, fun h => .inl ⟨h1, h2, h⟩⟩
  · obtain ⟨L', h1, h2, h3⟩ := h.next
    exact ⟨L', h1, h2, fun h => .inr (h3 h)⟩
theorem WantSt.below {w' : World} (h : WantSt w0 w T L v xs) (hk : Keeps T) (hb : Below w.heap.size w w') : WantSt w0 w' T L v xs := by
  rcases h with ⟨h1, h2, h3⟩ | h
  · exact .inl ⟨h1, h2, h3.below hk hb⟩
  · exact .inr (h.below hk hb)
theorem WantSt.ints (h : WantSt w0 w T L v xs) (hl : xs.length ≤ 1000) : IntsAt w (fun _ => True) v xs := by
  rcases h with ⟨rfl, rfl, _⟩ | h
  · exact ⟨none, 0, 0, rfl, rfl, by omega, .inl rfl⟩
  · obtain ⟨g, cap, rfl, hg, _, _, hc, hcell⟩ := h.addr
    refine ⟨_, _, _, rfl, rfl, by omega, .inr ⟨g, 0, rfl, trivial, hg, fun j hj => ?_⟩⟩
    rw [Nat.zero_add]
    exact hcell j _ (by rw [List.getElem?_map, List.getElem?_eq_getElem hj]; simp [List.getD, hj])
theorem WantSt.push (h : WantSt w0 w T L v xs) (hk : Keeps T) {ad : Addr} {c : Nat} {x : Int} (hx : w.cell? ad = some (.int .i64 x)) (hl : xs.length + 1 ≤ 1000) (ty : TypeId) :
    ∃ v' w', (Builtin.append_ #[29, 29] ty #[v, .slice (some ad) 1 c]).run Tryz.prog w = .ok v' w' ∧ WantSt w0 w' T L v' (xs ++ [x]) := by
  obtain ⟨i0, hi0, hz0, hz1, hz2⟩ := info_parts info_int
  have hnews : ∀ j u, [Value.int .i64 x][j]? = some u → w.cell? (ad.add j) = some u := fun j u hu => by
    match j with
    | 0 => simp at hu; subst hu; have : ad.add 0 = ad := by unfold Addr.add; split <;> simp_all
           rw [this]; exact hx
    | j + 1 => simp at hu
  rcases h with ⟨rfl, rfl, hO⟩ | h
  · obtain ⟨v', w', hrun, hown, hgr, hnil, hat⟩ := run_append_own_at (P := Tryz.prog) w w.heap.size 29 ty 3 i0 (.int .i64 0) 1 8 Tryz.underlying29 hi0 hz0 hz1 hz2 rfl (by decide) (.slice none 0 0) 0 [] ⟨rfl, .inl ⟨rfl, rfl⟩⟩ ad 1 c [.int .i64 x] rfl hnews (by simp [Value.oneCell']) (by decide) (by omega) (Nat.le_refl _)
    refine ⟨v', w', hrun, .inr ?_⟩
    have hB : Below w.heap.size w w' := ⟨hgr.os, hgr.tape, hgr.output, hgr.size, fun k hk => hgr.block k hk (by simp [Value.ownBlock])⟩
    rcases hown.2 with ⟨_, h0⟩ | ⟨g', cap', cur, rfl, hb', hg', hnc, hcm, hcs, htk⟩
    · omega
    · exact ⟨g', cap', cur, rfl, hO.local_ hk hB hb' hg', hO.none_ hb', hnc, hcm, hcs, htk, rfl⟩
  · obtain ⟨v', w', hrun, hown, hgr, hnil, hat⟩ := run_append_own_at (P := Tryz.prog) w w0.heap.size 29 ty 3 i0 (.int .i64 0) 1 8 Tryz.underlying29 hi0 hz0 hz1 hz2 rfl (by decide) v xs.length (xs.map (Value.int .i64)) h.row ad 1 c [.int .i64 x] rfl hnews (by simp [Value.oneCell']) (by unfold maxLen; omega) (by omega) h.rest.size
    refine ⟨v', w', hrun, .inr ?_⟩
    have := h.grown hk hown hgr (fun e => by have := (hnil.1 e).2; omega) hat
    rw [List.length_append, List.map_append]
    exact this
end
set_option maxRecDepth 100000 in
set_option maxHeartbeats 16000000 in
theorem inodePlays_any {w : World} {v : Value} {os : List Op7} (h : OpsAt7 w (fun _ => True) v os) (hd : ∀ j, j < os.length → (os.getD j default).data.length ≤ 1048576) : Calls Tryz.prog 6 #[v] w fun e w' => e = .returned (.bool true) ∧ Below w.heap.size w w' := by
  obtain ⟨ad, n, c, rfl, hl, hn, hc⟩ := h
  rw [hl] at hd
  have hn2 : n ≤ 9223372036854775807 := by unfold maxLen at hn; omega
  have hcH : Hid _ := Lib.hid hc
  have hdH : Hid _ := Lib.hid hd
  have h00 : allOf noNodes = 0 := sumF_zero fun k _ => by rw [cOf_none rfl]; rfl
  clear hc hd hl hn
  go_enter Tryz.func6, Tryz.ntmps6
  go_upto_region 2 with (go_at_call 7; refine (lw6Open_any w).mono ?_; rintro e w1 ⟨p, q, pb, pn, pk, rfl, hO1, hL1⟩)
  go_upto_region 4 with (go_at_call 16; refine (lw6awake_any w1).mono ?_; rintro e w1b ⟨rfl, hb1⟩)
  have hO1b := hO1.below (keepsTB _ _ _ _ _ _ _) hb1
  go_upto_region 5 with fail
  have hz := zero_nodes
  rw [hz]
  have hO2 := own_lst0 hO1b (keepsTB _ _ _ _ _ _ _)
  have hn0 := hO1b.none_ (Nat.le_refl w1b.heap.size)
  have hnd := hO1b.none_ (show w1b.heap.size ≤ w1b.heap.size + 1 by omega)
  have hs2 : (w1b.alloc (lstO noNodes nilLv)).heap.size = w1b.heap.size + 1 := by simp
  have hnd2 := hO2.none_ (Nat.le_refl _)
  have hO3 := own_lst0 hO2 (keepsTB _ _ _ _ _ _ _)
  have i1 : LocIn (BaseO noLocals pb pn pk p 600) (upd (BaseO noLocals pb pn pk p 600) w1b.heap.size (some (lstO noNodes nilLv))) := LocIn.upd_ hn0
  have i2 := i1.trans (LocIn.upd_ (g := (w1b.alloc (lstO noNodes nilLv)).heap.size) (o := lstO noNodes nilLv) hnd2)
  have hP0 : PSt w ((w1b.alloc (lstO noNodes nilLv)).alloc (lstO noNodes nilLv)) p q w1b.heap.size (w1b.heap.size + 1) (BaseO noLocals pb pn pk p 600) noNodes noNodes nilLv nilLv 0 0 := by
    rw [hs2] at hO3 i2
    exact ⟨⟨_, hO3, i2, by rw [upd_other _ (by omega), upd_same], upd_same _ _ _⟩, Fine.none_, Fine.none_, by rw [heavy_zero']; omega, by rw [heavy_zero']; omega⟩
  have cB := blocks6 hO3 (hL1.mono i2)
  rw [h00] at cB
  have cB2 : Calls Tryz.prog 17 #[Dptr pb] ((w1b.alloc (lstO noNodes nilLv)).alloc (lstO noNodes nilLv)) (Did w ((w1b.alloc (lstO noNodes nilLv)).alloc (lstO noNodes nilLv)) (TB p q 600 noNodes noNodes 0 0) (upd (upd (BaseO noLocals pb pn pk p 600) w1b.heap.size (some (lstO noNodes nilLv))) (w1b.heap.size + 1) (some (lstO noNodes nilLv))) (.tuple #[.int .i64 300, .int .i64 300])) := by
    rw [hs2] at cB
    exact cB
  obtain ⟨bl, hbl⟩ : ∃ b, b = w1b.heap.size := ⟨_, rfl⟩
  obtain ⟨bd, hbd⟩ : ∃ b, b = w1b.heap.size + 1 := ⟨_, rfl⟩
  have ne1 : bd ≠ bl := by omega
  rw [← hbd, ← hbl] at hP0 cB2 ⊢
  rw [← hbl] at hn0
  rw [← hbd] at hnd
  generalize (w1b.alloc (lstO noNodes nilLv)).alloc (lstO noNodes nilLv) = w2 at *
  generalize BaseO noLocals pb pn pk p 600 = L0 at *
  clear cB hO1 hO1b hO2 hO3 hs2 hnd2 i1 i2 hb1 hz h00 hbl hbd
  have hF0 := hP0.f
  go_upto_region 8 with (go_at_call 17; refine cB2.mono ?_; rintro e w3 ⟨rfl, hO4, hs4⟩)
  have hP1 : PSt w w3 p q bl bd L0 noNodes noNodes nilLv nilLv 0 0 := ⟨⟨_, hO4, (LocIn.upd_ hn0).trans (LocIn.upd_ (by rw [upd_other _ ne1]; exact hnd)), by rw [upd_other _ (Ne.symm ne1), upd_same], upd_same _ _ _⟩, hP0.f, hP0.fd, hP0.hv, hP0.hd⟩
  have hP1H : Hid _ := Lib.hid hP1
  clear hP0 cB2 hO4 hP1 hF0
  go_wp2_with fail
  go_loopg [9, 2, 10, 35, 36, 37, 38, 39, 40, 41, 42, 43, 44, 45, 46, 47, 48, 49, 50, 51, 52, 53, 54, 55, 56, 57, 58, 59, 60, 61, 62, 63, 64, 65, 66, 67, 68, 69, 70, 71, 72, 73, 74, 75, 76, 77, 78, 79, 80, 81, 82, 83, 84, 85, 86, 87, 88, 89, 90, 91, 92, 93, 94, 95, 96, 97, 98, 99, 100, 101, 102, 103, 104, 105, 106, 107, 108, 109, 110, 111, 112, 113, 114, 115, 116, 117, 118, 119, 120, 121, 122, 123, 124, 125, 126, 127, 128, 129, 130, 131, 132] 31 (fun g iv _ _ _ _ _ _ _ _ _ _ _ _ _ _ _ _ _ _ _ _ _ _ _ _ _ _ _ _ _ _ _ _ _ _ _ _ _ _ _ _ _ _ _ _ _ _ _ _ _ _ _ _ _ _ _ _ _ _ _ _ _ _ _ _ _ _ _ _ _ _ _ _ _ _ _ _ _ _ _ _ _ _ _ _ _ _ _ _ _ _ _ _ _ _ _ _ _ _ _ _ wr => ∃ i : Nat, i + g = 31 ∧ i ≤ 30 ∧ iv = .int .i64 (i : Int) ∧ ∃ A Ad lv lvd cc m, PSt w wr p q bl bd L0 A Ad lv lvd cc m ∧ cc ≤ i ∧ (m = 0 ∨ (i < n ∧ (os.getD i default).kind = 6)))
  case atStart => exact ⟨0, rfl, by omega, rfl, noNodes, noNodes, nilLv, nilLv, 0, 0, hP1H.out, Nat.le_refl _, .inl rfl⟩
  case round =>
    obtain ⟨i, hi, hi30', rfl, A, Ad, lv, lvd, cc, m, ⟨⟨L, hO, iL, kL0, kD0⟩, hF, hFd, hhv, hhd⟩, hcc, hm⟩ := hrel
    rename World => wr
    clear hP1H
    by_cases hin : i < n ∧ i < 30
    · obtain ⟨hin, hi30⟩ := hin
      have hiz : (i : Int) < (n : Int) := by omega
      have hi30z : (i : Int) < 30 := by omega
      obtain ⟨b, off, rfl, _, hbw, hops⟩ := hcH.out.resolve_left (by omega)
      obtain ⟨vs, vi, vd, hop⟩ := hops i hin
      have hop2 := hop.below hbw hO.base
      have hdl := hdH.out i hin
      obtain ⟨o, ho⟩ : ∃ o, o = os.getD i default := ⟨_, rfl⟩
      rw [← ho] at hop hop2 hdl hm
      have hopsH : Hid _ := Lib.hid hops
      obtain ⟨k, z, a, b2, s, ii, data⟩ := o
      obtain ⟨c0, c1, c2, c3, c4, c5, c6, hV2⟩ := hop2
      have hV := hop.v
      obtain ⟨ax, cs, rfl⟩ := IntsAt.form hV.s
      obtain ⟨ai, ci, rfl⟩ := IntsAt.form hV.i
      obtain ⟨ax2, cd, rfl⟩ := BytesAt.form hV.d
      dsimp only at c0 c1 c2 c3 c4 c5 c6 hdl hm
      clear hop hops hV2 ho
      have hiH : Hid _ := Lib.hid hi
      have hccH : Hid _ := Lib.hid hcc
      have hmH : Hid _ := Lib.hid hm
      clear hi hcc hm
      have hnb := hO.none_ (Nat.le_refl wr.heap.size)
      obtain ⟨O, hOe⟩ : ∃ O, O = opO k z a b2 (.slice ax s.length cs) (.slice ai ii.length ci) (.slice ax2 data.length cd) := ⟨_, rfl⟩
      have hO3 := own_new6 hO (keepsTB _ _ _ _ _ _ _) O
      have hL3 := (hL1.mono iL).upd_ (o := O) hnb
      have kL : upd L wr.heap.size (some O) bl = some (lstO A lv) := LocIn.upd_ hnb _ _ kL0
      have kD : upd L wr.heap.size (some O) bd = some (lstO Ad lvd) := LocIn.upd_ hnb _ _ kD0
      have kO : upd L wr.heap.size (some O) wr.heap.size = some O := upd_same _ _ _
      have hnb0 : L0 wr.heap.size = none := by
        cases e : L0 wr.heap.size with
        | none => rfl
        | some x => have := iL _ _ e; rw [hnb] at this; cases this
      have ne3 : wr.heap.size ≠ bl := fun e => by rw [e, kL0] at hnb; cases hnb
      have ne4 : wr.heap.size ≠ bd := fun e => by rw [e, kD0] at hnb; cases hnb
      have i3 : LocIn (upd L0 wr.heap.size (some O)) (upd L wr.heap.size (some O)) := fun b o hb => by
        by_cases e : b = wr.heap.size
        · subst e; rw [upd_same] at hb ⊢; exact hb
        · rw [upd_other _ e] at hb ⊢; exact iL b o hb
      have hOeH : Hid _ := Lib.hid hOe
      clear hOe hO hnb iL kL0 kD0
      go_upto_region 12 with fail
      have hW : wr.alloc (.cells #[.int .i64 k, .int .i64 z, .int .i64 a, .int .i64 b2, .slice ax s.length cs, .slice ai ii.length ci, .slice ax2 data.length cd] 56) = wr.alloc O := by rw [hOeH.out]; rfl
      rw [hW]
      clear hW
      generalize upd L wr.heap.size (some O) = L3 at *
      generalize wr.alloc O = w3 at *
      generalize wr.heap.size = bo at *
      rw [hOeH.out] at kO
      obtain ⟨o0, o1, o2, o3, o4, o5, o6⟩ := op_cells (hO3.loc kO)
      have hccH2 := hccH
      clear c0 c1 c2 c3 c4 c5 c6
      go_upto_block 2 with fail
      go_cut [2] from 51 to 119 (fun _ wx => ∃ A Ad lv lvd cc' m', PSt w wx p q bl bd (upd L0 bo (some O)) A Ad lv lvd cc' m' ∧ cc' ≤ i + 1 ∧ (m' = 0 ∨ (i + 1 < n ∧ (os.getD (i + 1) default).kind = 6)))
      case first =>
        by_cases k5 : k = 5
        · as_aux_lemma =>
            subst k5
            have cC := commit6 hO3 (by have := hccH.out; omega)
            clear hO3
            go_upto_region 22 with (go_at_call 9; refine cC.mono ?_; rintro e w7 ⟨rfl, hO6, hs6⟩)
            go_step
            refine wpList_load_row rfl 54 _ rfl bl rfl _ (lstV A lv) (0, 0) _ (hO6.loc kL) Tryz.underlying54 rfl (by rw [vec_size]; kernel_rfl) ?_
            refine wpList_store_row rfl 54 _ _ rfl bd (lstV A lv) rfl rfl _ _ (hO6.loc kD) (by rw [vec_size]; kernel_rfl) (by rw [vec_size, vec_size]) (vec_one _ _ (lst_one hF)) ?_
            have hO7 := hO6.set (o' := lstO A lv) (keepsTB _ _ _ _ _ _ _) kD ((Chg.refl _ w7).ownRow _) (setRow_heap w7 bd _ _ _ _ (hO6.loc kD))
            have i7 : LocIn (upd L0 bo (some O)) (upd L3 bd (some (lstO A lv))) := fun b o hb => by
              have ne : b ≠ bd := fun e => by rw [e] at hb; rw [upd_other _ (Ne.symm ne4), hnd] at hb; cases hb
              rw [upd_other _ ne]
              exact i3 b o hb
            have k7 : upd L3 bd (some (lstO A lv)) bl = some (lstO A lv) := by rw [upd_other _ (Ne.symm ne1)]; exact kL
            go_frame
            go_wp2_with fail
            go_meet
            case rel => exact ⟨A, A, lv, lv, cc + 1, 0, ⟨⟨_, hO7, i7, k7, upd_same _ _ _⟩, hF, hF, hhv, hhv⟩, by have := hccH.out; omega, .inl rfl⟩
        by_cases k6 : k = 6
        · as_aux_lemma =>
            subst k6
            have cC := abort6 hO3
            clear hO3
            go_upto_region 25 with (go_at_call 26; refine cC.mono ?_; rintro e w7 ⟨rfl, hO6, hs6⟩)
            go_step
            refine wpList_load_row rfl 54 _ rfl bd rfl _ (lstV Ad lvd) (0, 0) _ (hO6.loc kD) Tryz.underlying54 rfl (by rw [vec_size]; kernel_rfl) ?_
            refine wpList_store_row rfl 54 _ _ rfl bl (lstV Ad lvd) rfl rfl _ _ (hO6.loc kL) (by rw [vec_size]; kernel_rfl) (by rw [vec_size, vec_size]) (vec_one _ _ (lst_one hFd)) ?_
            have hO7 := hO6.set (o' := lstO Ad lvd) (keepsTB _ _ _ _ _ _ _) kL ((Chg.refl _ w7).ownRow _) (setRow_heap w7 bl _ _ _ _ (hO6.loc kL))
            have i7 : LocIn (upd L0 bo (some O)) (upd L3 bl (some (lstO Ad lvd))) := fun b o hb => by
              have ne : b ≠ bl := fun e => by rw [e] at hb; rw [upd_other _ (Ne.symm ne3), hn0] at hb; cases hb
              rw [upd_other _ ne]
              exact i3 b o hb
            have k7 : upd L3 bl (some (lstO Ad lvd)) bd = some (lstO Ad lvd) := by rw [upd_other _ ne1]; exact kD
            go_frame
            go_wp2_with fail
            go_meet
            case rel => exact ⟨Ad, Ad, lvd, lvd, cc, 0, ⟨⟨_, hO7, i7, upd_same _ _ _, k7⟩, hFd, hFd, hhd, hhd⟩, by have := hccH.out; omega, .inl rfl⟩
        · as_aux_lemma =>
            obtain rfl : m = 0 := hmH.out.elim id fun h => absurd h.2 k6
            have k5b : (k == 5) = false := by simpa using k5
            have k6b : (k == 6) = false := by simpa using k6
            obtain ⟨hv, hve⟩ : ∃ hv, hv = heavyN A 65 := ⟨_, rfl⟩
            have hvl : hv ≤ 150 := by rw [hve]; exact hhv
            have hbl3 := hO3.loc kL
            have cH : ∀ W : BelowOf w3, Calls Tryz.prog 21 #[.pointer (some ⟨bl, 0, none⟩)] W.val fun e w'' => e = .returned (.int .i64 (hv : Int)) ∧ ∃ q : BelowOf w3, w'' = q.val := fun W => Calls.below_of_same (by rw [hve]; exact heavy_any ((W.prop.block bl (hO3.loc_lt kL)).trans hbl3) hF.zero hF.len)
            have cHs : Calls Tryz.prog 21 #[.pointer (some ⟨bl, 0, none⟩)] w3.drew fun e w'' => e = .returned (.int .i64 (hv : Int)) ∧ w'' = w3.drew := (heavy_any (w := w3.drew) (lv := lv) hbl3 hF.zero hF.len).mono fun e w'' ⟨h1, h2⟩ => ⟨by rw [hve]; exact h1, h2.symm⟩
            have o0b : ∀ W : BelowOf w3, W.val.cell? ⟨bo, 0, none⟩ = some (.int .i64 k) := fun W => (W.prop.cell (p := ⟨bo, 0, none⟩) (hO3.loc_lt kO)).trans o0
            have o6b : ∀ W : BelowOf w3, W.val.cell? ⟨bo, 6, none⟩ = some (.slice ax2 data.length cd) := fun W => (W.prop.cell (p := ⟨bo, 6, none⟩) (hO3.loc_lt kO)).trans o6
            have hO3d := hO3.below (keepsTB _ _ _ _ _ _ _) (Below.refl _ w3).drew
            have hveH : Hid _ := Lib.hid hve
            obtain ⟨D, hD⟩ : ∃ D, D = data.length / 64 := ⟨_, rfl⟩
            have hq1 : Int.tdiv (data.length : Int) 64 = (D : Int) := by rw [Int.tdiv_eq_ediv_of_nonneg (by omega)]; omega
            have hq2 : (data.length : Int) / 64 = (D : Int) := by omega
            have hDH : Hid _ := Lib.hid hD
            have hDl : D ≤ 16384 := by omega
            clear hD hve hbl3
            obtain ⟨M, hM⟩ : ∃ M, M = hv + D := ⟨_, rfl⟩
            have hwD : IntKind.i64.wrap (D : Int) = (D : Int) := by rw [IntKind.wrap_i64]; omega
            have hw2 : IntKind.i64.wrap ((hv : Int) + (D : Int)) = (M : Int) := by rw [IntKind.wrap_i64]; omega
            have hMH : Hid _ := Lib.hid hM
            clear hM
            by_cases k2 : k = 2
            · subst k2
              by_cases h100 : 100 < M
              · have b1 : decide ((100 : Int) < (M : Int)) = true := decide_eq_true (by omega)
                have b1n : decide (100 < M) = true := decide_eq_true h100
                have hO3H : Hid _ := Lib.hid hO3
                clear hO3 hO3d cHs
                go_upto_region 13 with fail
                refine wp_region_below (by kernel_rfl) (by kernel_rfl) ?_
                repeat (any_goals (first | go_big_quiet_skip | quiet_step (first
                  | (go_at_call 21; with_reducible exact cH _))))
                refine wpQuiet_nil ?_
                rintro wq ⟨⟨_, hq⟩, rfl⟩
                have hq' : Below w3.heap.size w3 wq := hq
                have o0c : ∀ W : BelowOf wq, W.val.cell? ⟨bo, 0, none⟩ = some (.int .i64 2) := fun W => o0b ⟨W.val, hq.trans (W.prop.mono hq.size)⟩
                have o6c : ∀ W : BelowOf wq, W.val.cell? ⟨bo, 6, none⟩ = some (.slice ax2 data.length cd) := fun W => o6b ⟨W.val, hq.trans (W.prop.mono hq.size)⟩
                have cH2 : ∀ W : BelowOf wq, Calls Tryz.prog 21 #[.pointer (some ⟨bl, 0, none⟩)] W.val fun e w'' => e = .returned (.int .i64 (hv : Int)) ∧ ∃ q : BelowOf wq, w'' = q.val := fun W => Calls.below_of_same (by rw [hveH.out]; exact heavy_any ((W.prop.block bl (lt_of_heap ((hq.block bl (hO3H.out.loc_lt kL)).trans (hO3H.out.loc kL)))).trans ((hq.block bl (hO3H.out.loc_lt kL)).trans (hO3H.out.loc kL))) hF.zero hF.len)
                clear cH o0b o6b o0 o6
                go_upto_region 14 with fail
                refine wp_region_below (by kernel_rfl) (by kernel_rfl) ?_
                repeat (any_goals (first | go_big_quiet_skip | quiet_step (first
                  | (go_at_call 21; with_reducible exact cH2 _))))
                refine wpQuiet_nil ?_
                rintro wq2 ⟨⟨_, hq2⟩, rfl⟩
                go_wp2_with fail
                go_ret
                exact ⟨rfl, hO3H.out.base.trans ((hq.mono hO3H.out.size).trans (hq2.mono (Nat.le_trans hO3H.out.size hq.size)))⟩
              · have b1 : decide ((100 : Int) < (M : Int)) = false := decide_eq_false (by omega)
                have b1n : decide (100 < M) = false := decide_eq_false h100
                have cD := do_any hO3d hL3 kL hF hV (by omega) hdl (fun _ => by rw [← hveH.out, ← hDH.out, ← hMH.out]; omega)
                clear hO3 hO3d cH o0b o6b
                go_upto_region 13 with fail
                clear k5b k6b
                go_still_tail 15, (by kernel_rfl)
                still_call cHs
                repeat still_step
                refine wpStill_nil ?_
                change wpList _ _ _ _ _ w3.drew
                clear cHs
                go_wp2_with fail
                go_at_call 22
                refine cD.mono ?_
                rintro e w5 ⟨rfl, A', lv', m', hO5, hF5, hm5, hk5⟩
                have cH5 := heavy_any (hO5.loc (upd_same _ _ _)) hF5.zero hF5.len
                obtain ⟨h2, hh2⟩ : ∃ h2, h2 = heavyN A' 65 := ⟨_, rfl⟩
                rw [← hh2] at cH5
                have hh2H : Hid _ := Lib.hid hh2
                have kO5 : upd L3 bl (some (lstO A' lv')) bo = some (opO 2 z a b2 (.slice ax s.length cs) (.slice ai ii.length ci) (.slice ax2 data.length cd)) := by rw [upd_other _ ne3]; exact kO
                have kD5 : upd L3 bl (some (lstO A' lv')) bd = some (lstO Ad lvd) := by rw [upd_other _ ne1]; exact kD
                have kL5 : upd L3 bl (some (lstO A' lv')) bl = some (lstO A' lv') := upd_same _ _ _
                have i5 : LocIn (upd L0 bo (some O)) (upd L3 bl (some (lstO A' lv'))) := fun b o hb => by
                  have ne : b ≠ bl := fun e => by rw [e] at hb; rw [upd_other _ (Ne.symm ne3), hn0] at hb; cases hb
                  rw [upd_other _ ne]
                  exact i3 b o hb
                generalize upd L3 bl (some (lstO A' lv')) = L5 at *
                obtain ⟨r0, _⟩ := op_cells (hO5.loc kO5)
                clear cD hh2
                by_cases hbig : 150 < h2
                · have hbz : (150 : Int) < (h2 : Int) := by omega
                  have hO5H : Hid _ := Lib.hid hO5
                  clear hO5
                  go_wp2_with (go_at_call 21; refine cH5.mono ?_; rintro e w6 ⟨rfl, rfl⟩)
                  go_ret
                  exact ⟨rfl, hO5H.out.base⟩
                · have hbz : ¬ (150 : Int) < (h2 : Int) := by omega
                  have hv5 : heavyN A' 65 ≤ 150 := by rw [← hh2H.out]; omega
                  have hv5H : Hid _ := Lib.hid hv5
                  clear hv5 hbig
                  by_cases hk4 : (2 : Int) < 4
                  · have hcommit : (i + 1 < n ∧ (os.getD (i + 1) default).kind = 6) ∨ ¬ (i + 1 < n ∧ (os.getD (i + 1) default).kind = 6) := Classical.em _
                    rcases hcommit with ⟨hi1, hk6⟩ | hno
                    · obtain ⟨vs2, vi2, vd2, hop2⟩ := hopsH.out (i + 1) hi1
                      have cn := (hop2.below hbw hO5.base).c0
                      rw [hk6] at cn
                      have hi1z : (i : Int) + 1 < (n : Int) := by omega
                      have hi0z : (0 : Int) ≤ (i : Int) + 1 := by omega
                      have hi2 : ((i : Int) + 1).toNat = i + 1 := by omega
                      have hO5H : Hid _ := Lib.hid hO5
                      have hk6H : Hid _ := Lib.hid hk6
                      clear hop2 hO5 hk6
                      go_wp2_with (go_at_call 21; refine cH5.mono ?_; rintro e w6 ⟨rfl, rfl⟩)
                      go_meet
                      case rel => exact ⟨A', Ad, lv', lvd, cc, m', ⟨⟨L5, hO5H.out, i5, kL5, kD5⟩, hF5, hFd, hv5H.out, hhd⟩, by have := hccH.out; omega, .inr ⟨hi1, hk6H.out⟩⟩
                    · have cC := commit6 hO5 (by have := hccH.out; omega)
                      by_cases hi1 : i + 1 < n
                      · obtain ⟨vs2, vi2, vd2, hop2⟩ := hopsH.out (i + 1) hi1
                        have cn := (hop2.below hbw hO5.base).c0
                        obtain ⟨kn, hkn⟩ : ∃ kn, kn = (os.getD (i + 1) default).kind := ⟨_, rfl⟩
                        rw [← hkn] at cn
                        have hkn6 : ¬ kn = 6 := fun e => hno ⟨hi1, by rw [← hkn]; exact e⟩
                        have hkn6b : (kn == 6) = false := by simpa using hkn6
                        have hi1z : (i : Int) + 1 < (n : Int) := by omega
                        have hi0z : (0 : Int) ≤ (i : Int) + 1 := by omega
                        have hi2 : ((i : Int) + 1).toNat = i + 1 := by omega
                        clear hop2 hkn hO5 hno
                        go_upto_region 18 with (first
                          | (go_at_call 21; refine cH5.mono ?_; rintro e w6 ⟨rfl, rfl⟩)
                          | (go_at_call 9; refine cC.mono ?_; rintro e w7 ⟨rfl, hO6, hs6⟩))
                        go_step
                        refine wpList_load_row rfl 54 _ rfl bl rfl _ (lstV A' lv') (0, 0) _ (hO6.loc kL5) Tryz.underlying54 rfl (by rw [vec_size]; kernel_rfl) ?_
                        refine wpList_store_row rfl 54 _ _ rfl bd (lstV A' lv') rfl rfl _ _ (hO6.loc kD5) (by rw [vec_size]; kernel_rfl) (by rw [vec_size, vec_size]) (vec_one _ _ (lst_one hF5)) ?_
                        have hO7 := hO6.set (o' := lstO A' lv') (keepsTB _ _ _ _ _ _ _) kD5 ((Chg.refl _ w7).ownRow _) (setRow_heap w7 bd _ _ _ _ (hO6.loc kD5))
                        have i7 : LocIn (upd L0 bo (some O)) (upd L5 bd (some (lstO A' lv'))) := fun b o hb => by
                          have ne : b ≠ bd := fun e => by rw [e] at hb; rw [upd_other _ (Ne.symm ne4), hnd] at hb; cases hb
                          rw [upd_other _ ne]
                          exact i5 b o hb
                        have k7 : upd L5 bd (some (lstO A' lv')) bl = some (lstO A' lv') := by rw [upd_other _ (Ne.symm ne1)]; exact kL5
                        go_frame
                        go_wp2_with fail
                        go_meet
                        case rel => exact ⟨A', A', lv', lv', cc + 1, 0, ⟨⟨_, hO7, i7, k7, upd_same _ _ _⟩, hF5, hF5, hv5H.out, hv5H.out⟩, by have := hccH.out; omega, .inl rfl⟩
                      · have hi1z : ¬ (i : Int) + 1 < (n : Int) := by omega
                        clear hO5 hno
                        go_upto_region 18 with (first
                          | (go_at_call 21; refine cH5.mono ?_; rintro e w6 ⟨rfl, rfl⟩)
                          | (go_at_call 9; refine cC.mono ?_; rintro e w7 ⟨rfl, hO6, hs6⟩))
                        go_step
                        refine wpList_load_row rfl 54 _ rfl bl rfl _ (lstV A' lv') (0, 0) _ (hO6.loc kL5) Tryz.underlying54 rfl (by rw [vec_size]; kernel_rfl) ?_
                        refine wpList_store_row rfl 54 _ _ rfl bd (lstV A' lv') rfl rfl _ _ (hO6.loc kD5) (by rw [vec_size]; kernel_rfl) (by rw [vec_size, vec_size]) (vec_one _ _ (lst_one hF5)) ?_
                        have hO7 := hO6.set (o' := lstO A' lv') (keepsTB _ _ _ _ _ _ _) kD5 ((Chg.refl _ w7).ownRow _) (setRow_heap w7 bd _ _ _ _ (hO6.loc kD5))
                        have i7 : LocIn (upd L0 bo (some O)) (upd L5 bd (some (lstO A' lv'))) := fun b o hb => by
                          have ne : b ≠ bd := fun e => by rw [e] at hb; rw [upd_other _ (Ne.symm ne4), hnd] at hb; cases hb
                          rw [upd_other _ ne]
                          exact i5 b o hb
                        have k7 : upd L5 bd (some (lstO A' lv')) bl = some (lstO A' lv') := by rw [upd_other _ (Ne.symm ne1)]; exact kL5
                        go_frame
                        go_wp2_with fail
                        go_meet
                        case rel => exact ⟨A', A', lv', lv', cc + 1, 0, ⟨⟨_, hO7, i7, k7, upd_same _ _ _⟩, hF5, hF5, hv5H.out, hv5H.out⟩, by have := hccH.out; omega, .inl rfl⟩
                  · exact absurd (by decide) hk4
            · have k2b : (k == 2) = false := by simpa using k2
              have cD := do_any hO3d hL3 kL hF hV (by omega) hdl (fun h => absurd h k2)
              clear hO3 hO3d cH cHs o0b o6b
              go_upto_region 13 with fail
              clear k2b k5b k6b
              go_still_tail 15, (by kernel_rfl)
              change wpList _ _ _ _ _ w3.drew
              go_wp2_with fail
              go_at_call 22
              refine cD.mono ?_
              rintro e w5 ⟨rfl, A', lv', m', hO5, hF5, hm5, hk5⟩
              have cH5 := heavy_any (hO5.loc (upd_same _ _ _)) hF5.zero hF5.len
              obtain ⟨h2, hh2⟩ : ∃ h2, h2 = heavyN A' 65 := ⟨_, rfl⟩
              rw [← hh2] at cH5
              have hh2H : Hid _ := Lib.hid hh2
              have kO5 : upd L3 bl (some (lstO A' lv')) bo = some (opO k z a b2 (.slice ax s.length cs) (.slice ai ii.length ci) (.slice ax2 data.length cd)) := by rw [upd_other _ ne3]; exact kO
              have kD5 : upd L3 bl (some (lstO A' lv')) bd = some (lstO Ad lvd) := by rw [upd_other _ ne1]; exact kD
              have kL5 : upd L3 bl (some (lstO A' lv')) bl = some (lstO A' lv') := upd_same _ _ _
              have i5 : LocIn (upd L0 bo (some O)) (upd L3 bl (some (lstO A' lv'))) := fun b o hb => by
                have ne : b ≠ bl := fun e => by rw [e] at hb; rw [upd_other _ (Ne.symm ne3), hn0] at hb; cases hb
                rw [upd_other _ ne]
                exact i3 b o hb
              generalize upd L3 bl (some (lstO A' lv')) = L5 at *
              obtain ⟨r0, _⟩ := op_cells (hO5.loc kO5)
              clear cD hh2
              by_cases hbig : 150 < h2
              · have hbz : (150 : Int) < (h2 : Int) := by omega
                have hO5H : Hid _ := Lib.hid hO5
                clear hO5
                go_wp2_with (go_at_call 21; refine cH5.mono ?_; rintro e w6 ⟨rfl, rfl⟩)
                go_ret
                exact ⟨rfl, hO5H.out.base⟩
              · have hbz : ¬ (150 : Int) < (h2 : Int) := by omega
                have hv5 : heavyN A' 65 ≤ 150 := by rw [← hh2H.out]; omega
                have hv5H : Hid _ := Lib.hid hv5
                clear hv5 hbig
                by_cases hk4 : k < 4
                · have hcommit : (i + 1 < n ∧ (os.getD (i + 1) default).kind = 6) ∨ ¬ (i + 1 < n ∧ (os.getD (i + 1) default).kind = 6) := Classical.em _
                  rcases hcommit with ⟨hi1, hk6⟩ | hno
                  · obtain ⟨vs2, vi2, vd2, hop2⟩ := hopsH.out (i + 1) hi1
                    have cn := (hop2.below hbw hO5.base).c0
                    rw [hk6] at cn
                    have hi1z : (i : Int) + 1 < (n : Int) := by omega
                    have hi0z : (0 : Int) ≤ (i : Int) + 1 := by omega
                    have hi2 : ((i : Int) + 1).toNat = i + 1 := by omega
                    have hO5H : Hid _ := Lib.hid hO5
                    have hk6H : Hid _ := Lib.hid hk6
                    clear hop2 hO5 hk6
                    go_wp2_with (go_at_call 21; refine cH5.mono ?_; rintro e w6 ⟨rfl, rfl⟩)
                    go_meet
                    case rel => exact ⟨A', Ad, lv', lvd, cc, m', ⟨⟨L5, hO5H.out, i5, kL5, kD5⟩, hF5, hFd, hv5H.out, hhd⟩, by have := hccH.out; omega, .inr ⟨hi1, hk6H.out⟩⟩
                  · have cC := commit6 hO5 (by have := hccH.out; omega)
                    by_cases hi1 : i + 1 < n
                    · obtain ⟨vs2, vi2, vd2, hop2⟩ := hopsH.out (i + 1) hi1
                      have cn := (hop2.below hbw hO5.base).c0
                      obtain ⟨kn, hkn⟩ : ∃ kn, kn = (os.getD (i + 1) default).kind := ⟨_, rfl⟩
                      rw [← hkn] at cn
                      have hkn6 : ¬ kn = 6 := fun e => hno ⟨hi1, by rw [← hkn]; exact e⟩
                      have hkn6b : (kn == 6) = false := by simpa using hkn6
                      have hi1z : (i : Int) + 1 < (n : Int) := by omega
                      have hi0z : (0 : Int) ≤ (i : Int) + 1 := by omega
                      have hi2 : ((i : Int) + 1).toNat = i + 1 := by omega
                      clear hop2 hkn hO5 hno
                      go_upto_region 18 with (first
                        | (go_at_call 21; refine cH5.mono ?_; rintro e w6 ⟨rfl, rfl⟩)
                        | (go_at_call 9; refine cC.mono ?_; rintro e w7 ⟨rfl, hO6, hs6⟩))
                      go_step
                      refine wpList_load_row rfl 54 _ rfl bl rfl _ (lstV A' lv') (0, 0) _ (hO6.loc kL5) Tryz.underlying54 rfl (by rw [vec_size]; kernel_rfl) ?_
                      refine wpList_store_row rfl 54 _ _ rfl bd (lstV A' lv') rfl rfl _ _ (hO6.loc kD5) (by rw [vec_size]; kernel_rfl) (by rw [vec_size, vec_size]) (vec_one _ _ (lst_one hF5)) ?_
                      have hO7 := hO6.set (o' := lstO A' lv') (keepsTB _ _ _ _ _ _ _) kD5 ((Chg.refl _ w7).ownRow _) (setRow_heap w7 bd _ _ _ _ (hO6.loc kD5))
                      have i7 : LocIn (upd L0 bo (some O)) (upd L5 bd (some (lstO A' lv'))) := fun b o hb => by
                        have ne : b ≠ bd := fun e => by rw [e] at hb; rw [upd_other _ (Ne.symm ne4), hnd] at hb; cases hb
                        rw [upd_other _ ne]
                        exact i5 b o hb
                      have k7 : upd L5 bd (some (lstO A' lv')) bl = some (lstO A' lv') := by rw [upd_other _ (Ne.symm ne1)]; exact kL5
                      go_frame
                      go_wp2_with fail
                      go_meet
                      case rel => exact ⟨A', A', lv', lv', cc + 1, 0, ⟨⟨_, hO7, i7, k7, upd_same _ _ _⟩, hF5, hF5, hv5H.out, hv5H.out⟩, by have := hccH.out; omega, .inl rfl⟩
                    · have hi1z : ¬ (i : Int) + 1 < (n : Int) := by omega
                      clear hO5 hno
                      go_upto_region 18 with (first
                        | (go_at_call 21; refine cH5.mono ?_; rintro e w6 ⟨rfl, rfl⟩)
                        | (go_at_call 9; refine cC.mono ?_; rintro e w7 ⟨rfl, hO6, hs6⟩))
                      go_step
                      refine wpList_load_row rfl 54 _ rfl bl rfl _ (lstV A' lv') (0, 0) _ (hO6.loc kL5) Tryz.underlying54 rfl (by rw [vec_size]; kernel_rfl) ?_
                      refine wpList_store_row rfl 54 _ _ rfl bd (lstV A' lv') rfl rfl _ _ (hO6.loc kD5) (by rw [vec_size]; kernel_rfl) (by rw [vec_size, vec_size]) (vec_one _ _ (lst_one hF5)) ?_
                      have hO7 := hO6.set (o' := lstO A' lv') (keepsTB _ _ _ _ _ _ _) kD5 ((Chg.refl _ w7).ownRow _) (setRow_heap w7 bd _ _ _ _ (hO6.loc kD5))
                      have i7 : LocIn (upd L0 bo (some O)) (upd L5 bd (some (lstO A' lv'))) := fun b o hb => by
                        have ne : b ≠ bd := fun e => by rw [e] at hb; rw [upd_other _ (Ne.symm ne4), hnd] at hb; cases hb
                        rw [upd_other _ ne]
                        exact i5 b o hb
                      have k7 : upd L5 bd (some (lstO A' lv')) bl = some (lstO A' lv') := by rw [upd_other _ (Ne.symm ne1)]; exact kL5
                      go_frame
                      go_wp2_with fail
                      go_meet
                      case rel => exact ⟨A', A', lv', lv', cc + 1, 0, ⟨⟨_, hO7, i7, k7, upd_same _ _ _⟩, hF5, hF5, hv5H.out, hv5H.out⟩, by have := hccH.out; omega, .inl rfl⟩
                · have hO5H : Hid _ := Lib.hid hO5
                  have hm0 : m' = 0 := hk5 (.inr (by omega))
                  have hm0H : Hid _ := Lib.hid hm0
                  clear hO5 hm0
                  go_wp2_with (go_at_call 21; refine cH5.mono ?_; rintro e w6 ⟨rfl, rfl⟩)
                  go_meet
                  case rel => exact ⟨A', Ad, lv', lvd, cc, m', ⟨⟨L5, hO5H.out, i5, kL5, kD5⟩, hF5, hFd, hv5H.out, hhd⟩, by have := hccH.out; omega, .inl hm0H.out⟩
      case rest =>
        obtain ⟨A1, Ad1, lv1, lvd1, cc1, m1, ⟨⟨L1, hO1, i1, kL1, kD1⟩, hF1, hFd1, hhv1, hhd1⟩, hcc1, hm1⟩ := hcut
        rename World => wx
        have kO1 : L1 bo = some (opO k z a b2 (.slice ax s.length cs) (.slice ai ii.length ci) (.slice ax2 data.length cd)) := by rw [← hOeH.out]; exact i1 _ _ (upd_same _ _ _)
        have iL1 : LocIn L0 L1 := (LocIn.upd_ hnb0).trans i1
        have hLb1 := hL1.mono iL1
        obtain ⟨_, r1, _⟩ := op_cells (hO1.loc kO1)
        obtain ⟨c, hc, hc1, hc64⟩ : ∃ c : Nat, max (min z 64) 1 = (c : Int) ∧ 1 ≤ c ∧ c ≤ 64 := ⟨(max (min z 64) 1).toNat, by omega, by omega, by omega⟩
        obtain ⟨zz, hzz⟩ : ∃ zz, min z 64 = zz := ⟨_, rfl⟩
        rw [hzz] at hc
        have hwL := hO1.loc kL1
        have q0 : wx.cell? ⟨bl, c * 6, none⟩ = some (lnodeC (A1 c) (lv1 c) 0) := lst_cell (c := 0) hwL hc64 (by omega)
        have q1 := lst_cell (c := 1) hwL hc64 (by omega)
        have q2 := lst_cell (c := 2) hwL hc64 (by omega)
        have q3 := lst_cell (c := 3) hwL hc64 (by omega)
        have q4 := lst_cell (c := 4) hwL hc64 (by omega)
        have q5 := lst_cell (c := 5) hwL hc64 (by omega)
        have c0z : (0 : Int) ≤ (c : Int) := by omega
        have c65z : (c : Int) < 65 := by omega
        have c65 : c < 65 := by omega
        have hOd := hO1.below (keepsTB _ _ _ _ _ _ _) (Below.refl _ wx).drew
        have hcc1H : Hid _ := Lib.hid hcc1
        have hm1H : Hid _ := Lib.hid hm1
        clear hwL hO1 hO3 hm1 hcc1 o0 o1 o2 o3 o4 o5 o6 hccH hccH2 hmH
        cases hA : A1 c with
        | none =>
          have hno : ¬ IsN A1 (c : Int) := fun h => by
            have := h.2
            rw [Int.toNat_natCast, hA] at this
            cases this
          have cQ := same6_off hOd hLb1 hno
          rw [hA] at q0 q1 q2 q3 q4 q5
          dsimp only [lnodeC] at q0 q1 q2 q3 q4 q5
          unfold offV at cQ
          clear hno hOd
          go_upto_region 26 with fail
          go_still_tail 11, (by kernel_rfl)
          change wpList _ _ _ _ _ wx.drew
          go_wp2_with (go_at_call 25; refine cQ.mono ?_; rintro e w8 ⟨rfl, hO8, hs8⟩)
          go_roundg (gk - 1)
          case measure => have := hiH.out; omega
          case rel =>
            have := hiH.out
            exact ⟨i + 1, by omega, by omega, by go_num, A1, Ad1, lv1, lvd1, cc1, m1, ⟨⟨L1, hO8, iL1, kL1, kD1⟩, hF1, hFd1, hhv1, hhd1⟩, hcc1H.out, hm1H.out⟩
        | some x =>
          have cQ := same6_on hOd hLb1 hA (hF1.lbl c x hA).1 (hF1.lbl c x hA).2 (by have := hF1.len c x hA; omega)
          obtain ⟨a1, c1, f1⟩ := IntsAt.form (hF1.lbl c x hA).1
          obtain ⟨a2, c2, f2⟩ := IntsAt.form (hF1.lbl c x hA).2
          rw [hA] at q0 q1 q2 q3 q4 q5
          dsimp only [lnodeC] at q0 q1 q2 q3 q4 q5
          rw [f1] at q3 cQ
          rw [f2] at q4 cQ
          unfold onV at cQ
          clear f1 f2 hOd
          go_upto_region 26 with fail
          go_still_tail 11, (by kernel_rfl)
          change wpList _ _ _ _ _ wx.drew
          go_wp2_with (go_at_call 25; refine cQ.mono ?_; rintro e w8 ⟨rfl, hO8, hs8⟩)
          go_roundg (gk - 1)
          case measure => have := hiH.out; omega
          case rel =>
            have := hiH.out
            exact ⟨i + 1, by omega, by omega, by go_num, A1, Ad1, lv1, lvd1, cc1, m1, ⟨⟨L1, hO8, iL1, kL1, kD1⟩, hF1, hFd1, hhv1, hhd1⟩, hcc1H.out, hm1H.out⟩
    · have hLx := hL1.mono iL
      clear hcc hm hhv hhd
      rcases (show (i < n ∧ ¬ i < 30) ∨ ¬ i < n by omega) with ⟨h1, h2⟩ | h1
      case' inl =>
        have h1z : (i : Int) < (n : Int) := by omega
        have h2z : ¬ (i : Int) < 30 := by omega
        clear hin h1 h2 hi
        have hOH : Hid _ := Lib.hid hO
        clear hO
        go_wp2_with fail
      case' inr =>
        have h1z : ¬ (i : Int) < (n : Int) := by omega
        clear hin h1 hi
        have hOH : Hid _ := Lib.hid hO
        clear hO
        go_wp2_with fail
      all_goals
        go_loopg [12, 11, 2, 133, 134, 135, 136, 137, 138, 139, 140, 141, 142, 143, 144, 145, 146, 147, 148, 149, 150, 151] 64 (fun g kv xv _ _ _ _ _ _ _ _ _ _ _ _ _ _ _ _ _ _ _ _ wr => ∃ k : Nat, k + g = 65 ∧ 1 ≤ k ∧ kv = .int .i64 (k : Int) ∧ WantSt w wr (TB p q 600 A Ad cc m) L xv (numsF A (k - 1)))
        case atStart => exact ⟨1, rfl, Nat.le_refl _, rfl, .inl ⟨rfl, rfl, hOH.out⟩⟩
        case round =>
          obtain ⟨k, hk, hk1, rfl, hw⟩ := hrel
          rename World => wk
          clear hOH
          obtain ⟨L', hO7, i7, hback⟩ := hw.next
          have kL7 := i7 _ _ kL0
          have hL7 := hLx.mono i7
          have hback2 : ∀ (w' : World) (T' : World → (Nat → Prop) → Prop), Own w w' T' L' → WantSt w w' T' L _ (numsF A (k - 1)) := fun _ _ h => hback h
          have hbackH : Hid _ := Lib.hid hback2
          clear hback hback2
          by_cases hk64 : k ≤ 64
          · have hkz : (k : Int) ≤ 64 := by omega
            have k65 : k < 65 := by omega
            have hwL := hO7.loc kL7
            have q0 : wk.cell? ⟨bl, k * 6, none⟩ = some (lnodeC (A k) (lv k) 0) := lst_cell (c := 0) hwL hk64 (by omega)
            have q1 := lst_cell (c := 1) hwL hk64 (by omega)
            have q2 := lst_cell (c := 2) hwL hk64 (by omega)
            have q3 := lst_cell (c := 3) hwL hk64 (by omega)
            have q4 := lst_cell (c := 4) hwL hk64 (by omega)
            have q5 := lst_cell (c := 5) hwL hk64 (by omega)
            have hkH : Hid _ := Lib.hid hk
            have hns := numsF_succ A (k - 1)
            rw [Nat.sub_add_cancel hk1] at hns
            have hnl := numsF_len A (k - 1)
            have hnlH : Hid _ := Lib.hid hnl
            clear hwL hk hw hnl
            cases hA : A k with
            | none =>
              have hno : ¬ IsN A (k : Int) := fun h => by
                have := h.2
                rw [Int.toNat_natCast, hA] at this
                cases this
              have cQ := same6_off hO7 hL7 hno
              rw [hA] at q0 q1 q2 q3 q4 q5 hns
              dsimp only [lnodeC] at q0 q1 q2 q3 q4 q5
              unfold offV at cQ
              have hns2 : Hid (numsF A k = numsF A (k - 1)) := Lib.hid (hns.trans (if_neg (by simp)))
              clear hno hns
              go_wp2_with (go_at_call 25; refine cQ.mono ?_; rintro e w8 ⟨rfl, hO8, hs8⟩; have y0 : w8.cell? ⟨bl, k * 6, none⟩ = some (lnodeC (A k) (lv k) 0) := lst_cell (c := 0) (hO8.loc kL7) hk64 (by omega); rw [hA] at y0; dsimp only [lnodeC] at y0)
              go_roundg (gk - 1)
              case measure => have := hkH.out; omega
              case rel => have := hkH.out; exact ⟨k + 1, by omega, by omega, by go_num, by rw [Nat.add_sub_cancel, hns2.out]; exact hbackH.out _ _ hO8⟩
            | some x =>
              have cQ := same6_on hO7 hL7 hA (hF.lbl k x hA).1 (hF.lbl k x hA).2 (by have := hF.len k x hA; omega)
              obtain ⟨a1, c1, f1⟩ := IntsAt.form (hF.lbl k x hA).1
              obtain ⟨a2, c2, f2⟩ := IntsAt.form (hF.lbl k x hA).2
              rw [hA] at q0 q1 q2 q3 q4 q5 hns
              dsimp only [lnodeC] at q0 q1 q2 q3 q4 q5
              rw [f1] at q3 cQ
              rw [f2] at q4 cQ
              unfold onV at cQ
              have hns2 : Hid (numsF A k = numsF A (k - 1) ++ [(k : Int)]) := Lib.hid (by rw [hns, if_pos (show (some x).isSome = true from rfl), show ((k - 1 : Nat) : Int) + 1 = (k : Int) by omega])
              clear f1 f2 hns
              go_upto_region 35 with (go_at_call 25; refine cQ.mono ?_; rintro e w8 ⟨rfl, hO8, hs8⟩; have y0 : w8.cell? ⟨bl, k * 6, none⟩ = some (lnodeC (A k) (lv k) 0) := lst_cell (c := 0) (hO8.loc kL7) hk64 (by omega); rw [hA] at y0; dsimp only [lnodeC] at y0)
              have hw8 := (hbackH.out _ _ hO8).below (keepsTB _ _ _ _ _ _ _) ((Below.refl _ w8).alloc (Nat.le_refl _) (.cells #[.int .i64 (k : Int)] 3))
              obtain ⟨v', w9, hrun, hw9⟩ := hw8.push (keepsTB _ _ _ _ _ _ _) (ad := ⟨w8.heap.size, 0, none⟩) (c := 1) (x := (k : Int)) (cell_of (heap_alloc_new w8 (.cells #[.int .i64 (k : Int)] 3)) 0) (by have := hnlH.out; omega) 29
              have hw9H : Hid _ := Lib.hid hw9
              clear hw8 hw9 cQ
              go_step
              go_step
              go_step
              go_step
              go_step
              go_step
              go_step
              go_step
              go_step
              go_step
              refine wpList_append_run rfl _ _ 29 rfl rfl rfl hrun ?_
              go_frame
              go_wp2_with fail
              go_roundg (gk - 1)
              case measure => have := hkH.out; omega
              case rel => have := hkH.out; exact ⟨k + 1, by omega, by omega, by go_num, by rw [Nat.add_sub_cancel, hns2.out]; exact hw9H.out⟩
          · obtain rfl : k = 65 := by omega
            have hkz : ¬ (((65 : Nat) : Int)) ≤ 64 := by omega
            have cN := nodes6 hO7 hL7
            clear hk hk64 hw
            go_wp2_with fail
            go_at_call 14
            refine cN.mono ?_
            rintro e w8 ⟨vN, L8, rfl, hO8, i8, hI8, hs8⟩
            have hw8 := (hbackH.out _ _ (hO8.forget i8)).ints (by have := numsF_len A 64; show (numsF A 64).length ≤ 1000; omega)
            have cS := sameset_any hI8 hw8
            have cK : ∀ w9, Below w8.heap.size w8 w9 → Calls Tryz.prog 15 #[Dptr pb] w9 (Did w w9 (TB p q 600 A Ad cc m) L8 (.int .i64 0)) := fun w9 hb => check6 (hO8.below (keepsTB _ _ _ _ _ _ _) hb) (hL7.mono i8)
            clear cN hO8 hI8 hw8
            go_wp2_with (first
              | (go_at_call 27; refine cS.mono ?_; rintro e w9 ⟨rfl, hb9⟩)
              | (go_at_call 15; refine (cK _ hb9).mono ?_; rintro e wA ⟨rfl, hOA, hsA⟩))
            go_ret
            exact ⟨rfl, hOA.base⟩
end
end Go.Proofs.YtbnoebdpbpjbkaaGreat
