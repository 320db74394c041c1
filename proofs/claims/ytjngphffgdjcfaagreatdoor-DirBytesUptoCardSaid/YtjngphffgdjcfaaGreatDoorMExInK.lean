/-
  A base's calls: Check.
-/
import Derived.Test.YtjngphffgdjcfaaGreatDoorME16
import Derived.StillTailTactics
import Derived.BigRegion
namespace Go.Proofs.YtjngphffgdjcfaaGreatDoor
open Go.RowKit Go.Lz
section
variable {w w0 : World} {pb p q pn pk px gb cap n q1 q3 gu all N cc m : Nat} {S : WalS} {Fs G G' : Nat → Prop} {b : Bytes} {u : Nat → Nat} {A : Nodes} {g : Nat → Bytes} {o : Owner}
set_option maxHeartbeats 4000000 in
set_option maxRecDepth 100000 in
theorem check_any (h : BaseIn w pb p q pn pk S Fs) (B : BaseP S N g cc m A) : Calls Tryz.prog 17 #[Dptr pb] w (BDid w pb p q pn pk S Fs (.int .i64 0)) := by
  obtain ⟨o, R⟩ := B.rdy
  have hFl := h.sto.lt
  have hN2 := B.kb.kp.n_le
  have hall : S.allB = N - 300 := by unfold WalS.allB; rw [B.kb.size]
  obtain ⟨all, hal⟩ : ∃ all, all = S.allB := ⟨_, rfl⟩
  have hall2 : all + 1 ≤ 10000 := by omega
  have hBH : Hid _ := Lib.hid B
  have hRH : Hid _ := Lib.hid R
  have hhH : Hid _ := Lib.hid h
  have c3 := h.c3
  rw [← hal] at c3
  have hb1 : Below w.heap.size w (w.alloc (.cells #[Dptr pb] 25)) := (Below.refl _ w).alloc (Nat.le_refl _) _
  have c31 : (w.alloc (.cells #[Dptr pb] 25)).cell? ⟨pb, 3, none⟩ = some (.int .i64 (all : Int)) := by
    rw [← c3]
    exact hb1.cell (lt_of_heap h.blk)
  have c11 : (w.alloc (.cells #[Dptr pb] 25)).cell? ⟨w.heap.size, 0, none⟩ = some (Dptr pb) := cell_of (heap_alloc_new w _) 0
  clear hb1 c3
  have hpb := lt_of_heap h.blk
  have hpn := lt_of_heap h.mN
  have hpk := lt_of_heap h.mK
  obtain ⟨w1, hw1⟩ : ∃ w1, w1 = ((w.alloc (.cells #[Dptr pb] 25)).alloc (.cells (natsV (all + 1) fun _ => 0) 3)).alloc (.cells #[.slice (some ⟨w.heap.size + 1, 0, none⟩) (all + 1) (all + 1)] 32) := ⟨_, rfl⟩
  have hs1 : w1.heap.size = w.heap.size + 1 + 1 + 1 := by rw [hw1]; simp
  have hb1 : Below w.heap.size w w1 := by rw [hw1]; exact (((Below.refl _ w).alloc (Nat.le_refl _) _).alloc (by simp) _).alloc (by simp; omega) _
  have k1 : w1.heap[w.heap.size]? = some (.cells #[Dptr pb] 25 (0, 0)) := by
    rw [hw1]
    have h1 := heap_alloc_new w (.cells #[Dptr pb] 25)
    have h2 := (((Below.refl (w.alloc (.cells #[Dptr pb] 25)).heap.size _).alloc (Nat.le_refl _) (.cells (natsV (all + 1) fun _ => 0) 3)).alloc (by simp) (.cells #[.slice (some ⟨w.heap.size + 1, 0, none⟩) (all + 1) (all + 1)] 32)).block w.heap.size (by simp)
    exact h2.trans h1
  have k2 : w1.heap[w.heap.size + 1]? = some (.cells (natsV (all + 1) fun _ => 0) 3 (0, 0)) := by
    rw [hw1]
    have h1 := heap_alloc_new (w.alloc (.cells #[Dptr pb] 25)) (.cells (natsV (all + 1) fun _ => 0) 3)
    have h2 := ((Below.refl ((w.alloc (.cells #[Dptr pb] 25)).alloc (.cells (natsV (all + 1) fun _ => 0) 3)).heap.size _).alloc (Nat.le_refl _) (.cells #[.slice (some ⟨w.heap.size + 1, 0, none⟩) (all + 1) (all + 1)] 32)).block (w.heap.size + 1) (by simp)
    rw [h2]
    simpa using h1
  have k3 : w1.heap[w.heap.size + 1 + 1]? = some (.cells #[.slice (some ⟨w.heap.size + 1, 0, none⟩) (all + 1) (all + 1)] 32 (0, 0)) := by
    rw [hw1]
    have h1 := heap_alloc_new ((w.alloc (.cells #[Dptr pb] 25)).alloc (.cells (natsV (all + 1) fun _ => 0) 3)) (.cells #[.slice (some ⟨w.heap.size + 1, 0, none⟩) (all + 1) (all + 1)] 32)
    simpa using h1
  have hC1 : CSt w w1 pb p q pn pk w.heap.size (w.heap.size + 1 + 1) (w.heap.size + 1) all S Fs (fun k => k = w.heap.size ∨ k = w.heap.size + 1 ∨ k = w.heap.size + 1 + 1) (fun _ => 0) := by
    refine ⟨⟨Fs, h.below hb1, fun k e => .inl e, fun k e => ⟨fun e2 => ?_, by omega⟩⟩, ⟨.inl rfl, .inr (.inr rfl), .inr (.inl rfl)⟩, k1, k3, k2, Chg.of_below hb1, by omega, ⟨by omega, by omega⟩, hpb, hpn, hpk⟩
    have := hFl k e2
    omega
  have cN := nodes_any (h.below hb1)
  have c1w := hC1.c1
  have hC1H : Hid _ := Lib.hid hC1
  have hw1H : Hid _ := Lib.hid hw1
  have hs1H : Hid _ := Lib.hid hs1
  clear hb1 k1 k2 k3 hC1 hw1 hs1
  have halH : Hid _ := Lib.hid hal
  clear B R hal hall h
  have mk : ∀ W : World, (Instr.makeSlice 32 (.int .i64 ((all : Int) + 1)) (.int .i64 ((all : Int) + 1))).run Tryz.prog W = .ok (.slice (some ⟨W.heap.size, 0, none⟩) (all + 1) (all + 1)) (W.alloc (.cells (natsV (all + 1) fun _ => 0) 3)) := fun W => mknats W (all + 1) (by omega)
  go_enter Tryz.func17, Tryz.ntmps17
  go_upto_region 3 with fail
  rw [← hw1H.out]
  clear mk c31 c11
  go_upto_block 0 with (go_at_call 43; refine cN.mono ?_; rintro e w2 ⟨v, rfl, hrow, hB2, hC2⟩; obtain ⟨av, cv, rfl⟩ := IntsAt.form hrow)
  obtain ⟨rb, hrb, hrow2⟩ : ∃ rb, (w1.heap.size ≤ rb ∧ rb < w2.heap.size ∨ rb = w.heap.size) ∧ IntsAt w2 (· = rb) (.slice av S.nodesL.length cv) S.nodesL := by
    obtain ⟨a', n', c', e1, e2, e3, e4⟩ := hrow
    injection e1 with e1 e5 e6
    subst e1 e5 e6
    rcases e4 with e4 | ⟨b, off, h1, h2, h3, h4⟩
    · exact ⟨w.heap.size, .inr rfl, _, _, _, rfl, e2, e3, .inl e4⟩
    · exact ⟨b, .inl ⟨h2, h3⟩, _, _, _, rfl, e2, e3, .inr ⟨b, off, h1, rfl, h3, h4⟩⟩
  have hC20 := hC1H.out.on (w' := w2) (F := Fs) (F2 := Fs) (fun k e => .inl e) (fun k e => by
    have h1 := hs1H.out
    refine ⟨fun e2 => ?_, by omega⟩
    have := hhH.out.sto.lt k e2
    omega) hB2 (fun k e => .inl e) hC2
  have hrbF : ¬ Fs rb := fun e2 => by
    have := hhH.out.sto.lt rb e2
    have := hs1H.out
    omega
  have hrbn : rb ≠ w.heap.size + 1 := by
    have := hs1H.out
    omega
  have hs2 := hC2.size
  have hC3 : CSt w w2 pb p q pn pk w.heap.size (w.heap.size + 1 + 1) (w.heap.size + 1) all S Fs (fun k => k = w.heap.size ∨ k = w.heap.size + 1 ∨ k = w.heap.size + 1 + 1 ∨ k = rb) (usedU o (S.nodesL.take 0) 0 0) := by
    rw [List.take_zero, usedU_start]
    refine ⟨⟨Fs, hB2, fun k e => .inl e, fun k e => ?_⟩, ⟨.inl rfl, .inr (.inr (.inl rfl)), .inr (.inl rfl)⟩, hC20.b1, hC20.b3, hC20.bg, hC20.chg, hC20.le, hC20.ne, hC20.old⟩
    have h1 := hs1H.out
    refine ⟨fun e2 => ?_, by omega⟩
    have := hhH.out.sto.lt k e2
    omega
  have hL64 : S.nodesL.length ≤ 64 := nodesF_len S 64
  obtain ⟨L, hL⟩ : ∃ L, L = S.nodesL.length := ⟨_, rfl⟩
  rw [← hL] at hrow2 hL64 ⊢
  have hC3H : Hid _ := Lib.hid hC3
  have hrow2H : Hid _ := Lib.hid hrow2
  have hLH : Hid _ := Lib.hid hL
  clear hC3 hrow2 hL hC20 hB2 hC2 hrow hC1H hs2 cN c1w hrb
  go_wp2_with fail
  go_loopg [27, 2, 6, 7, 8, 9, 10, 11, 12, 13, 28, 29, 30, 31, 32, 33, 34, 35, 36, 37, 38, 39, 40, 41, 42, 43, 44, 45, 46, 47, 48, 49, 50, 51, 52, 53, 54, 55, 56, 57, 58, 59, 60, 61, 62, 63, 64, 65, 66, 67, 68, 69, 70, 71, 72, 73, 74, 75, 76, 77, 78, 79, 80, 81, 82, 83, 84, 85, 86, 87] L (fun g iv rv _ _ _ _ _ _ _ _ _ _ _ _ _ _ _ _ _ _ _ _ _ _ _ _ _ _ _ _ _ _ _ _ _ _ _ _ _ _ _ _ _ _ _ _ _ _ _ _ _ _ _ _ _ _ _ _ _ _ _ _ _ _ _ _ _ _ _ _ wr => ∃ r : Nat, r + g = L ∧ iv = .int .i64 (r : Int) ∧ rv = .int .i64 0 ∧ CSt w wr pb p q pn pk w.heap.size (w.heap.size + 1 + 1) (w.heap.size + 1) all S Fs (fun k => k = w.heap.size ∨ k = w.heap.size + 1 ∨ k = w.heap.size + 1 + 1 ∨ k = rb) (usedU o (S.nodesL.take r) 0 0) ∧ IntsAt wr (· = rb) (.slice av L cv) S.nodesL)
  case atStart => exact ⟨0, by omega, rfl, rfl, hC3H.out, hrow2H.out⟩
  case round =>
    obtain ⟨r, hr, rfl, rfl, hC, hrow⟩ := hrel
    rename World => wr
    obtain ⟨gko, hgko⟩ : ∃ x, x = gk := ⟨_, rfl⟩
    have hgkoH : Hid _ := Lib.hid hgko
    clear hgko
    by_cases hrL : r < L
    · have hrz : (r : Int) < (L : Int) := by omega
      obtain ⟨z, hz⟩ : ∃ z, z = S.nodesL.getD r 0 := ⟨_, rfl⟩
      obtain ⟨n, hzn, hAn⟩ : ∃ n : Nat, z = (n : Int) ∧ (A n).isSome = true := by
        refine (mem_nodesL hBH.out).1 ?_
        rw [hz, List.getD_eq_getElem?_getD, List.getElem?_eq_getElem (by rw [← hLH.out]; exact hrL)]
        exact List.getElem_mem _
      obtain ⟨off, hav, hcell⟩ : ∃ off, av = some ⟨rb, off, none⟩ ∧ wr.cell? ⟨rb, off + r, none⟩ = some (.int .i64 (n : Int)) := by
        obtain ⟨a', n', c', e1, e2, e3, e4⟩ := hrow
        injection e1 with e1 e5 e6
        subst e1 e5 e6
        rcases e4 with e4 | ⟨b, off, h1, h2, h3, h4⟩
        · omega
        · have h2 : b = rb := h2
          subst h2
          refine ⟨off, h1, ?_⟩
          rw [h4 r hrL, ← hz, hzn]
      subst hav
      obtain ⟨a, ha⟩ := Option.isSome_iff_exists.1 hAn
      have hE := hBH.out.nodeE_some ha
      have hsay := hBH.out.node n a ha
      have c1r := hC.c1
      have hCH : Hid _ := Lib.hid hC
      have hrowH : Hid _ := Lib.hid hrow
      have hrH : Hid _ := Lib.hid hr
      have hzH : Hid _ := Lib.hid (hz.symm.trans hzn)
      have haH : Hid _ := Lib.hid ha
      have hsayH : Hid _ := Lib.hid hsay
      have hEH : Hid _ := Lib.hid hE
      clear hC hrow hr hz hzn ha hAn hsay hE
      go_upto_region 9 with (go_at_call 26; refine hCH.out.load hEH.out ?_; intro w3 px gb cap hC3 hx3 hnx hng hCg)
      rw [Int.toNat_natCast] at hx3
      have cS := sound_ok hx3 hsayH.out.ok
      have hC3H : Hid _ := Lib.hid hC3
      have hx3H : Hid _ := Lib.hid hx3
      have hCgH : Hid _ := Lib.hid hCg
      clear hC3 hx3 hCg
      go_upto_region 11 with (go_at_call 44; refine cS.mono ?_; rintro e w4 ⟨rfl, hb4⟩)
      have hx4 := hx3H.out.below hb4
      have hC4 := hC3H.out.below hb4
      have hb4H : Hid _ := Lib.hid hb4
      have cZ := nsize_any hx4
      rw [hsayH.out.size] at cZ
      have hxH : Hid _ := Lib.hid hx4
      have hC4H : Hid _ := Lib.hid hC4
      have hsz : a.data.length ≤ 16384 := by
        have h1 := hsayH.out.ok.size
        have h2 := hsayH.out.ok.room
        rw [hsayH.out.size] at h1
        omega
      have hszH : Hid _ := Lib.hid hsz
      have cC : ∀ w' : World, Calls Tryz.prog 45 #[.int .i64 (a.data.length : Int)] w' fun e w2 => e = .returned (.int .i64 (cntN a.data.length : Int)) ∧ w' = w2 := fun w' => count_any_ w' (by omega)
      clear hx4 hC4 hb4 hsz
      go_wp2_with (first | (go_at_call 28; refine cZ.mono ?_; rintro e w5 ⟨rfl, hb5⟩) | (go_at_call 45; refine (cC _).mono ?_; rintro e w6 ⟨rfl, rfl⟩))
      obtain ⟨P, hP⟩ : ∃ P, P = S.nodesL.take r := ⟨_, rfl⟩
      have hnP : (n : Int) ∉ P := by
        intro hm
        rw [hP] at hm
        obtain ⟨j, hj, hjn⟩ := List.getElem_of_mem hm
        rw [List.length_take] at hj
        rw [List.getElem_take] at hjn
        have hnd := nodesL_nodup S
        have h1 : S.nodesL[r]'(by rw [← hLH.out]; exact hrL) = (n : Int) := by
          have := hzH.out
          rw [List.getD_eq_getElem?_getD, List.getElem?_eq_getElem (by rw [← hLH.out]; exact hrL)] at this
          exact this
        exact List.pairwise_iff_getElem.1 hnd j r _ _ (by omega) (hjn.trans h1.symm)
      have hx5 := hxH.out.below hb5
      have hC5 := hC4H.out.below hb5
      rw [← hP, usedU_any 0 n] at hC5
      have hPH : Hid _ := Lib.hid hP
      have hnPH : Hid _ := Lib.hid hnP
      have hrow5 : IntsAt w5 (· = rb) (.slice (some ⟨rb, off, none⟩) L cv) S.nodesL := IntsAt.below (IntsAt.below (IntsAt.chg hrowH.out hCgH.out (fun k hk _ h => h (.inr (.inr (.inr hk))))) hb4H.out) hb5
      have hx5H : Hid _ := Lib.hid hx5
      have hC5H : Hid _ := Lib.hid hC5
      have hrow5H : Hid _ := Lib.hid hrow5
      obtain ⟨C, hC⟩ : ∃ C, C = cntN a.data.length := ⟨_, rfl⟩
      have hCH : Hid _ := Lib.hid hC
      have hC256 : C ≤ 256 := by rw [hC]; have := hszH.out; unfold cntN; omega
      rw [← hC]
      clear hP hnP hx5 hC5 hrow5 hC cZ cC cS c1r hcell
      go_loopg [46, 2, 9, 10, 11, 12, 13, 48, 49, 50, 51, 52, 53, 54, 55, 56, 57, 58, 59, 60, 61, 62, 63, 64, 65, 66, 67, 68, 69, 70, 71, 72, 73, 74, 75, 76, 77, 78, 79, 80, 81, 82, 83, 84, 85, 86] C (fun g iv rv _ _ _ _ _ _ _ _ _ _ _ _ _ _ _ _ _ _ _ _ _ _ _ _ _ _ _ _ _ _ _ _ _ _ _ _ _ _ _ _ _ _ _ _ wr => ∃ i : Nat, i + g = C ∧ iv = .int .i64 (i : Int) ∧ rv = .int .i64 0 ∧ CSt w wr pb p q pn pk w.heap.size (w.heap.size + 1 + 1) (w.heap.size + 1) all S Fs (fun k => (k = w.heap.size ∨ k = w.heap.size + 1 ∨ k = w.heap.size + 1 + 1 ∨ k = rb) ∨ k = px ∨ k = gb) (usedU o P n i) ∧ NodeAt wr px gb cap n (S.nodeB n) ∧ IntsAt wr (· = rb) (.slice (some ⟨rb, off, none⟩) L cv) S.nodesL)
      case atStart => exact ⟨0, by omega, rfl, rfl, hC5H.out, hx5H.out, hrow5H.out⟩
      case round =>
        obtain ⟨i, hi, rfl, rfl, hC, hx, hrow⟩ := hrel
        rename World => wr
        by_cases hiC : i < C
        · have hiz : (i : Int) < (C : Int) := by omega
          have cP := place_any wr (i := i) (by omega)
          have hCiH : Hid _ := Lib.hid hC
          have hxiH : Hid _ := Lib.hid hx
          have hrowiH : Hid _ := Lib.hid hrow
          have hiH : Hid _ := Lib.hid hi
          clear hC hx hrow hi
          go_upto_region 15 with (go_at_call 46; refine cP.mono ?_; rintro e wq ⟨rfl, rfl⟩)
          go_cut [71] from 54 to 70 (fun b71 wx => b71 = .bool false ∧ CSt w wx pb p q pn pk w.heap.size (w.heap.size + 1 + 1) (w.heap.size + 1) all S Fs (fun k => (k = w.heap.size ∨ k = w.heap.size + 1 ∨ k = w.heap.size + 1 + 1 ∨ k = rb) ∨ k = px ∨ k = gb) (usedL o P n i) ∧ NodeAt wx px gb cap n (S.nodeB n) ∧ IntsAt wx (· = rb) (.slice (some ⟨rb, off, none⟩) L cv) S.nodesL)
          case first =>
            by_cases hc : 32 ≤ i ∧ (i - 32) % 32 = 0
            · obtain ⟨p1, p2⟩ := link_place hc.1
              have hci : i < cOf A n := by rw [cOf_some haH.out, ← hCH.out]; exact hiC
              obtain ⟨hu0, hul⟩ := usedL_new hRH.out hci hc.1 hc.2 hnPH.out
              obtain ⟨hl1, _⟩ := hRH.out.lay.lst n _ (nlN_at hc.1 hci)
              have hent : ent (S.nodeB n) (32 + (i - 32) / 32) = twoN (S.nodeB n) (placeL i) := by rw [p1]; rfl
              rw [hent] at hu0 hul hl1
              have b1 : (0 : Int) < ((placeL i : Nat) : Int) := by rw [p1]; omega
              have b2 : (((placeA i : Nat) : Int) == 0) = true := by rw [beq_iff_eq, p2]; omega
              have hpl : placeL i ≤ 254 := placeL_le (by omega)
              have hxx := hxiH.out
              have cT := ntwo hxx hpl
              have cx1 := hxx.c1
              have hcap := hxx.raw.1
              have hcapm := hxx.raw.2.1
              have hcn : ¬ cap = placeL i := by omega
              have hp256 : placeL i ≤ 256 := by omega
              have hpcap : placeL i ≤ cap := by omega
              have hal2 := halH.out
              have hl1H : Hid _ := Lib.hid hl1
              have hu0H : Hid _ := Lib.hid hu0
              have hulH : Hid _ := Lib.hid hul
              have hal2H : Hid _ := Lib.hid hal2
              clear hxx hl1 hu0 hul hent p1 p2 hc hci hal2 hpl
              go_wp2_with (first | (go_at_call 47; refine cT.mono ?_; rintro e w6 ⟨rfl, hb6⟩) | (go_at_call 42; refine (hCiH.out.below hb6).use hal2H.out.symm (by have := hl1H.out; have := hBH.out.kb.size; unfold WalS.allB at hal2H; have := hal2H.out; omega) hu0H.out ?_; intro w7 hC7 hCg7))
              go_meet
              rw [← hulH.out] at hC7
              exact ⟨rfl, hC7, (hxiH.out.below hb6).chg hCg7 hnx hng, IntsAt.chg (IntsAt.below hrowiH.out hb6) hCg7 (fun k hk _ h => hrbn (hk.symm.trans h))⟩
            · have hul : usedL o P n i = usedU o P n i := usedL_old hc
              have hCi := hCiH.out
              rw [← hul] at hCi
              have hCi2 : Hid _ := Lib.hid hCi
              clear hCi hul
              rcases (show i < 32 ∨ (32 ≤ i ∧ (i - 32) % 32 ≠ 0) by omega) with h32 | h32
              · have b1 : ¬ (0 : Int) < ((placeL i : Nat) : Int) := by unfold placeL; rw [if_pos h32]; decide
                go_wp2_with fail
                go_meet
                exact ⟨rfl, hCi2.out, hxiH.out, hrowiH.out⟩
              · have b1 : (0 : Int) < ((placeL i : Nat) : Int) := by rw [(link_place h32.1).1]; omega
                have b2 : ¬ ((placeA i : Nat) : Int) = 0 := by rw [(link_place h32.1).2]; omega
                clear h32 hc
                go_wp2_with fail
                go_meet
                exact ⟨rfl, hCi2.out, hxiH.out, hrowiH.out⟩
          case rest =>
            obtain ⟨rfl, hC6, hx6, hrow6⟩ := hcut
            rename World => wx
            have hci : i < cOf A n := by rw [cOf_some haH.out, ← hCH.out]; exact hiC
            obtain ⟨hu0, hul⟩ := usedU_next hRH.out hci hnPH.out
            obtain ⟨_, hk1, _⟩ := hRH.out.lay.blk n i hci
            have hblk := hRH.out.block hBH.out.kb hBH.out.big hci
            have cB : ∀ F', BaseIn wx pb p q pn pk S F' → Calls Tryz.prog 48 #[Dptr pb, Dptr px, .int .i64 (i : Int)] wx (BDid wx pb p q pn pk S F' (.tuple #[.int .i64 (blkG S.get (S.nodeB n) i : Int), .int .i64 0])) := fun F' hB => by
              have := block_any hB hx6 (i := i) (by omega)
              rw [hblk] at this
              exact this
            have c1x := hC6.c1
            have hC6H : Hid _ := Lib.hid hC6
            have hx6H : Hid _ := Lib.hid hx6
            have hrow6H : Hid _ := Lib.hid hrow6
            have hu0H : Hid _ := Lib.hid hu0
            have hulH : Hid _ := Lib.hid hul
            have hk1H : Hid _ := Lib.hid hk1
            clear hC6 hx6 hrow6 hu0 hul hk1 hblk hci
            go_wp2_with (first | (go_at_call 48; refine hC6H.out.base cB ?_; intro w7 hC7 hCg7) | (go_at_call 42; refine hC7.use halH.out.symm (by have := hk1H.out; have := halH.out; have := hBH.out.kb.size; unfold WalS.allB at *; omega) hu0H.out ?_; intro w8 hC8 hCg8))
            rw [← hulH.out] at hC8
            go_roundg (gk - 1)
            case measure => have := hiH.out; omega
            case rel =>
              have := hiH.out
              refine ⟨i + 1, by omega, rfl, rfl, hC8, (hx6H.out.chg hCg7 (fun h => h (.inr (.inl rfl))) (fun h => h (.inr (.inr rfl)))).chg hCg8 hnx hng, IntsAt.chg (IntsAt.chg hrow6H.out hCg7 (fun k hk _ h => h (.inl (.inr (.inr (.inr hk)))))) hCg8 (fun k hk _ h => hrbn (hk.symm.trans h))⟩
        · have hiz : ¬ (i : Int) < (C : Int) := by omega
          have hiC2 : i = C := by omega
          subst hiC2
          have hd := usedU_done (P := P) hRH.out (n := n) 0
          rw [cOf_some haH.out, ← hCH.out] at hd
          rw [hd] at hC
          have hC9 := hC.less (G' := fun k => k = w.heap.size ∨ k = w.heap.size + 1 ∨ k = w.heap.size + 1 + 1 ∨ k = rb) (fun k h => .inl h) ⟨.inl rfl, .inr (.inr (.inl rfl)), .inr (.inl rfl)⟩
          have hC9H : Hid _ := Lib.hid hC9
          have hrow9H : Hid _ := Lib.hid hrow
          clear hC hx hrow hd hC9 hi
          go_wp2_with fail
          have hPr : P ++ [(n : Int)] = S.nodesL.take (r + 1) := by
            have hlt : r < S.nodesL.length := by rw [← hLH.out]; exact hrL
            have h1 := hzH.out
            rw [List.getD_eq_getElem?_getD, List.getElem?_eq_getElem hlt] at h1
            rw [hPH.out, List.take_add_one, List.getElem?_eq_getElem hlt]
            exact congrArg (fun x => S.nodesL.take r ++ [x]) h1.symm
          go_roundg (gko - 1)
          case measure => have := hrH.out; have := hgkoH.out; omega
          case rel =>
            have := hrH.out
            have := hgkoH.out
            have hC10 := hC9H.out
            rw [hPr] at hC10
            exact ⟨r + 1, by omega, rfl, rfl, hC10, hrow9H.out⟩
    · have hrz : ¬ (r : Int) < (L : Int) := by omega
      have hrL2 : r = L := by omega
      subst hrL2
      have hnd : S.nodesL.take r = S.nodesL := by rw [List.take_of_length_le (by rw [← hLH.out]; exact Nat.le_refl _)]
      rw [hnd] at hC
      have hu : ∀ k, usedU o S.nodesL 0 0 k = if (o k).isSome then 1 else 0 := fun k => usedU_all hRH.out (fun n' h => (mem_nodesL hBH.out).2 ⟨n', rfl, by
        cases e : A n' with
        | none => rw [cOf_none e] at h; omega
        | some a => rfl⟩) 0 k
      have c1r := hC.c1
      have c3r := hC.cb
      rw [← halH.out] at c3r
      have hCH : Hid _ := Lib.hid hC
      have huH : Hid _ := Lib.hid hu
      clear hC hrow hr hu hnd
      go_wp2_with fail
      go_loopg [92, 2, 14, 15, 16, 93, 94, 95, 96, 97, 98, 99, 100, 101, 102, 103, 104, 105, 106, 107, 108, 109, 110, 111, 112, 113, 114, 115] all (fun g iv rv _ _ _ _ _ _ _ _ _ _ _ _ _ _ _ _ _ _ _ _ _ _ _ _ _ _ wr => ∃ j : Nat, j + g = all ∧ iv = .int .i64 (j : Int) ∧ rv = .int .i64 0 ∧ CSt w wr pb p q pn pk w.heap.size (w.heap.size + 1 + 1) (w.heap.size + 1) all S Fs (fun k => k = w.heap.size ∨ k = w.heap.size + 1 ∨ k = w.heap.size + 1 + 1 ∨ k = rb) (usedU o S.nodesL 0 0))
      case atStart => exact ⟨0, by omega, rfl, rfl, hCH.out⟩
      case round =>
        obtain ⟨j, hj, rfl, rfl, hC⟩ := hrel
        rename World => wr
        have hjH : Hid _ := Lib.hid hj
        have hCiH : Hid _ := Lib.hid hC
        by_cases hja : j < all
        · have hjz : (j : Int) < (all : Int) := by omega
          have c1j := hC.c1
          have cKj := hC.cK
          have cT : ∀ F', BaseIn wr pb p q pn pk S F' → Calls Tryz.prog 49 #[Dptr pk, .int .i64 (j : Int)] wr (BDid wr pb p q pn pk S F' (.tuple #[.bool (S.bit 1 j), .int .i64 0])) := fun F' hB => by
            have hz := hBH.out.kb.size
            have hN := hBH.out.big
            have hl := halH.out
            unfold WalS.allB at hl
            refine (ctakenF hB.mK hB.sto hB.live (i := j) (by omega) (by rw [← halH.out]; exact hja) (by rw [← halH.out]; omega)).mono ?_
            rintro e w' ⟨h1, h2, h3⟩
            exact hB.did (Txn.refl S) ⟨h1, h2.ext, h3⟩
          clear hC hj
          go_upto_region 30 with (go_at_call 49; refine hCiH.out.base cT ?_; intro w7 hC7 hCg7)
          have hbt : S.bit 1 j = (o (j + 1)).isSome := by
            have hb := hRH.out.bits (j + 1) (by omega) (by
              have hl := halH.out
              unfold WalS.allB at hl
              have hz := hBH.out.kb.size
              omega)
            rwa [Nat.add_sub_cancel] at hb
          have c3k := hC7.c3
          have cuj : w7.cell? ⟨w.heap.size + 1, j + 1, none⟩ = some (.int .i64 ((if (o (j + 1)).isSome then 1 else 0 : Nat) : Int)) := by
            rw [cell_of hC7.bg, vec_at _ (by omega), huH.out (j + 1)]
          have hjl : j + 1 < all + 1 := by omega
          rw [hbt]
          have hC7H : Hid _ := Lib.hid hC7
          have hjH2 : Hid _ := Lib.hid hjH.out
          obtain ⟨x, hx⟩ : ∃ x, x = (o (j + 1)).isSome := ⟨_, rfl⟩
          rw [← hx] at cuj ⊢
          clear hC7 hbt hx hCg7
          cases x
          · have e0 : ((0 : Int) == 1) = false := by decide
            have cuj0 : w7.cell? ⟨w.heap.size + 1, j + 1, none⟩ = some (.int .i64 0) := cuj
            clear cuj
            go_wp2_with fail
            go_roundg (gk - 1)
            case measure => have := hjH.out; omega
            case rel =>
              have := hjH.out
              exact ⟨j + 1, by omega, rfl, rfl, hC7H.out⟩
          · have e0 : ((1 : Int) == 1) = true := by decide
            have cuj0 : w7.cell? ⟨w.heap.size + 1, j + 1, none⟩ = some (.int .i64 1) := cuj
            clear cuj
            go_wp2_with fail
            go_roundg (gk - 1)
            case measure => have := hjH.out; omega
            case rel =>
              have := hjH.out
              exact ⟨j + 1, by omega, rfl, rfl, hC7H.out⟩
        · have hjz : ¬ (j : Int) < (all : Int) := by omega
          clear hC hj
          go_wp2_with fail
          go_ret
          obtain ⟨F, hB9, hF9, _⟩ := hCiH.out.st
          exact ⟨rfl, ⟨F, hB9, hF9⟩, hCiH.out.chg⟩
end
end Go.Proofs.YtjngphffgdjcfaaGreatDoor
