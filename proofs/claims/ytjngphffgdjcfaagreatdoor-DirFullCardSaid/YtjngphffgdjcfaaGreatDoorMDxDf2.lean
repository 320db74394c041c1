/-
  DirFull, walked: it answers true.
-/
import Derived.Test.YtjngphffgdjcfaaGreatDoorMDxDf1
import Derived.Test.YtjngphffgdjcfaaGreatDoorMD26
namespace Go.Proofs.YtjngphffgdjcfaaGreatDoor
open Go.RowKit Go.Lz
set_option maxRecDepth 100000 in
theorem nm_any (w : World) {k : Nat} (hk : k < 40) : Calls Tryz.prog 14 #[.int .i64 (k : Int)] w fun e w' => e = .returned (.string (nmB k)) ∧ Below w.heap.size w w' := by
  have hb : Below w.heap.size w (w.alloc (.cells #[.int .u8 (97 + (k : Int) % 8), .int .u8 (97 + (k : Int) / 8)] 5)) := (Below.refl _ w).alloc (Nat.le_refl _) _
  have hst : (convert 23 9 (.slice (some ⟨w.heap.size, 0, none⟩) 2 2)).run Tryz.prog (w.alloc (.cells #[.int .u8 (97 + (k : Int) % 8), .int .u8 (97 + (k : Int) / 8)] 5)) = .ok (.string (nmB k)) (w.alloc (.cells #[.int .u8 (97 + (k : Int) % 8), .int .u8 (97 + (k : Int) / 8)] 5)) :=
    bytes_str (l := [UInt8.ofNat (97 + k % 8), UInt8.ofNat (97 + k / 8)]) rfl fun j hj => by
      rw [Nat.zero_add, cell_of (heap_alloc_new w _)]
      rcases j with _ | _ | j
      · show some (Value.int .u8 (97 + (k : Int) % 8)) = some (u8v (UInt8.ofNat (97 + k % 8)))
        unfold u8v
        rw [UInt8.toNat_ofNat', Nat.mod_eq_of_lt (by omega)]
        congr 2
      · show some (Value.int .u8 (97 + (k : Int) / 8)) = some (u8v (UInt8.ofNat (97 + k / 8)))
        unfold u8v
        rw [UInt8.toNat_ofNat', Nat.mod_eq_of_lt (by omega)]
        congr 2
      · omega
  go_enter Tryz.func14, Tryz.ntmps14
  go_wp2_with fail
  go_ret
  exact ⟨rfl, hb⟩
theorem mod40 (x : Int) : ∃ k : Nat, k < 40 ∧ (wrap64 (x.tmod 40 + 40)).tmod 40 = (k : Int) := by
  have h1 := Int.tmod_lt_of_pos x (show (0 : Int) < 40 by decide)
  have h2 := Int.lt_tmod_of_pos x (show (0 : Int) < 40 by decide)
  have e : wrap64 (x.tmod 40 + 40) = x.tmod 40 + 40 := by
    generalize x.tmod 40 = y at *
    unfold wrap64
    omega
  rw [e]
  generalize x.tmod 40 = y at *
  have h3 := Int.tmod_lt_of_pos (y + 40) (show (0 : Int) < 40 by decide)
  have h4 := Int.tmod_nonneg (a := y + 40) 40 (by omega)
  exact ⟨((y + 40).tmod 40).toNat, by omega, by omega⟩
/-- The blocks of DirFull: the base's, and the row of what is there. -/
structure FuL (L : Locals) (pb p pn pk bt : Nat) (th : Nat → Bool) : Prop where
  base : BaseL L pb p pn pk 600
  row : L bt = some (.cells (boolsV 40 th) 47 (0, 0))
theorem lit40 : (#[.bool false, .bool false, .bool false, .bool false, .bool false, .bool false, .bool false, .bool false, .bool false, .bool false, .bool false, .bool false, .bool false, .bool false, .bool false, .bool false, .bool false, .bool false, .bool false, .bool false, .bool false, .bool false, .bool false, .bool false, .bool false, .bool false, .bool false, .bool false, .bool false, .bool false, .bool false, .bool false, .bool false, .bool false, .bool false, .bool false, .bool false, .bool false, .bool false, .bool false] : Array Value) = boolsV 40 fun _ => false := by kernel_rfl
theorem FuL.set {L : Locals} {pb p pn pk bt : Nat} {th th' : Nat → Bool} (h : FuL L pb p pn pk bt th) : FuL (upd L bt (some (.cells (boolsV 40 th') 47))) pb p pn pk bt th' := by
  have hne : ∀ {k : Nat} {cs : Array Value} {t : TypeId}, L k = some (.cells cs t (0, 0)) → t ≠ 47 → k ≠ bt := fun hk ht e => by
    rw [e, h.row] at hk
    injection hk with hk
    injection hk with _ h2
    exact ht h2.symm
  have ho : ∀ {k : Nat} {cs : Array Value} {t : TypeId}, L k = some (.cells cs t (0, 0)) → t ≠ 47 → upd L bt (some (.cells (boolsV 40 th') 47)) k = some (.cells cs t (0, 0)) := fun hk ht => by
    rw [upd_other _ (hne hk ht)]; exact hk
  exact ⟨⟨ho h.base.b (by decide), ho h.base.n (by decide), ho h.base.k (by decide)⟩, upd_same _ _ _⟩
/-- Between two rounds of the first loop. -/
def FuRel (w wr : World) (p q pb pn pk bt g : Nat) (iv cv : Value) : Prop :=
  ∃ (i c : Nat) (l : List Entry) (th : Nat → Bool) (L : Locals), i + g = 40 ∧ iv = .int .i64 (i : Int) ∧ cv = .int .i64 (c : Int) ∧ FullR l th c ∧ Own w wr (TZ p q 600 (AF l) 0) L ∧ FuL L pb p pn pk bt th
set_option maxRecDepth 100000 in
set_option maxHeartbeats 4000000 in
theorem dirFull_any {w : World} {G : Nat → Prop} {v : Value} {ord : List Int} (gone : Int) (h1 : IntsAt w G v ord) (hE : Env w) : Calls Tryz.prog 4 #[v, .int .i64 gone] w fun e w' => e = .returned (.bool true) ∧ Below w.heap.size w w' := by
  obtain ⟨ad1, n1, cp1, rfl, hl1, hn1, hcs1⟩ := h1
  have hc1H : Hid _ := Lib.hid hcs1
  have hEH : Hid _ := Lib.hid hE
  clear hcs1 hE
  go_enter Tryz.func4, Tryz.ntmps4
  go_upto_region 4 with (go_at_call 6; refine (lw6OpenZ w).mono ?_; rintro e w1 ⟨p, q, pb, pn, pk, rfl, hO1, hL1⟩)
  have cM := makeZ (n := 1) (G := fun _ => False) (kind := 2) (room := 30) (s := []) (l := []) (vS := .slice none 0 0) (vI := .slice none 0 0) hO1 hL1 ⟨none, 0, 0, rfl, rfl, by omega, .inl rfl⟩ ⟨none, 0, 0, rfl, rfl, by omega, .inl rfl⟩ rfl rfl (.inr rfl) (by omega) (by omega) (by omega) rfl (fun n' h1 h2 => by omega)
  have hAF : upd noNodes 1 (some ⟨2, [], [], 30, []⟩) = AF [] := rfl
  rw [hAF] at cM
  clear hAF
  generalize BaseO noLocals pb pn pk p 600 = L1 at *
  have hO1H : Hid _ := Lib.hid hO1
  clear hO1
  go_upto_region 9 with (go_at_call 8; refine cM.mono ?_; rintro e w2 ⟨rfl, hO2, hs2⟩)
  have hO3 := hO2.local_ (o := .cells (boolsV 40 fun _ => false) 47) (keepsTZ _ _ _ _ _) ((Below.refl _ w2).alloc (Nat.le_refl _) _) (Nat.le_refl _) (heap_alloc_new w2 _)
  have hL3 : FuL (upd L1 w2.heap.size (some (.cells (boolsV 40 fun _ => false) 47))) pb p pn pk w2.heap.size (fun _ => false) := ⟨hL1.upd_ (hO2.none_ (Nat.le_refl _)), upd_same _ _ _⟩
  rw [lit40]
  generalize upd L1 w2.heap.size (some (.cells (boolsV 40 fun _ => false) 47)) = L3 at *
  generalize w2.alloc (.cells (boolsV 40 fun _ => false) 47) = w3 at *
  generalize w2.heap.size = bt at *
  have hO3H : Hid _ := Lib.hid hO3
  have hL3H : Hid _ := Lib.hid hL3
  clear hO3 hL3 hO2 hO1H cM hL1 hs2
  go_wp2_with fail
  go_loopg [11, 12, 13, 14, 35, 36, 37, 38, 39, 40, 41, 42, 43, 44, 45, 46, 47, 48, 49, 50, 51, 52, 53, 54, 55, 56, 57, 58, 59, 60, 61, 62, 63, 64, 65, 66, 67, 68, 69, 70, 71, 72, 73, 74, 75, 4] 40 (fun g cv iv _ _ _ _ _ _ _ _ _ _ _ _ _ _ _ _ _ _ _ _ _ _ _ _ _ _ _ _ _ _ _ _ _ _ _ _ _ _ _ _ _ _ _ rv wr => rv = .bool false ∧ FuRel w wr p q pb pn pk bt g iv cv)
  case atStart => exact ⟨rfl, 0, 0, [], _, L3, rfl, rfl, rfl, FullR.start, hO3H.out, hL3H.out⟩
  case round =>
    obtain ⟨rfl, i, c, l, th, L, hig, rfl, rfl, hR, hO, hL⟩ := hrel
    have hT : ∀ w', Below w.heap.size w w' → Tabs w' := hEH.out.hT
    by_cases hi : i < 40
    · have hiz : (i : Int) < 40 := by omega
      have hOH : Hid _ := Lib.hid hO
      have hRH : Hid _ := Lib.hid hR
      have hLH : Hid _ := Lib.hid hL
      have hTH : Hid _ := Lib.hid hT
      have higH : Hid _ := Lib.hid hig
      have hc33 : c ≤ 32 := hR.few
      clear hO hR hL hT hig
      have hgo : ∃ k : Nat, k < 40 ∧ ((n1 ≤ i ∧ k = i) ∨ (i < n1 ∧ (wrap64 ((ord.getD i 0).tmod 40 + 40)).tmod 40 = (k : Int))) := by
        by_cases hin : i < n1
        · obtain ⟨k, h1, h2⟩ := mod40 (ord.getD i 0)
          exact ⟨k, h1, .inr ⟨hin, h2⟩⟩
        · exact ⟨i, hi, .inl ⟨by omega, rfl⟩⟩
      obtain ⟨k, hk, hcase⟩ := hgo
      have cA : ∀ W, Below wr.heap.size wr W → Calls Tryz.prog 10 #[Dptr pb, .int .i64 1, .string (nmB k), .int .i64 ((k : Int) + 1)] W (Did w W (TZ p q 600 (if th k then (64, AF l) else if 32 ≤ c then (65, AF l) else ((0 : Int), AF (addE l (nmB k) (k + 1)))).2 0) L (.int .i64 (if th k then (64, AF l) else if 32 ≤ c then (65, AF l) else ((0 : Int), AF (addE l (nmB k) (k + 1)))).1)) := fun W hb => by
        have hl32 : l.length ≤ 32 := by have := hRH.out.len; omega
        have := dAdd_any (n := 1) (m := ((k + 1 : Nat) : Int)) (hOH.out.below (keepsTZ _ _ _ _ _) hb) hLH.out.base (AF_one l) (isF_node hRH.out.good hl32) hTH.out (AF_fit hRH.out.good hl32) (s := nmB k) (by show 2 ≤ _; omega)
        rw [addR_AF hRH.out.good (nmB_name hk) (by omega) (by omega) hl32, hRH.out.look k hk, hRH.out.len] at this
        have e : (if th k then some (k + 1) else none).isSome = th k := by cases th k <;> rfl
        rw [e] at this
        exact this
      have cN := nm_any wr hk
      have hrow : ∀ W, Own w W (TZ p q 600 (AF l) 0) L → W.cell? ⟨bt, k, none⟩ = some (.bool (th k)) := fun W hW => by rw [cell_of (hW.loc hLH.out.row), vec_at _ hk]
      have hrowH : Hid _ := Lib.hid hrow
      clear hrow
      rcases hcase with ⟨hin, hki⟩ | ⟨hin, hke⟩
      · subst hki
        have hinz : ¬ (k : Int) < (n1 : Int) := by omega
        cases hth : th k with
        | true =>
          simp only [hth, if_true] at cA
          go_upto_region 21 with (first
            | (go_at_call 14; refine cN.mono ?_; rintro e w4 ⟨rfl, hb4⟩)
            | (go_at_call 10; refine (cA w4 hb4).mono ?_; rintro e w5 ⟨rfl, hO5, hs5⟩))
          have q5 := hrowH.out w5 hO5
          rw [hth] at q5
          have hO5H : Hid _ := Lib.hid hO5
          clear hO5 cA cN
          go_wp2_with fail
          go_roundg (gk - 1)
          case measure => have := higH.out; omega
          case rel => exact ⟨rfl, k + 1, c, l, th, L, by have := higH.out; omega, by go_num, rfl, hRH.out, hO5H.out, hLH.out⟩
        | false =>
          by_cases hc32 : 32 ≤ c
          · obtain rfl : c = 32 := by omega
            simp only [hth, Bool.false_eq_true, if_false, Nat.le_refl, if_true] at cA
            go_upto_region 21 with (first
              | (go_at_call 14; refine cN.mono ?_; rintro e w4 ⟨rfl, hb4⟩)
              | (go_at_call 10; refine (cA w4 hb4).mono ?_; rintro e w5 ⟨rfl, hO5, hs5⟩))
            have q5 := hrowH.out w5 hO5
            rw [hth] at q5
            have hO5H : Hid _ := Lib.hid hO5
            clear hO5 cA cN
            go_wp2_with fail
            go_roundg (gk - 1)
            case measure => have := higH.out; omega
            case rel => exact ⟨rfl, k + 1, 32, l, th, L, by have := higH.out; omega, by go_num, rfl, hRH.out, hO5H.out, hLH.out⟩
          · simp only [hth, Bool.false_eq_true, if_false, if_neg hc32] at cA
            have hcz : ¬ (c : Int) = 32 := by omega
            go_upto_region 21 with (first
              | (go_at_call 14; refine cN.mono ?_; rintro e w4 ⟨rfl, hb4⟩)
              | (go_at_call 10; refine (cA w4 hb4).mono ?_; rintro e w5 ⟨rfl, hO5, hs5⟩))
            have q5 : w5.cell? ⟨bt, k, none⟩ = some (.bool false) := by rw [cell_of (hO5.loc hLH.out.row), vec_at _ hk, hth]
            have f5 : w5.frozen? ⟨bt, k, none⟩ = false := frozen_of (hO5.loc hLH.out.row) k
            have hO6 := hO5.put (keepsTZ _ _ _ _ _) hLH.out.row k (.bool true)
            rw [boolsV_set] at hO6
            have hO6H : Hid _ := Lib.hid hO6
            clear hO5 hO6 cA cN
            go_wp2_with fail
            go_roundg (gk - 1)
            case measure => have := higH.out; omega
            case rel => exact ⟨rfl, k + 1, c + 1, addE l (nmB k) (k + 1), upd th k true, _, by have := higH.out; omega, by go_num, by go_num, hRH.out.add hk hth (by omega), hO6H.out, hLH.out.set⟩
      · have hinz : (i : Int) < (n1 : Int) := by omega
        obtain ⟨bo, off, rfl, _, hbl, hcl⟩ := hc1H.out.resolve_left (by omega)
        have q0 : wr.cell? ⟨bo, off + i, none⟩ = some (.int .i64 (ord.getD i 0)) := (hOH.out.base.cell (p := ⟨bo, off + i, none⟩) hbl).trans (hcl i hin)
        generalize ord.getD i 0 = x at *
        clear hcl
        cases hth : th k with
        | true =>
          simp only [hth, if_true] at cA
          go_upto_region 21 with (first
            | (go_at_call 14; refine cN.mono ?_; rintro e w4 ⟨rfl, hb4⟩)
            | (go_at_call 10; refine (cA w4 hb4).mono ?_; rintro e w5 ⟨rfl, hO5, hs5⟩))
          have q5 := hrowH.out w5 hO5
          rw [hth] at q5
          have hO5H : Hid _ := Lib.hid hO5
          clear hO5 cA cN
          go_wp2_with fail
          go_roundg (gk - 1)
          case measure => have := higH.out; omega
          case rel => exact ⟨rfl, i + 1, c, l, th, L, by have := higH.out; omega, by go_num, rfl, hRH.out, hO5H.out, hLH.out⟩
        | false =>
          by_cases hc32 : 32 ≤ c
          · obtain rfl : c = 32 := by omega
            simp only [hth, Bool.false_eq_true, if_false, Nat.le_refl, if_true] at cA
            go_upto_region 21 with (first
              | (go_at_call 14; refine cN.mono ?_; rintro e w4 ⟨rfl, hb4⟩)
              | (go_at_call 10; refine (cA w4 hb4).mono ?_; rintro e w5 ⟨rfl, hO5, hs5⟩))
            have q5 := hrowH.out w5 hO5
            rw [hth] at q5
            have hO5H : Hid _ := Lib.hid hO5
            clear hO5 cA cN
            go_wp2_with fail
            go_roundg (gk - 1)
            case measure => have := higH.out; omega
            case rel => exact ⟨rfl, i + 1, 32, l, th, L, by have := higH.out; omega, by go_num, rfl, hRH.out, hO5H.out, hLH.out⟩
          · simp only [hth, Bool.false_eq_true, if_false, if_neg hc32] at cA
            have hcz : ¬ (c : Int) = 32 := by omega
            go_upto_region 21 with (first
              | (go_at_call 14; refine cN.mono ?_; rintro e w4 ⟨rfl, hb4⟩)
              | (go_at_call 10; refine (cA w4 hb4).mono ?_; rintro e w5 ⟨rfl, hO5, hs5⟩))
            have q5 : w5.cell? ⟨bt, k, none⟩ = some (.bool false) := by rw [cell_of (hO5.loc hLH.out.row), vec_at _ hk, hth]
            have f5 : w5.frozen? ⟨bt, k, none⟩ = false := frozen_of (hO5.loc hLH.out.row) k
            have hO6 := hO5.put (keepsTZ _ _ _ _ _) hLH.out.row k (.bool true)
            rw [boolsV_set] at hO6
            have hO6H : Hid _ := Lib.hid hO6
            clear hO5 hO6 cA cN
            go_wp2_with fail
            go_roundg (gk - 1)
            case measure => have := higH.out; omega
            case rel => exact ⟨rfl, i + 1, c + 1, addE l (nmB k) (k + 1), upd th k true, _, by have := higH.out; omega, by go_num, by go_num, hRH.out.add hk hth (by omega), hO6H.out, hLH.out.set⟩
    · obtain rfl : i = 40 := by omega
      have hiz : ¬ ((40 : Nat) : Int) < 40 := by omega
      obtain ⟨k0, hk0, hke⟩ := mod40 gone
      have hOH : Hid _ := Lib.hid hO
      have hRH : Hid _ := Lib.hid hR
      have hLH : Hid _ := Lib.hid hL
      have hTH : Hid _ := Lib.hid hT
      have hl32 : l.length ≤ 32 := by have := hR.len; have := hR.few; omega
      have hl32H : Hid _ := Lib.hid hl32
      have cN0 := nm_any wr hk0
      have cD1 : ∀ W, Below wr.heap.size wr W → Calls Tryz.prog 15 #[Dptr pb, .int .i64 1, .string (nmB k0)] W (Did w W (TZ p q 600 (if th k0 then ((0 : Int), AF (delL l (nmB k0))) else (61, AF l)).2 0) L (.int .i64 (if th k0 then ((0 : Int), AF (delL l (nmB k0))) else (61, AF l)).1)) := fun W hb => by
        have := dDel_any (n := 1) (hOH.out.below (keepsTZ _ _ _ _ _) hb) hLH.out.base (AF_one l) (isF_node hRH.out.good hl32) hTH.out (AF_fit hRH.out.good hl32) (s := nmB k0) (by show 2 ≤ _; omega)
        rw [delR_AF hRH.out.good (nmB_name hk0) hl32, hRH.out.look k0 hk0] at this
        have e : (if th k0 then some (k0 + 1) else none).isSome = th k0 := by cases th k0 <;> rfl
        rw [e] at this
        exact this
      clear hO hR hL hT hl32 hig
      cases hth : th k0 with
      | true =>
        simp only [hth, if_true] at cD1
        have hg := hRH.out.gone hk0 hth
        have hgH : Hid _ := Lib.hid hg
        have cA2 : ∀ W, Own w W (TZ p q 600 (AF (delL l (nmB k0))) 0) L → Calls Tryz.prog 10 #[Dptr pb, .int .i64 1, .string ⟨#[110, 101, 119]⟩, .int .i64 64] W (Did w W (TZ p q 600 (AF (addE (delL l (nmB k0)) freshB 64)) 0) L (.int .i64 0)) := fun W hW => by
          have := dAdd_any (n := 1) (m := ((64 : Nat) : Int)) hW hLH.out.base (AF_one _) (isF_node hgH.out.g1 (by have := hgH.out.n1; omega)) hTH.out (AF_fit hgH.out.g1 (by have := hgH.out.n1; omega)) (s := freshB) (by decide)
          rw [addR_AF hgH.out.g1 freshB_name (by omega) (by omega) (by have := hgH.out.n1; omega), hgH.out.m1, if_neg (by decide), if_neg (by have := hgH.out.n1; omega)] at this
          exact this
        have cD2 : ∀ W, Own w W (TZ p q 600 (AF (addE (delL l (nmB k0)) freshB 64)) 0) L → Calls Tryz.prog 15 #[Dptr pb, .int .i64 1, .string ⟨#[110, 101, 119]⟩] W (Did w W (TZ p q 600 (AF (delL (addE (delL l (nmB k0)) freshB 64) freshB)) 0) L (.int .i64 0)) := fun W hW => by
          have := dDel_any (n := 1) hW hLH.out.base (AF_one _) (isF_node hgH.out.g2 hgH.out.n2) hTH.out (AF_fit hgH.out.g2 hgH.out.n2) (s := freshB) (by decide)
          rw [delR_AF hgH.out.g2 freshB_name hgH.out.n2, hgH.out.m2, if_pos (by rfl)] at this
          exact this
        clear hg
        go_upto_region 29 with (first
          | (go_at_call 14; refine cN0.mono ?_; rintro e w4 ⟨rfl, hb4⟩)
          | (go_at_call 15; refine (cD1 w4 hb4).mono ?_; rintro e w5 ⟨rfl, hO5, hs5⟩))
        have q5 : w5.cell? ⟨bt, k0, none⟩ = some (.bool true) := by rw [cell_of (hO5.loc hLH.out.row), vec_at _ hk0, hth]
        have cA3 := cA2 w5 hO5
        have hO5H : Hid _ := Lib.hid hO5
        clear hO5 cA2 cD1 cN0
        go_upto_region 33 with (first
          | (go_at_call 10; refine cA3.mono ?_; rintro e w6 ⟨rfl, hO6, hs6⟩)
          | (go_at_call 15; refine (cD2 w6 hO6).mono ?_; rintro e w8 ⟨rfl, hO8, hs8⟩))
        have hO8H : Hid _ := Lib.hid hO8
        have hG3 : Hid (GoodF (delL (addE (delL l (nmB k0)) freshB 64) freshB) ∧ _ ∧ _) := Lib.hid ⟨hgH.out.g3, hgH.out.n3, hgH.out.look⟩
        clear hO8 hO6 cA3 cD2 q5
        go_wp2_with fail
        go_loopg [17, 18, 19, 20, 106, 107, 108, 109, 110, 111, 112, 113, 114, 115, 116, 117, 118, 119, 120, 121, 122, 123, 124, 125, 126, 127, 128, 129, 130, 131, 132, 133, 134, 135, 136, 137, 138, 139, 140, 141, 142, 143, 144, 4] 40 (fun g jv _ _ _ _ _ _ _ _ _ _ _ _ _ _ _ _ _ _ _ _ _ _ _ _ _ _ _ _ _ _ _ _ _ _ _ _ _ _ _ _ _ _ rv wr => rv = .bool false ∧ ∃ i : Nat, i + g = 40 ∧ jv = .int .i64 (i : Int) ∧ Own w wr (TZ p q 600 (AF (delL (addE (delL l (nmB k0)) freshB 64) freshB)) 0) L)
        case atStart => exact ⟨rfl, 0, rfl, rfl, hO8H.out⟩
        case round =>
          obtain ⟨rfl, i, hjg0, rfl, hO2⟩ := hrel
          rename World => wr2
          have hjg : Hid _ := Lib.hid hjg0
          have hO2H : Hid _ := Lib.hid hO2
          clear hO2
          by_cases hi2 : i < 40
          · have hi2z : (i : Int) < 40 := by omega
            clear hjg0
            cases hthi0 : th i with
            | false =>
              have hthi : th i = false := hthi0
              have cN := nm_any wr2 hi2
              have cF : ∀ W, Below wr2.heap.size wr2 W → Calls Tryz.prog 16 #[Dptr pb, .int .i64 1, .string (nmB i)] W (Did w W (TZ p q 600 (AF (delL (addE (delL l (nmB k0)) freshB 64) freshB)) 0) L (.tuple #[.int .i64 0, .int .i64 61])) := fun W hb => by
                have := dFind_any (n := 1) (hO2H.out.below (keepsTZ _ _ _ _ _) hb) hLH.out.base (AF_one _) (isF_node hG3.out.1 hG3.out.2.1) hTH.out (s := nmB i) (by show 2 ≤ _; omega)
                rw [FullR.find hG3.out.2.2 hi2] at this
                rw [show (th i && !decide (i = k0)) = false from by simp [hthi]] at this
                exact this
              have q5 : ∀ W, Own w W (TZ p q 600 (AF (delL (addE (delL l (nmB k0)) freshB 64) freshB)) 0) L → W.cell? ⟨bt, i, none⟩ = some (.bool false) := fun W hW => by rw [cell_of (hW.loc hLH.out.row), vec_at _ hi2, hthi]
              have q5H : Hid _ := Lib.hid q5
              clear q5
              go_upto_region 37 with (first
                | (go_at_call 14; refine cN.mono ?_; rintro e w9 ⟨rfl, hb9⟩)
                | (go_at_call 16; refine (cF w9 hb9).mono ?_; rintro e w10 ⟨rfl, hO10, hs10⟩))
              have q6 := q5H.out w10 hO10
              have hO10H : Hid _ := Lib.hid hO10
              clear hO10 cF cN
              go_wp2_with fail
              go_roundg (gk - 1)
              case measure => have := hjg.out; omega
              case rel => exact ⟨rfl, i + 1, by have := hjg.out; omega, by go_num, hO10H.out⟩
            | true =>
              by_cases heq : i = k0
              · subst heq
                have cN := nm_any wr2 hi2
                have cF : ∀ W, Below wr2.heap.size wr2 W → Calls Tryz.prog 16 #[Dptr pb, .int .i64 1, .string (nmB i)] W (Did w W (TZ p q 600 (AF (delL (addE (delL l (nmB i)) freshB 64) freshB)) 0) L (.tuple #[.int .i64 0, .int .i64 61])) := fun W hb => by
                  have := dFind_any (n := 1) (hO2H.out.below (keepsTZ _ _ _ _ _) hb) hLH.out.base (AF_one _) (isF_node hG3.out.1 hG3.out.2.1) hTH.out (s := nmB i) (by show 2 ≤ _; omega)
                  rw [FullR.find hG3.out.2.2 hi2] at this
                  rw [show (th i && !decide (i = i)) = false from by simp []] at this
                  exact this
                have q5 : ∀ W, Own w W (TZ p q 600 (AF (delL (addE (delL l (nmB i)) freshB 64) freshB)) 0) L → W.cell? ⟨bt, i, none⟩ = some (.bool true) := fun W hW => by rw [cell_of (hW.loc hLH.out.row), vec_at _ hi2, hth]
                have q5H : Hid _ := Lib.hid q5
                clear q5
                go_upto_region 37 with (first
                  | (go_at_call 14; refine cN.mono ?_; rintro e w9 ⟨rfl, hb9⟩)
                  | (go_at_call 16; refine (cF w9 hb9).mono ?_; rintro e w10 ⟨rfl, hO10, hs10⟩))
                have q6 := q5H.out w10 hO10
                have hO10H : Hid _ := Lib.hid hO10
                clear hO10 cF cN
                go_wp2_with fail
                go_roundg (gk - 1)
                case measure => have := hjg.out; omega
                case rel => exact ⟨rfl, i + 1, by have := hjg.out; omega, by go_num, hO10H.out⟩
              · have hne : ¬ i = k0 := heq
                have hnez : ¬ (i : Int) = (k0 : Int) := by omega
                have hthi : th i = true := hthi0
                have cN := nm_any wr2 hi2
                have cF : ∀ W, Below wr2.heap.size wr2 W → Calls Tryz.prog 16 #[Dptr pb, .int .i64 1, .string (nmB i)] W (Did w W (TZ p q 600 (AF (delL (addE (delL l (nmB k0)) freshB 64) freshB)) 0) L (.tuple #[.int .i64 ((i + 1 : Nat) : Int), .int .i64 0])) := fun W hb => by
                  have := dFind_any (n := 1) (hO2H.out.below (keepsTZ _ _ _ _ _) hb) hLH.out.base (AF_one _) (isF_node hG3.out.1 hG3.out.2.1) hTH.out (s := nmB i) (by show 2 ≤ _; omega)
                  rw [FullR.find hG3.out.2.2 hi2] at this
                  rw [show (th i && !decide (i = k0)) = true from by simp [hthi, hne]] at this
                  exact this
                have q5 : ∀ W, Own w W (TZ p q 600 (AF (delL (addE (delL l (nmB k0)) freshB 64) freshB)) 0) L → W.cell? ⟨bt, i, none⟩ = some (.bool true) := fun W hW => by rw [cell_of (hW.loc hLH.out.row), vec_at _ hi2, hthi]
                have q5H : Hid _ := Lib.hid q5
                clear q5
                go_upto_region 37 with (first
                  | (go_at_call 14; refine cN.mono ?_; rintro e w9 ⟨rfl, hb9⟩)
                  | (go_at_call 16; refine (cF w9 hb9).mono ?_; rintro e w10 ⟨rfl, hO10, hs10⟩))
                have q6 := q5H.out w10 hO10
                have hO10H : Hid _ := Lib.hid hO10
                clear hO10 cF cN
                go_wp2_with fail
                go_roundg (gk - 1)
                case measure => have := hjg.out; omega
                case rel => exact ⟨rfl, i + 1, by have := hjg.out; omega, by go_num, hO10H.out⟩
          · have hi2z : ¬ (i : Int) < 40 := by omega
            have cW := awake_any wr2 (hEH.out.below hO2H.out.base)
            go_wp2_with (go_at_call 7; refine cW.mono ?_; rintro e w11 ⟨rfl, hb11⟩)
            go_ret
            exact ⟨rfl, hO2H.out.base.trans (hb11.mono hO2H.out.size)⟩
      | false =>
        simp only [hth, Bool.false_eq_true, if_false] at cD1
        go_upto_region 29 with (first
          | (go_at_call 14; refine cN0.mono ?_; rintro e w4 ⟨rfl, hb4⟩)
          | (go_at_call 15; refine (cD1 w4 hb4).mono ?_; rintro e w5 ⟨rfl, hO5, hs5⟩))
        have q5 : w5.cell? ⟨bt, k0, none⟩ = some (.bool false) := by rw [cell_of (hO5.loc hLH.out.row), vec_at _ hk0, hth]
        have hO8H : Hid _ := Lib.hid hO5
        have hlk3 : ∀ k, k < 40 → lookE l (nmB k) = if th k && !decide (k = k0) then some (k + 1) else none := fun k hk => by
          rw [hRH.out.look k hk]
          by_cases e : k = k0
          · subst e; simp [hth]
          · simp [e]
        have hG3 : Hid (GoodF l ∧ _ ∧ _) := Lib.hid ⟨hRH.out.good, hl32H.out, hlk3⟩
        clear hO5 cD1 cN0 hlk3
        go_upto_region 33 with fail
        clear q5
        go_wp2_with fail
        go_loopg [17, 18, 19, 20, 106, 107, 108, 109, 110, 111, 112, 113, 114, 115, 116, 117, 118, 119, 120, 121, 122, 123, 124, 125, 126, 127, 128, 129, 130, 131, 132, 133, 134, 135, 136, 137, 138, 139, 140, 141, 142, 143, 144, 4] 40 (fun g jv _ _ _ _ _ _ _ _ _ _ _ _ _ _ _ _ _ _ _ _ _ _ _ _ _ _ _ _ _ _ _ _ _ _ _ _ _ _ _ _ _ _ rv wr => rv = .bool false ∧ ∃ i : Nat, i + g = 40 ∧ jv = .int .i64 (i : Int) ∧ Own w wr (TZ p q 600 (AF (l)) 0) L)
        case atStart => exact ⟨rfl, 0, rfl, rfl, hO8H.out⟩
        case round =>
          obtain ⟨rfl, i, hjg0, rfl, hO2⟩ := hrel
          rename World => wr2
          have hjg : Hid _ := Lib.hid hjg0
          have hO2H : Hid _ := Lib.hid hO2
          clear hO2
          by_cases hi2 : i < 40
          · have hi2z : (i : Int) < 40 := by omega
            clear hjg0
            cases hthi0 : th i with
            | false =>
              have hthi : th i = false := hthi0
              have cN := nm_any wr2 hi2
              have cF : ∀ W, Below wr2.heap.size wr2 W → Calls Tryz.prog 16 #[Dptr pb, .int .i64 1, .string (nmB i)] W (Did w W (TZ p q 600 (AF (l)) 0) L (.tuple #[.int .i64 0, .int .i64 61])) := fun W hb => by
                have := dFind_any (n := 1) (hO2H.out.below (keepsTZ _ _ _ _ _) hb) hLH.out.base (AF_one _) (isF_node hG3.out.1 hG3.out.2.1) hTH.out (s := nmB i) (by show 2 ≤ _; omega)
                rw [FullR.find hG3.out.2.2 hi2] at this
                rw [show (th i && !decide (i = k0)) = false from by simp [hthi]] at this
                exact this
              have q5 : ∀ W, Own w W (TZ p q 600 (AF (l)) 0) L → W.cell? ⟨bt, i, none⟩ = some (.bool false) := fun W hW => by rw [cell_of (hW.loc hLH.out.row), vec_at _ hi2, hthi]
              have q5H : Hid _ := Lib.hid q5
              clear q5
              go_upto_region 37 with (first
                | (go_at_call 14; refine cN.mono ?_; rintro e w9 ⟨rfl, hb9⟩)
                | (go_at_call 16; refine (cF w9 hb9).mono ?_; rintro e w10 ⟨rfl, hO10, hs10⟩))
              have q6 := q5H.out w10 hO10
              have hO10H : Hid _ := Lib.hid hO10
              clear hO10 cF cN
              go_wp2_with fail
              go_roundg (gk - 1)
              case measure => have := hjg.out; omega
              case rel => exact ⟨rfl, i + 1, by have := hjg.out; omega, by go_num, hO10H.out⟩
            | true =>
              by_cases heq : i = k0
              · exfalso
                rw [heq, hth] at hthi0
                cases hthi0
              · have hne : ¬ i = k0 := heq
                have hnez : ¬ (i : Int) = (k0 : Int) := by omega
                have hthi : th i = true := hthi0
                have cN := nm_any wr2 hi2
                have cF : ∀ W, Below wr2.heap.size wr2 W → Calls Tryz.prog 16 #[Dptr pb, .int .i64 1, .string (nmB i)] W (Did w W (TZ p q 600 (AF (l)) 0) L (.tuple #[.int .i64 ((i + 1 : Nat) : Int), .int .i64 0])) := fun W hb => by
                  have := dFind_any (n := 1) (hO2H.out.below (keepsTZ _ _ _ _ _) hb) hLH.out.base (AF_one _) (isF_node hG3.out.1 hG3.out.2.1) hTH.out (s := nmB i) (by show 2 ≤ _; omega)
                  rw [FullR.find hG3.out.2.2 hi2] at this
                  rw [show (th i && !decide (i = k0)) = true from by simp [hthi, hne]] at this
                  exact this
                have q5 : ∀ W, Own w W (TZ p q 600 (AF (l)) 0) L → W.cell? ⟨bt, i, none⟩ = some (.bool true) := fun W hW => by rw [cell_of (hW.loc hLH.out.row), vec_at _ hi2, hthi]
                have q5H : Hid _ := Lib.hid q5
                clear q5
                go_upto_region 37 with (first
                  | (go_at_call 14; refine cN.mono ?_; rintro e w9 ⟨rfl, hb9⟩)
                  | (go_at_call 16; refine (cF w9 hb9).mono ?_; rintro e w10 ⟨rfl, hO10, hs10⟩))
                have q6 := q5H.out w10 hO10
                have hO10H : Hid _ := Lib.hid hO10
                clear hO10 cF cN
                go_wp2_with fail
                go_roundg (gk - 1)
                case measure => have := hjg.out; omega
                case rel => exact ⟨rfl, i + 1, by have := hjg.out; omega, by go_num, hO10H.out⟩
          · have hi2z : ¬ (i : Int) < 40 := by omega
            have cW := awake_any wr2 (hEH.out.below hO2H.out.base)
            go_wp2_with (go_at_call 7; refine cW.mono ?_; rintro e w11 ⟨rfl, hb11⟩)
            go_ret
            exact ⟨rfl, hO2H.out.base.trans (hb11.mono hO2H.out.size)⟩
end Go.Proofs.YtjngphffgdjcfaaGreatDoor
