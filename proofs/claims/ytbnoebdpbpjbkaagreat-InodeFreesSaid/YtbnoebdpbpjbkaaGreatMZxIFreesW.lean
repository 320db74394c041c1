/-
  InodeFrees, walked.
-/
import Derived.Test.YtbnoebdpbpjbkaaGreatMZxIFrP
import Derived.Deep.RegionHeld
import Derived.BigQuiet
import Derived.Deep.QuietTactic
namespace Go.Proofs.YtbnoebdpbpjbkaaGreat
open Go.RowKit Go.Lz
section
variable {w w0 : World} {p q pb pn pk N cc m : Nat} {L : Locals} {A A0 : Nodes}
theorem and1023 (x : Int) : ∃ s : Nat, s ≤ 1023 ∧ bits .and .i64 x 1023 = (s : Int) := by
  refine ⟨(BitVec.ofInt 64 x &&& BitVec.ofInt 64 1023).toNat, ?_, ?_⟩
  · rw [BitVec.toNat_and]
    exact Nat.le_trans Nat.and_le_right (by decide)
  · have h : (BitVec.ofInt 64 x &&& BitVec.ofInt 64 1023).toNat ≤ 1023 := by
      rw [BitVec.toNat_and]
      exact Nat.le_trans Nat.and_le_right (by decide)
    show IntKind.i64.wrap (((BitVec.ofInt 64 x &&& BitVec.ofInt 64 1023).toNat : Nat) : Int) = _
    rw [IntKind.wrap_i64]
    omega
theorem nilGF (w : World) (G : Nat → Prop) : IntsAt w G (.slice none 0 0) [] := ⟨none, 0, 0, rfl, rfl, by omega, .inl rfl⟩
theorem one_intF {w1 : World} {x : Int} {b : Nat} {fr : Nat × Nat} (hb : w1.heap[b]? = some (.cells #[.int .i64 x] 3 fr)) : IntsAt w1 (· = b) (.slice (some ⟨b, 0, none⟩) 1 1) [x] := by
  refine ⟨_, _, _, rfl, rfl, by decide, .inr ⟨b, 0, rfl, rfl, lt_of_heap hb, fun j hj => ?_⟩⟩
  obtain rfl : j = 0 := by omega
  exact cell_of hb 0
theorem own_new {T : World → (Nat → Prop) → Prop} (h : Own w0 w T L) (hk : Keeps T) (o : Obj) : Own w0 (w.alloc o) T (upd L w.heap.size (some o)) :=
  h.local_ hk ((Below.refl _ w).alloc (Nat.le_refl _) o) (Nat.le_refl _) (heap_alloc_new w o)
theorem wrB_nil (p : Bytes) : wrB [] 0 p = p := by simp [wrB, splice]
theorem write_rep {s n : Nat} {a : NodeA} (hO : Own w0 w (TB p q 600 A A0 cc m) L) (hL : BaseL L pb p pn pk 600) (hs : s ≤ 1023) (ha : A n = some a) (hr : s ≤ 64 * a.room) (hd : a.data = []) (hm : m ≤ 5) (hfit : allOf A + withN (cntN s) ≤ 300) :
    Calls Tryz.prog 11 #[Dptr pb, .int .i64 (n : Int), .int .i64 0, .slice (some ⟨w.heap.size, 0, none⟩) s s] (w.alloc (.cells (((List.replicate s (0 : UInt8)).map u8v).toArray) 5)) fun e w' => e = .returned (.int .i64 0) ∧ ∃ m', Own w0 w' (TB p q 600 (upd A n (some { a with data := List.replicate s 0 })) A0 cc m') L ∧ w.heap.size ≤ w'.heap.size := by
  have hn := hO.none_ (Nat.le_refl w.heap.size)
  have hO1 := own_new hO (keepsTB _ _ _ _ _ _ _) (.cells (((List.replicate s (0 : UInt8)).map u8v).toArray) 5)
  have hL1 := hL.upd_ (o := .cells (((List.replicate s (0 : UInt8)).map u8v).toArray) 5) hn
  have hsz : w.heap.size ≤ (w.alloc (.cells (((List.replicate s (0 : UInt8)).map u8v).toArray) 5)).heap.size := by simp
  by_cases h0 : s = 0
  · have hA : upd A n (some { a with data := List.replicate s 0 }) = A := by
      have : ({ a with data := List.replicate s 0 } : NodeA) = a := by rw [h0]; cases a; cases hd; rfl
      rw [this, ← ha, upd_self]
    rw [hA]
    refine (write6_empty (at' := 0) hO1 hL1 h0 ha (by omega)).mono ?_
    rintro e w' ⟨he, h1, h2⟩
    exact ⟨he, m, h1.drop hn, Nat.le_trans hsz h2⟩
  · have hv : Src 5 (w.alloc (.cells (((List.replicate s (0 : UInt8)).map u8v).toArray) 5)) (· = w.heap.size) (.slice (some ⟨w.heap.size, 0, none⟩) s s) (List.replicate s 0) := by
      refine ⟨w.heap.size, 0, s, _, (0, 0), by rw [List.length_replicate], rfl, heap_alloc_new w _, by rw [List.length_replicate]; exact Nat.le_refl _, by unfold maxLen; omega, fun j u hj => ?_⟩
      rw [Nat.zero_add, cell_of (heap_alloc_new w _), List.getElem?_toArray]
      exact hj
    have hne : (List.replicate s (0 : UInt8)) ≠ [] := fun e => h0 (by have := congrArg List.length e; simpa using this)
    have hl : (List.replicate s (0 : UInt8)).length = s := List.length_replicate
    refine (write6_ok (at' := 0) (data := List.replicate s 0) (Ln := s) hO1 hL1 hl.symm (fun _ => hv) (mine_new _ _ _ _) (by unfold maxLen; omega) ha (by rw [hl]; omega) hne (by rw [hl]; omega) hm (by rw [hl, Nat.zero_add]; omega)).mono ?_
    rw [hd, wrB_nil]
    rintro e w' ⟨he, h1, h2⟩
    exact ⟨he, _, h1.drop hn, Nat.le_trans hsz h2⟩
/-- The local blocks of the statement's function: its variables that are captured; sz: the sizes. -/
structure FrL (L : Locals) (pb p pn pk b6 b7 b8 b9 b10 n : Nat) (sz : Nat → Nat) : Prop where
  base : BaseL L pb p pn pk 600
  c6 : L b6 = some (.cells #[Dptr pb] 23 (0, 0))
  c7 : L b7 = some (.cells #[.int .i64 300] 3 (0, 0))
  c8 : L b8 = some (.cells #[.int .i64 300] 3 (0, 0))
  c9 : L b9 = some (.cells #[.int .i64 (n : Int)] 3 (0, 0))
  c10 : L b10 = some (.cells (vec 6 fun k => .int .i64 (sz k : Int)) 47 (0, 0))
theorem FrL.set {b6 b7 b8 b9 b10 n : Nat} {sz sz' : Nat → Nat} (h : FrL L pb p pn pk b6 b7 b8 b9 b10 n sz) : FrL (upd L b10 (some (.cells (vec 6 fun k => .int .i64 (sz' k : Int)) 47 (0, 0)))) pb p pn pk b6 b7 b8 b9 b10 n sz' := by
  have hne : ∀ {k : Nat} {cs : Array Value} {t : TypeId}, L k = some (.cells cs t (0, 0)) → t ≠ 47 → k ≠ b10 := fun hk ht e => by
    rw [e, h.c10] at hk
    injection hk with hk
    injection hk with _ h2
    exact ht h2.symm
  have ho : ∀ {k : Nat} {cs : Array Value} {t : TypeId}, L k = some (.cells cs t (0, 0)) → t ≠ 47 → upd L b10 (some (.cells (vec 6 fun k => .int .i64 (sz' k : Int)) 47 (0, 0))) k = some (.cells cs t (0, 0)) := fun hk ht => by
    rw [upd_other _ (hne hk ht)]; exact hk
  exact ⟨⟨ho h.base.b (by decide), ho h.base.n (by decide), ho h.base.k (by decide)⟩, ho h.c6 (by decide), ho h.c7 (by decide), ho h.c8 (by decide), ho h.c9 (by decide), upd_same _ _ _⟩
def frC (k j : Nat) (sz : Nat → Nat) : Nodes := fun n => if n ≤ k then none else frA j sz n
theorem frC_zero (j : Nat) (sz : Nat → Nat) : frC 0 j sz = frA j sz := by
  funext n
  unfold frC
  split
  · rw [frA_none (by omega)]
  · rfl
theorem frC_succ (k j : Nat) (sz : Nat → Nat) : upd (frC k j sz) (k + 1) none = frC (k + 1) j sz := by
  funext n
  unfold frC
  by_cases e : n = k + 1
  · subst e; rw [upd_same, if_pos (Nat.le_refl _)]
  · rw [upd_other _ e]
    by_cases h : n ≤ k
    · rw [if_pos h, if_pos (by omega)]
    · rw [if_neg h, if_neg (by omega)]
theorem frC_all (j : Nat) (sz : Nat → Nat) : frC j j sz = noNodes := by
  funext n
  unfold frC
  split
  · rfl
  · exact frA_none (by omega)
set_option maxRecDepth 100000 in
set_option maxHeartbeats 8000000 in
theorem inodeFrees_any {w : World} {G1 G2 : Nat → Prop} {v1 v2 : Value} {l1 l2 : List Int} (h1 : IntsAt w G1 v1 l1) (h2 : IntsAt w G2 v2 l2) : Calls Tryz.prog 4 #[v1, v2] w fun e w' => e = .returned (.bool true) ∧ Below w.heap.size w w' := by
  obtain ⟨ad1, n1, cp1, rfl, hl1, hn1, hcs1⟩ := h1
  obtain ⟨ad2, n2, cp2, rfl, hl2, hn2, hcs2⟩ := h2
  have h0 : allOf noNodes = 0 := sumF_zero fun k _ => by rw [cOf_none rfl]; rfl
  obtain ⟨n, hn⟩ : ∃ n, n = min n1 6 := ⟨_, rfl⟩
  have hmn : min (n1 : Int) 6 = (n : Int) := by omega
  have hc1H : Hid _ := Lib.hid hcs1
  have hc2H : Hid _ := Lib.hid hcs2
  have hnH : Hid _ := Lib.hid hn
  clear hcs1 hcs2 hn
  go_enter Tryz.func4, Tryz.ntmps4
  go_upto_region 2 with (go_at_call 7; refine (lw6Open_any w).mono ?_; rintro e w1 ⟨p, q, pb, pn, pk, rfl, hO1, hL1⟩)
  have hO2 := hO1.local_ (o := .cells #[Dptr pb] 23) (keepsTB _ _ _ _ _ _ _) ((Below.refl _ w1).alloc (Nat.le_refl _) _) (Nat.le_refl _) (heap_alloc_new w1 _)
  have hL2 := hL1.upd_ (o := .cells #[Dptr pb] 23) (hO1.none_ (Nat.le_refl _))
  obtain ⟨b6, hb6⟩ : ∃ b, b = w1.heap.size := ⟨_, rfl⟩
  rw [← hb6] at hO2 hL2 ⊢
  have c6 : upd (BaseO noLocals pb pn pk p 600) b6 (some (.cells #[Dptr pb] 23)) b6 = some (.cells #[Dptr pb] 23 (0, 0)) := upd_same _ _ _
  have hw2b : b6 < (w1.alloc (.cells #[Dptr pb] 23)).heap.size := by simp [hb6]
  clear hb6 hO1 hL1
  generalize upd (BaseO noLocals pb pn pk p 600) b6 (some (.cells #[Dptr pb] 23)) = L2 at *
  generalize w1.alloc (.cells #[Dptr pb] 23) = w2 at *
  have d6 : w2.cell? ⟨b6, 0, none⟩ = some (Dptr pb) := cell_of (hO2.loc c6) 0
  have cB := blocks6 hO2 hL2
  rw [h0] at cB
  have cB2 : Calls Tryz.prog 17 #[Dptr pb] w2 (Did w w2 (TB p q 600 noNodes noNodes 0 0) L2 (.tuple #[.int .i64 300, .int .i64 300])) := cB
  clear cB
  go_upto_region 5 with (go_at_call 17; refine cB2.mono ?_; rintro e w3 ⟨rfl, hO3, hs3⟩)
  have hO31 := own_new hO3 (keepsTB _ _ _ _ _ _ _) (.cells #[.int .i64 300] 3)
  have i7 : LocIn L2 _ := LocIn.upd_ (o := .cells #[.int .i64 300] 3) (hO3.none_ (Nat.le_refl _))
  have s31 : (w3.alloc (.cells #[.int .i64 300] 3)).heap.size = w3.heap.size + 1 := by simp
  have hO32 := own_new hO31 (keepsTB _ _ _ _ _ _ _) (.cells #[.int .i64 300] 3)
  have i8 : LocIn _ _ := LocIn.upd_ (o := .cells #[.int .i64 300] 3) (hO31.none_ (Nat.le_refl _))
  have s32 : ((w3.alloc (.cells #[.int .i64 300] 3)).alloc (.cells #[.int .i64 300] 3)).heap.size = w3.heap.size + 2 := by simp
  rw [s31] at hO32 i8
  generalize hL4 : upd (upd L2 w3.heap.size (some (.cells #[.int .i64 300] 3))) (w3.heap.size + 1) (some (.cells #[.int .i64 300] 3)) = L4 at *
  have c7 : L4 w3.heap.size = some (.cells #[.int .i64 300] 3 (0, 0)) := by rw [← hL4, upd_other _ (by omega), upd_same]
  have c8 : L4 (w3.heap.size + 1) = some (.cells #[.int .i64 300] 3 (0, 0)) := by rw [← hL4, upd_same]
  have i24 : LocIn L2 L4 := i7.trans i8
  generalize (w3.alloc (.cells #[.int .i64 300] 3)).alloc (.cells #[.int .i64 300] 3) = w4 at *
  have hO5 := own_new hO32 (keepsTB _ _ _ _ _ _ _) (.cells #[.int .i64 (n : Int)] 3)
  have i9 : LocIn L4 _ := LocIn.upd_ (o := .cells #[.int .i64 (n : Int)] 3) (hO32.none_ (Nat.le_refl _))
  have s5 : (w4.alloc (.cells #[.int .i64 (n : Int)] 3)).heap.size = w3.heap.size + 2 + 1 := by simp [s32]
  have hO6 := own_new hO5 (keepsTB _ _ _ _ _ _ _) (.cells #[.int .i64 0, .int .i64 0, .int .i64 0, .int .i64 0, .int .i64 0, .int .i64 0] 47)
  have i10 : LocIn _ _ := LocIn.upd_ (o := .cells #[.int .i64 0, .int .i64 0, .int .i64 0, .int .i64 0, .int .i64 0, .int .i64 0] 47) (hO5.none_ (Nat.le_refl _))
  rw [s5] at hO6 i10
  rw [s32] at hO6 i10 i9
  generalize hL6 : upd (upd L4 (w3.heap.size + 2) (some (.cells #[.int .i64 (n : Int)] 3))) (w3.heap.size + 2 + 1) (some (.cells #[.int .i64 0, .int .i64 0, .int .i64 0, .int .i64 0, .int .i64 0, .int .i64 0] 47)) = L6 at *
  have hFr : FrL L6 pb p pn pk b6 w3.heap.size (w3.heap.size + 1) (w3.heap.size + 2) (w3.heap.size + 2 + 1) n (fun _ => 0) :=
    ⟨hL2.mono (i24.trans (i9.trans i10)), i10 _ _ (i9 _ _ (i24 _ _ c6)), i10 _ _ (i9 _ _ c7), i10 _ _ (i9 _ _ c8), i10 _ _ (upd_same _ _ _), by rw [← hL6, upd_same]; rfl⟩
  go_upto_region 6 with fail
  go_upto_region 8 with fail
  generalize (w4.alloc (.cells #[.int .i64 (n : Int)] 3)).alloc (.cells #[.int .i64 0, .int .i64 0, .int .i64 0, .int .i64 0, .int .i64 0, .int .i64 0] 47) = w6 at *
  obtain ⟨b7, hb7⟩ : ∃ b, b = w3.heap.size := ⟨_, rfl⟩
  obtain ⟨b8, hb8⟩ : ∃ b, b = w3.heap.size + 1 := ⟨_, rfl⟩
  obtain ⟨b9, hb9⟩ : ∃ b, b = w3.heap.size + 2 := ⟨_, rfl⟩
  obtain ⟨b10, hb10⟩ : ∃ b, b = b9 + 1 := ⟨_, rfl⟩
  rw [← hb8, ← hb9, ← hb10, ← hb7] at hFr ⊢
  have hFr0 : frA 0 (fun _ => 0) = noNodes := by funext k; exact frA_none (by omega)
  rw [← hFr0] at hO6
  have hO6H : Hid _ := Lib.hid hO6
  have h0H : Hid _ := Lib.hid h0
  clear h0
  have hFrH : Hid _ := Lib.hid hFr
  clear hO3 hO31 hO32 hO5 hO6 hFr i7 i8 i9 i10 i24 s31 s32 s5 hL4 hL6 c6 c7 c8 hL2 hO2 d6 hw2b cB2 hFr0 hb7 hb8 hb9 hb10 hs3 hmn
  go_wp2_with fail
  go_loopg [12, 4, 13, 14, 15, 36, 37, 38, 39, 40, 41, 42, 43, 44, 45, 46, 47, 48, 49, 50, 51, 52, 53, 54, 55, 56, 57, 58, 59, 60, 61, 62, 63, 64, 65, 66, 67, 68, 69, 70, 71, 72, 73, 74, 75] n (fun g iv _ _ _ _ _ _ _ _ _ _ _ _ _ _ _ _ _ _ _ _ _ _ _ _ _ _ _ _ _ _ _ _ _ _ _ _ _ _ _ _ _ _ _ _ wr => ∃ (j cc : Nat) (sz : Nat → Nat) (L : Locals) (A0 : Nodes), j + g = n ∧ iv = .int .i64 (j : Int) ∧ Own w wr (TB p q 600 (frA j sz) A0 cc 0) L ∧ FrL L pb p pn pk b6 b7 b8 b9 b10 n sz ∧ (∀ k, sz k ≤ 1023) ∧ (∀ k, j ≤ k → sz k = 0) ∧ cc ≤ j)
  case atStart => exact ⟨0, 0, fun _ => 0, L6, _, by omega, rfl, hO6H.out, hFrH.out, fun _ => Nat.zero_le _, fun _ _ => rfl, by omega⟩
  case round =>
    obtain ⟨j, cc, sz, L, A0, hj, rfl, hO, hFr, hsz, hsz0, hcc⟩ := hrel
    rename World => wr
    have d9 := cell_of (hO.loc hFr.c9) 0
    have d6 := cell_of (hO.loc hFr.c6) 0
    by_cases hjn : j < n
    · have hjz : (j : Int) < (n : Int) := by omega
      have hj6 : j < 6 := by have := hnH.out; omega
      have hset : isSetB [((j + 1 : Nat) : Int)] = true := by
        have : ∀ i : Fin 6, isSetB [((i.val + 1 : Nat) : Int)] = true := by decide +kernel
        exact this ⟨j, hj6⟩
      have e1 : ((j + 1 : Nat) : Int) = (j : Int) + 1 := by omega
      have hOa := hO.below (keepsTB _ _ _ _ _ _ _) ((Below.refl _ wr).alloc (Nat.le_refl _) (.cells #[.int .i64 ((j : Int) + 1)] 3))
      have hIa := one_intF (heap_alloc_new wr (.cells #[.int .i64 ((j : Int) + 1)] 3))
      have cM := make6_ok (n := j + 1) (kind := 1) (room := 30) (s := [((j + 1 : Nat) : Int)]) (l := []) hOa hFr.base (by rw [e1]; exact hIa) (nilGF _ _) hset (by decide) (.inl rfl) (by omega) (by omega) (by omega) (by omega) (frA_none (by omega)) (fun n' h1 h2 => by rw [frA_some (by omega)]; rfl)
      have hAs : upd (frA j sz) (j + 1) (some ⟨1, [((j + 1 : Nat) : Int)], [], 30, []⟩) = frA (j + 1) sz := by
        have := frA_succ j sz (sz j)
        rw [upd_self, hsz0 j (Nat.le_refl _)] at this
        exact this
      rw [hAs, e1] at cM
      have cM2 : Calls Tryz.prog 8 #[Dptr pb, .int .i64 1, .agg #[.slice (some ⟨wr.heap.size, 0, none⟩) 1 1, .slice none 0 0], .int .i64 30] (wr.alloc (.cells #[.int .i64 ((j : Int) + 1)] 3)) (Did w (wr.alloc (.cells #[.int .i64 ((j : Int) + 1)] 3)) (TB p q 600 (frA (j + 1) sz) A0 cc 4) L (.tuple #[.int .i64 ((j : Int) + 1), .int .i64 0])) := cM
      have hFrH2 : Hid _ := Lib.hid hFr
      have hszH : Hid _ := Lib.hid hsz
      have hsz0H : Hid _ := Lib.hid hsz0
      have hccH : Hid _ := Lib.hid hcc
      have hjH : Hid _ := Lib.hid hj
      have hj61 : (j : Int) ≤ 5 := by omega
      clear cM hAs e1 hOa hIa hset hFr hsz hsz0 hcc hj hO
      go_upto_region 12 with (go_at_call 8; refine cM2.mono ?_; rintro e w7 ⟨rfl, hO7, hs7⟩)
      have hn1 : ¬ n1 = 0 := by have := hnH.out; omega
      obtain ⟨bs, off, hae, _, hbs, hcell⟩ := hc1H.out.resolve_left hn1
      subst hae
      obtain ⟨x, hx⟩ : ∃ x, x = l1.getD j 0 := ⟨_, rfl⟩
      have hjn1 : j < n1 := by have := hnH.out; omega
      have hxc : w7.cell? ⟨bs, off + j, none⟩ = some (.int .i64 x) := by
        rw [hx]
        exact (hO7.base.cell (p := ⟨bs, off + j, none⟩) hbs).trans (hcell j hjn1)
      obtain ⟨s, hs, hand⟩ := and1023 x
      clear hcell hx
      go_upto_region 13 with fail
      have d67 := cell_of (hO7.loc hFrH2.out.c6) 0
      have mk : ∀ W : World, (Instr.makeSlice 35 (.int .i64 (s : Int)) (.int .i64 (s : Int))).run Tryz.prog W = .ok (.slice (some ⟨W.heap.size, 0, none⟩) s s) (W.alloc (.cells (((List.replicate s (0 : UInt8)).map u8v).toArray) 5)) := fun W => by
        have hi : (Tryz.prog.info? 5).map (fun i => (i.zero, i.size, i.bytes)) = some (some (.int .u8 0), 1, 1) := by kernel_rfl
        obtain ⟨i, hi, hz, hs1, hb⟩ := info_parts hi
        have := make_one Tryz.underlying35 hi hz hs1 rfl W s (by rw [hb]; omega) (by omega)
        have e : (vec s fun _ => Value.int .u8 0) = ((List.replicate s (0 : UInt8)).map u8v).toArray := by
          unfold vec
          congr 1
          rw [List.map_replicate]
          refine List.ext_getElem (by simp) fun j h1 h2 => ?_
          simp [u8v]
        rw [e] at this
        exact this
      have hw7 : w7.heap.size = w7.drew.heap.size := rfl
      have hO7d := hO7.below (keepsTB _ _ _ _ _ _ _) (Below.refl _ w7).drew
      have hfit : allOf (frA (j + 1) sz) + withN (cntN s) ≤ 300 := by
        rw [allOf_fr _ _ (by omega)]
        have h16 : ∀ i, sumF (fun j => withN (cntN (sz j))) i ≤ 16 * i := fun i => by
          induction i with
          | zero => exact Nat.le_refl _
          | succ i ih =>
            have := hszH.out i
            show sumF _ i + withN (cntN (sz i)) ≤ _
            have : withN (cntN (sz i)) ≤ 16 := by unfold withN cntN; omega
            omega
        have := h16 (j + 1)
        have : withN (cntN s) ≤ 16 := by unfold withN cntN; omega
        omega
      have cW := write_rep (n := j + 1) (s := s) hO7d hFrH2.out.base hs (frA_some ⟨by omega, Nat.le_refl _⟩) (by show s ≤ 64 * 30; omega) (by show List.replicate (sz (j + 1 - 1)) 0 = []; rw [Nat.add_sub_cancel, hsz0H.out j (Nat.le_refl _)]; rfl) (by omega) hfit
      dsimp only at cW
      rw [frA_set (j + 1) sz (Nat.lt_succ_self j), show ((j + 1 : Nat) : Int) = (j : Int) + 1 by omega] at cW
      have hd0 : w7.drew.cell? ⟨b6, 0, none⟩ = some (Dptr pb) := d67
      have hOeq : ((List.replicate s (0 : UInt8)).map u8v).toArray = Array.replicate s (u8v 0) := by simp
      rw [hOeq] at cW
      have mk2 : ∀ W : World, (Instr.makeSlice 35 (.int .i64 (s : Int)) (.int .i64 (s : Int))).run Tryz.prog W = .ok (.slice (some ⟨W.heap.size, 0, none⟩) s s) (W.alloc (.cells (Array.replicate s (u8v 0)) 5)) := fun W => by
        rw [← hOeq]
        exact mk W
      clear mk hOeq
      have hdz : (w7.alloc (.cells (Array.replicate s (u8v 0)) 5)).drew.cell? ⟨b6, 0, none⟩ = some (Dptr pb) := (World.cell?_alloc_lt _ _ _ (lt_of_heap (hO7.loc hFrH2.out.c6))).trans d67
      have cW3 : Calls Tryz.prog 11 #[Dptr pb, .int .i64 ((j : Int) + 1), .int .i64 0, .slice (some ⟨w7.heap.size, 0, none⟩) s s] (w7.alloc (.cells (Array.replicate s (u8v 0)) 5)).drew fun e w' => e = .returned (.int .i64 0) ∧ ∃ m', Own w w' (TB p q 600 (frA (j + 1) (upd sz j s)) A0 cc m') L ∧ w7.heap.size ≤ w'.heap.size := cW
      have hsH : Hid _ := Lib.hid hs
      have hc6H : Hid (cc < 1000000) := Lib.hid (by have := hccH.out; omega)
      clear hfit hO7d hO7 hw7 hand cW
      go_region_held (fun W => W.cell? ⟨b6, 0, none⟩ = some (Dptr pb)) (first | with_reducible exact hd0 | with_reducible exact hdz | with_reducible exact hd8 | with_reducible exact hd9) (first
        | (go_at_call 11; refine cW3.mono ?_; rintro e w8 ⟨rfl, m8, hO8, hs8⟩; have hd8 : w8.cell? ⟨b6, 0, none⟩ = some (Dptr pb) := cell_of (hO8.loc hFrH2.out.c6) 0)
        | (go_at_call 9; refine (commit6 hO8 hc6H.out).mono ?_; rintro e w9 ⟨rfl, hO9, hs9⟩; have hd9 : w9.cell? ⟨b6, 0, none⟩ = some (Dptr pb) := cell_of (hO9.loc hFrH2.out.c6) 0))
      have hFr9 := hFrH2.out
      have k10 := hO9.loc hFr9.c10
      have q10 : w9.cell? ⟨b10, j, none⟩ = some (.int .i64 (sz j : Int)) := by rw [cell_of k10, vec_at _ hj6]
      have f10 := frozen_of k10 j
      have k11 := heap_set_same k10 j (.int .i64 (s : Int))
      rw [natsV_set] at k11
      have hO10 := hO9.set (keepsTB _ _ _ _ _ _ _) hFr9.c10 ((Chg.refl _ w9).own j (.int .i64 (s : Int))) k11
      have hFr10 := hFr9.set (sz' := upd sz j s)
      have hsz' : ∀ k, upd sz j s k ≤ 1023 := fun k => by
        by_cases e : k = j
        · subst e; rw [upd_same]; exact hsH.out
        · rw [upd_other _ e]; exact hszH.out k
      have hsz0' : ∀ k, j + 1 ≤ k → upd sz j s k = 0 := fun k hk => by rw [upd_other _ (by omega)]; exact hsz0H.out k (by omega)
      have hT : allOf (frA (j + 1) (upd sz j s)) = sumF (fun j' => withN (cntN (upd sz j s j'))) n := by
        rw [allOf_fr _ _ (by omega)]
        exact (sumF_pad (i := j + 1) (m := n) (by omega) (fun k hk => by rw [hsz0' k hk]; rfl)).symm
      have cT := told_any hO10 hFr10.base hFr10.c9 hFr10.c10 hFr10.c6 hFr10.c7 hFr10.c8 (by have := hnH.out; omega) hsz' hT
      have hFr10H : Hid _ := Lib.hid hFr10
      have hsz'H : Hid _ := Lib.hid hsz'
      have hsz0'H : Hid _ := Lib.hid hsz0'
      clear hFr9 k10 k11 hFr10 hsz' hsz0' hT hd0 hdz hd8 hd9 cW3 mk2 hxc
      go_wp2_with (go_at_call 18; refine cT.mono ?_; rintro e w11 ⟨rfl, hO11, hs11⟩)
      go_roundg (gk - 1)
      case measure => have := hjH.out; omega
      case rel =>
        have := hjH.out
        have := hccH.out
        exact ⟨j + 1, cc + 1, upd sz j s, _, _, by omega, by go_num, hO11, hFr10H.out, hsz'H.out, hsz0'H.out, by omega⟩
    · obtain rfl : j = n := by omega
      have hjz : ¬ (j : Int) < (j : Int) := by omega
      have hcc6 : cc ≤ 6 := by have := hnH.out; omega
      have hOH : Hid _ := Lib.hid hO
      have hFrH2 : Hid _ := Lib.hid hFr
      have hszH : Hid _ := Lib.hid hsz
      clear hO hFr hsz hsz0 hcc d6
      go_wp2_with fail
      go_loopg [16, 4, 17, 76, 77, 78, 79, 80, 81, 82, 83, 84, 85, 86, 87, 88, 89, 90, 91, 92, 93, 94, 95, 96, 97, 98, 99, 100, 101, 102, 103, 104, 105, 106, 107, 108, 109, 110, 111, 112, 113, 114, 115, 116, 117, 118, 119, 120, 121, 122] j (fun g iv _ _ _ _ _ _ _ _ _ _ _ _ _ _ _ _ _ _ _ _ _ _ _ _ _ _ _ _ _ _ _ _ _ _ _ _ _ _ _ _ _ _ _ _ _ _ _ _ _ wr => ∃ (i cc2 : Nat) (sz : Nat → Nat) (L : Locals) (A0 : Nodes), i + g = j ∧ iv = .int .i64 (i : Int) ∧ Own w wr (TB p q 600 (frA j sz) A0 cc2 0) L ∧ FrL L pb p pn pk b6 b7 b8 b9 b10 j sz ∧ (∀ k, sz k ≤ 1023) ∧ cc2 ≤ 6 + i)
      case atStart => exact ⟨0, cc, sz, L, A0, by omega, rfl, hOH.out, hFrH2.out, hszH.out, by omega⟩
      case round =>
        obtain ⟨i, cc2, sz, L, A0, hi, rfl, hO, hFr, hsz, hcc⟩ := hrel
        rename World => wr
        have d9 := cell_of (hO.loc hFr.c9) 0
        have d6 := cell_of (hO.loc hFr.c6) 0
        by_cases hin : i < j ∧ i < n2
        · have hi1 : (i : Int) < (j : Int) := by omega
          have hi2 : (i : Int) < (n2 : Int) := by omega
          have hi2n : i < n2 := hin.2
          have hi6 : i < 6 := by have := hnH.out; omega
          have hn20 : ¬ n2 = 0 := by omega
          obtain ⟨bs, off, hae, _, hbs, hcell⟩ := hc2H.out.resolve_left hn20
          subst hae
          obtain ⟨x, hx⟩ : ∃ x, x = l2.getD i 0 := ⟨_, rfl⟩
          have hxc : wr.cell? ⟨bs, off + i, none⟩ = some (.int .i64 x) := by
            rw [hx]
            exact (hO.base.cell (p := ⟨bs, off + i, none⟩) hbs).trans (hcell i hin.2)
          obtain ⟨s, hs⟩ : ∃ s, s = sz i := ⟨_, rfl⟩
          have q10 : wr.cell? ⟨b10, i, none⟩ = some (.int .i64 (s : Int)) := by rw [hs, cell_of (hO.loc hFr.c10), vec_at _ hi6]
          have hs1 : s ≤ 1023 := by rw [hs]; exact hsz i
          have hM0 : ¬ (s : Int) + 1 = 0 := by omega
          obtain ⟨T, hTs, hT⟩ : ∃ T : Nat, T ≤ s ∧ (x.tmod ((s : Int) + 1) + (s : Int) + 1).tmod ((s : Int) + 1) = (T : Int) := by
            have a1 := Int.tmod_lt_of_pos x (show (0 : Int) < (s : Int) + 1 by omega)
            have a2 := Int.lt_tmod_of_pos x (show (0 : Int) < (s : Int) + 1 by omega)
            rw [Int.tmod_eq_emod_of_nonneg (by omega)]
            have b1 := Int.emod_nonneg (x.tmod ((s : Int) + 1) + (s : Int) + 1) (show (s : Int) + 1 ≠ 0 by omega)
            have b2 := Int.emod_lt_of_pos (x.tmod ((s : Int) + 1) + (s : Int) + 1) (show (0 : Int) < (s : Int) + 1 by omega)
            exact ⟨((x.tmod ((s : Int) + 1) + (s : Int) + 1) % ((s : Int) + 1)).toNat, by omega, by omega⟩
          have hxb : -1023 ≤ x.tmod ((s : Int) + 1) ∧ x.tmod ((s : Int) + 1) ≤ 1023 := by
            have a1 := Int.tmod_lt_of_pos x (show (0 : Int) < (s : Int) + 1 by omega)
            have a2 := Int.lt_tmod_of_pos x (show (0 : Int) < (s : Int) + 1 by omega)
            omega
          go_upto_region 21 with fail
          have hTH : Hid _ := Lib.hid hT
          have hsH : Hid _ := Lib.hid hs
          have hiH : Hid _ := Lib.hid hi
          have hFrH3 : Hid _ := Lib.hid hFr
          have hszH2 : Hid _ := Lib.hid hsz
          have hccH : Hid _ := Lib.hid hcc
          have hOH2 : Hid _ := Lib.hid hO
          clear hx hs hT hcell hi hFr hsz hcc hO
          refine wp_region_quiet (C := fun W => W = wr.drew) (by kernel_rfl) (by kernel_rfl) rfl ?_
          repeat (any_goals (first | go_big_quiet_step (fail) | quiet_step (fail)))
          refine wpQuiet_nil ?_
          rintro _ rfl
          rw [hTH.out]
          have hFr9 := hFrH3.out
          have hOd := hOH2.out.below (keepsTB _ _ _ _ _ _ _) (Below.refl _ wr).drew
          have d6d := cell_of (hOd.loc hFr9.c6) 0
          have cC := cut6_ok (n := i + 1) (to' := T) hOd hFr9.base (frA_some ⟨by omega, by omega⟩) (by rw [List.length_replicate, Nat.add_sub_cancel, ← hsH.out]; exact hTs) (by omega)
          dsimp only at cC
          rw [List.take_replicate, Nat.add_sub_cancel, ← hsH.out, Nat.min_eq_left hTs, frA_set j sz (by omega), show ((i + 1 : Nat) : Int) = (i : Int) + 1 by omega] at cC
          have hi61 : (i : Int) ≤ 5 := by omega
          have hc6H : Hid (cc2 < 1000000) := Lib.hid (by have := hccH.out; omega)
          clear hOd hxc q10 hxb hM0 hFr9
          go_upto_region 24 with (first
            | (go_at_call 20; refine cC.mono ?_; rintro e w8 ⟨rfl, hO8, hs8⟩)
            | (go_at_call 9; refine (commit6 hO8 hc6H.out).mono ?_; rintro e w9 ⟨rfl, hO9, hs9⟩))
          have hFr9 := hFrH3.out
          have k10 := hO9.loc hFr9.c10
          have q10 : w9.cell? ⟨b10, i, none⟩ = some (.int .i64 (sz i : Int)) := by rw [cell_of k10, vec_at _ hi6]
          have f10 := frozen_of k10 i
          have k11 := heap_set_same k10 i (.int .i64 (T : Int))
          rw [natsV_set] at k11
          have hO10 := hO9.set (keepsTB _ _ _ _ _ _ _) hFr9.c10 ((Chg.refl _ w9).own i (.int .i64 (T : Int))) k11
          have hFr10 := hFr9.set (sz' := upd sz i T)
          have hsz' : ∀ k, upd sz i T k ≤ 1023 := fun k => by
            by_cases e : k = i
            · subst e; rw [upd_same]; omega
            · rw [upd_other _ e]; exact hszH2.out k
          have hT2 : allOf (frA j (upd sz i T)) = sumF (fun j' => withN (cntN (upd sz i T j'))) j := allOf_fr _ _ (by have := hnH.out; omega)
          have cT := told_any hO10 hFr10.base hFr10.c9 hFr10.c10 hFr10.c6 hFr10.c7 hFr10.c8 (by have := hnH.out; omega) hsz' hT2
          have hFr10H : Hid _ := Lib.hid hFr10
          have hsz'H : Hid _ := Lib.hid hsz'
          clear hFr9 k10 k11 hFr10 hsz' hT2 cC
          go_wp2_with (go_at_call 18; refine cT.mono ?_; rintro e w11 ⟨rfl, hO11, hs11⟩)
          go_roundg (gk - 1)
          case measure => have := hiH.out; omega
          case rel =>
            have := hiH.out
            have := hccH.out
            exact ⟨i + 1, cc2 + 1, upd sz i T, _, _, by omega, by go_num, hO11, hFr10H.out, hsz'H.out, by omega⟩
        · have hOH2 : Hid _ := Lib.hid hO
          have hFrH3 : Hid _ := Lib.hid hFr
          have hcc12 : cc2 ≤ 12 := by have := hnH.out; omega
          have hcase : ¬ i < j ∨ (i < j ∧ ¬ i < n2) := by omega
          clear hO hFr hsz hcc hi d6 hin
          rcases hcase with hc | ⟨hc, hc'⟩
          case' inl => have hz1 : ¬ (i : Int) < (j : Int) := by omega
          case' inr => have hz1 : (i : Int) < (j : Int) := by omega
          case' inr => have hz2 : ¬ (i : Int) < (n2 : Int) := by omega
          case' inl => clear hc
          case' inr => clear hc hc'
          all_goals
            go_wp2_with fail
            clear hz1
            go_loopg [18, 4, 123, 124, 125, 126, 127, 128, 129, 130, 131, 132] j (fun g iv _ _ _ _ _ _ _ _ _ _ _ wr => ∃ k : Nat, k + g = j ∧ iv = .int .i64 (k : Int) ∧ Own w wr (TB p q 600 (frC k j sz) A0 cc2 k) L)
            case atStart => exact ⟨0, by omega, rfl, by rw [frC_zero]; exact hOH2.out⟩
            case round =>
              obtain ⟨k, hk, rfl, hO⟩ := hrel
              rename World => wz
              have d9 := cell_of (hO.loc hFrH3.out.c9) 0
              have d6 := cell_of (hO.loc hFrH3.out.c6) 0
              by_cases hkj : k < j
              · have hkz : (k : Int) < (j : Int) := by omega
                have hj6 : j ≤ 6 := by have := hnH.out; omega
                have hk61 : (k : Int) ≤ 5 := by omega
                have hAk : ∃ a, frC k j sz (k + 1) = some a := by
                  unfold frC
                  rw [if_neg (by omega), frA_some (by omega)]
                  exact ⟨_, rfl⟩
                obtain ⟨a, ha⟩ := hAk
                have cF := free6_ok (n := k + 1) hO hFrH3.out.base ha (by omega)
                rw [frC_succ, show ((k + 1 : Nat) : Int) = (k : Int) + 1 by omega] at cF
                have hkH : Hid _ := Lib.hid hk
                clear hk hO ha
                go_wp2_with (go_at_call 10; refine cF.mono ?_; rintro e w8 ⟨rfl, hO8, hs8⟩)
                go_roundg (gk - 1)
                case measure => have := hkH.out; omega
                case rel =>
                  have := hkH.out
                  exact ⟨k + 1, by omega, by go_num, hO8⟩
              · obtain rfl : k = j := by omega
                have hkz : ¬ (k : Int) < (k : Int) := by omega
                rw [frC_all] at hO
                have cB := blocks6 hO hFrH3.out.base
                rw [h0H.out] at cB
                have cB2 : Calls Tryz.prog 17 #[Dptr pb] wz (Did w wz (TB p q 600 noNodes A0 cc2 k) L (.tuple #[.int .i64 300, .int .i64 300])) := cB
                have hccH : Hid (cc2 < 1000000) := Lib.hid (by omega)
                clear cB hk hO
                go_upto_region 33 with (go_at_call 17; refine cB2.mono ?_; rintro e w9 ⟨rfl, hO9, hs9⟩)
                have d69 := cell_of (hO9.loc hFrH3.out.c6) 0
                have d79 := cell_of (hO9.loc hFrH3.out.c7) 0
                have cN := nodes6 hO9 hFrH3.out.base
                have hnl : (numsF noNodes 64).length = 0 := by decide
                have hnlH : Hid _ := Lib.hid hnl
                clear hnl
                go_wp2_with (first
                  | (go_at_call 14; refine cN.mono ?_; rintro e w14 ⟨vn, L3, rfl, hO14, hl3, hvn, hs14⟩; obtain ⟨an, cn, rfl⟩ := IntsAt.form hvn; rw [hnlH.out]; have d614 : w14.cell? ⟨b6, 0, none⟩ = some (Dptr pb) := cell_of (hO14.loc (hl3 _ _ hFrH3.out.c6)) 0)
                  | (go_at_call 9; refine (commit6 hO14 hccH.out).mono ?_; rintro e w15 ⟨rfl, hO15, hs15⟩; have d615 : w15.cell? ⟨b6, 0, none⟩ = some (Dptr pb) := cell_of (hO15.loc (hl3 _ _ hFrH3.out.c6)) 0)
                  | (go_at_call 15; refine (check6 hO15 (hFrH3.out.base.mono hl3)).mono ?_; rintro e w16 ⟨rfl, hO16, hs16⟩)
                  | (go_at_call 16; refine (lw6awake_any _).mono ?_; rintro e w17 ⟨rfl, hb17⟩))
                go_ret
                exact ⟨rfl, hO16.base.trans (hb17.mono hO16.base.size)⟩
end
end Go.Proofs.YtbnoebdpbpjbkaaGreat
