/-
  The texts In3 In4 In5 In6 In7 In8 In9 InA, one behind the other.
-/
import Derived.Test.YtjngphffgdjcfaaGreatDoorME11
import Derived.Deep.CutBlock
import Derived.Deep.LoopGhost
import Derived.Deep.RegionHeld
import Derived.BigQuiet
import Derived.Deep.QuietTactic
import Derived.Deep.AppendLies
import Derived.Deep.RegionLaw
/-
  A base's calls: a node read, written.
-/
namespace Go.Proofs.YtjngphffgdjcfaaGreatDoor
open Go.RowKit Go.Lz
section
variable {w : World} {pb p q pn pk px gb cap n : Nat} {S : WalS} {Fs : Nat → Prop} {b : Bytes}

theorem ctakenF {pm a m p q : Nat} {F : Nat → Prop} (hM : MapO w pm p a m) (h : StoreC Tryz.prog w p q S F) (hd : S.isDead = false) {i : Nat} (hi : a + i / 512 < S.size) (hin : i < m) (hn : m ≤ 8192) : Calls Tryz.prog 49 #[Dptr pm, .int .i64 (i : Int)] w fun e w' => e = .returned (.tuple #[.bool (S.bit a i), .int .i64 0]) ∧ StoreC Tryz.prog w' p q S F ∧ Chg F w w' := by
  obtain ⟨c, h⟩ := h
  refine (taken_ok hM h hd hi hin hn).mono ?_
  rintro e w' ⟨j, h1, h2, h3⟩
  exact ⟨h1, h2.wcC, h3⟩
/-- What load hands back: an error; or a new node. -/
def LoadPost (w : World) (pb p q pn pk : Nat) (S : WalS) (Fs : Nat → Prop) (n : Int) (e : Ending) (w' : World) : Prop :=
  BaseIn w' pb p q pn pk S Fs ∧ Chg Fs w w' ∧
  ((S.nodeE n ≠ 0 ∧ e = .returned (.tuple #[.pointer none, .int .i64 (S.nodeE n)])) ∨
   (S.nodeE n = 0 ∧ ∃ px gb cap, e = .returned (.tuple #[Dptr px, .int .i64 0]) ∧ NodeAt w' px gb cap n.toNat (S.nodeB n.toNat) ∧ w.heap.size ≤ px ∧ w.heap.size ≤ gb ∧ ¬ Fs px ∧ ¬ Fs gb))

/-- The first i sectors of a node. -/
def rowsB (S : WalS) (n i : Nat) : Bytes := (List.range i).flatMap fun t => S.get (16 + 4 * (n - 1) + t)
theorem rowsB_succ (S : WalS) (n i : Nat) : rowsB S n (i + 1) = rowsB S n i ++ S.get (16 + 4 * (n - 1) + i) := by
  unfold rowsB
  rw [List.range_succ, List.flatMap_append]
  simp
theorem rowsB_four (S : WalS) (n : Nat) : rowsB S n 4 = S.nodeB n := by
  rw [rowsB_succ, rowsB_succ, rowsB_succ, rowsB_succ]
  simp [rowsB, WalS.nodeB]
theorem rowsB_len {S : WalS} (h : ∀ k, (S.get k).length = 64) (n i : Nat) : (rowsB S n i).length = 64 * i := by
  induction i with
  | zero => rfl
  | succ i ih => rw [rowsB_succ, List.length_append, ih, h]; omega

theorem nodeE_out {S : WalS} {n : Int} (h : n < 1 ∨ 64 < n) : S.nodeE n = 61 := by unfold WalS.nodeE; rw [if_pos h]
theorem nodeE_in {S : WalS} {n : Nat} (h1 : 1 ≤ n) (h2 : n ≤ 64) : S.nodeE (n : Int) = if S.bit 0 (n - 1) = true then 0 else 61 := by
  unfold WalS.nodeE
  rw [if_neg (by omega), Int.toNat_natCast]

theorem ownsRow_slice {w : World} {base n size : Nat} {e : TypeId} {v : Value} {xs : List Value} (h : w.ownsRow base e size v n xs) : ∃ ad k cap, v = .slice ad k cap := by
  rcases h.2 with h2 | ⟨g, cap, cur, h2, _⟩
  · exact ⟨none, 0, 0, h2.1⟩
  · exact ⟨_, _, _, h2⟩
/-- The node's bytes, i sectors read. -/
structure Ldg (w1 wr : World) (p q : Nat) (S : WalS) (Fs : Nat → Prop) (N i : Nat) (sv : Value) : Prop where
  sto : StoreC Tryz.prog wr p q S Fs
  chg : Chg Fs w1 wr
  blk : wr.heap[w1.heap.size]? = some (.cells #[.int .i64 (N : Int), sv] 70 (0, 0))
  row : wr.ownsRow (w1.heap.size + 1) 5 1 sv (rowsB S N i).length ((rowsB S N i).map u8v)
  lt : ∀ k, Fs k → k < w1.heap.size
theorem Ldg.start {w1 : World} {p q N : Nat} {S : WalS} {Fs : Nat → Prop} (h : StoreC Tryz.prog w1 p q S Fs) : Ldg w1 (w1.alloc (.cells #[.int .i64 (N : Int), .slice none 0 0] 70)) p q S Fs N 0 (.slice none 0 0) :=
  ⟨h.chg (M := fun _ => False) ((Chg.refl _ w1).alloc _) (fun _ _ h => h), (Chg.refl _ w1).alloc _, heap_alloc_new _ _, ⟨rfl, .inl ⟨rfl, rfl⟩⟩, h.lt⟩

theorem Ldg.step {w1 wr w3 w6 : World} {p q N i : Nat} {S : WalS} {Fs : Nat → Prop} {sv v6 : Value} (h : Ldg w1 wr p q S Fs N i sv) (hs : StoreC Tryz.prog w3 p q S Fs) (hC : Chg Fs wr w3)
    (hown : w6.ownsRow (w1.heap.size + 1) 5 1 v6 ((rowsB S N i).length + (S.get (16 + 4 * (N - 1) + i)).length) ((rowsB S N i).map u8v ++ (S.get (16 + 4 * (N - 1) + i)).map u8v)) (hg : w3.grownBy w6 sv.ownBlock) :
    w6.cell? ⟨w1.heap.size, 1, none⟩ = some sv ∧ w6.frozen? ⟨w1.heap.size, 1, none⟩ = false ∧ Ldg w1 (w6.setCell ⟨w1.heap.size, 1, none⟩ v6) p q S Fs N (i + 1) v6 := by
  have hrow : ∀ k, sv.ownBlock = some k → w1.heap.size + 1 ≤ k := fun k e => (h.row.lt k e).1
  have hcg : Chg (fun k => sv.ownBlock = some k) w3 w6 := (Chg.refl _ w3).grown hg (fun k e _ => e)
  have hb3 := (hC.block _ (lt_of_heap h.blk) (fun e => Nat.lt_irrefl _ (h.lt _ e))).trans h.blk
  have hb6 := (hcg.block _ (lt_of_heap hb3) (fun e => by have := hrow _ e; omega)).trans hb3
  have hF : ∀ k, Fs k → ¬ sv.ownBlock = some k := fun k hk e => by have := hrow _ e; have := h.lt k hk; omega
  have hc6 : Chg Fs w1 w6 := (h.chg.trans hC (fun _ _ h => h)).trans hcg (fun k hk e => by have := hrow _ e; omega)
  refine ⟨cell_of hb6 1, frozen_of hb6 1, (hs.chg hcg hF).chg (M := (· = w1.heap.size)) ((Chg.refl _ w6).own 1 v6) (fun k hk e => by have := h.lt k hk; omega), hc6.setCell (fun hk => absurd hk (Nat.lt_irrefl _)) _, ?_, ?_, h.lt⟩
  · have := heap_set_same hb6 1 v6
    simpa using this
  · rw [rowsB_succ, List.map_append, List.length_append]
    exact ownsRow_chg (M := (· = w1.heap.size)) hown ((Chg.refl _ w6).own 1 v6) (fun k e hk => by have := (hown.lt k e).1; omega)

set_option maxRecDepth 100000 in
set_option maxHeartbeats 1000000 in
theorem load_any (h : BaseIn w pb p q pn pk S Fs) (n : Int) : Calls Tryz.prog 26 #[Dptr pb, .int .i64 n] w (LoadPost w pb p q pn pk S Fs n) := by
  have hb0 := h.c0
  have hb1 := h.c1
  by_cases hn1 : n < 1
  · have hE := nodeE_out (S := S) (n := n) (.inl hn1)
    go_enter Tryz.func26, Tryz.ntmps26
    go_wp2_with fail
    go_ret2
    exact ⟨h, Chg.refl _ _, .inl ⟨by rw [hE]; decide, by rw [hE]; rfl⟩⟩
  by_cases hn2 : 64 < n
  · have hE := nodeE_out (S := S) (n := n) (.inr hn2)
    go_enter Tryz.func26, Tryz.ntmps26
    go_wp2_with fail
    go_ret2
    exact ⟨h, Chg.refl _ _, .inl ⟨by rw [hE]; decide, by rw [hE]; rfl⟩⟩
  obtain ⟨N, rfl⟩ : ∃ N : Nat, n = (N : Int) := ⟨n.toNat, by omega⟩
  have hN1 : 1 ≤ N := by omega
  have hN2 : N ≤ 64 := by omega
  have hNI : (1 : Int) ≤ (N : Int) := by omega
  have hNJ : (N : Int) ≤ 64 := by omega
  have hE := nodeE_in (S := S) hN1 hN2
  have hbig := h.big
  have ct := ctakenF h.mN h.sto h.live (i := N - 1) (by omega) (by omega) (by omega)
  have eN : ((N - 1 : Nat) : Int) = (N : Int) - 1 := by omega
  rw [eN] at ct
  have hEH : Hid _ := Lib.hid hE
  clear hE eN hn1 hn2
  have hBlt := lt_of_heap h.blk
  have hNlt := lt_of_heap h.mN
  have hKlt := lt_of_heap h.mK
  have hslt := h.sto.lt
  generalize hbt : S.bit 0 (N - 1) = bt at ct hEH
  cases bt with
  | false =>
    go_enter Tryz.func26, Tryz.ntmps26
    go_wp2_with (go_at_call 49; refine ct.mono ?_; rintro e w1 ⟨rfl, hs1, hC1⟩)
    go_ret2
    exact ⟨h.step hs1 (Txn.refl S) (fun k hk => .inl hk) hC1, hC1, .inl ⟨by rw [hEH.out]; decide, by rw [hEH.out]; rfl⟩⟩
  | true =>
    go_enter Tryz.func26, Tryz.ntmps26
    go_wp2_with (go_at_call 49; refine ct.mono ?_; rintro e w1 ⟨rfl, hs1, hC1⟩)
    have hgl := hs1.get_len
    have hbi1 := h.step hs1 (Txn.refl S) (fun k hk => .inl hk) hC1
    have hsz1 := hC1.size
    have hgr := rowsB_len hgl N
    have hlt1 : ∀ k, Fs k → k < w1.heap.size := hs1.lt
    have hin : Ldg w1 (w1.alloc (.cells #[.int .i64 (N : Int), .slice none 0 0] 70)) p q S Fs N 0 (.slice none 0 0) := Ldg.start hs1
    have hpa := hbi1.chg ((Chg.refl (fun _ => False) w1).alloc (.cells #[.int .i64 (N : Int), .slice none 0 0] 70)) (fun _ _ h => h)
    have hinH : Hid _ := Lib.hid hin
    have hgrH : Hid _ := Lib.hid hgr
    have hglH : Hid _ := Lib.hid hgl
    clear hgr hgl
    generalize w1.alloc (.cells #[.int .i64 (N : Int), .slice none 0 0] 70) = w2 at hinH ⊢
    go_loopg [36, 9, 10, 11, 37, 38, 39, 40, 41, 42, 43, 44, 45, 46, 47, 48, 49, 50, 51, 52, 53, 54, 55, 56, 57, 58, 59, 60, 61, 62, 63, 64, 65] 4 (fun g iv _ _ _ _ _ _ _ _ _ _ _ _ _ _ _ _ _ _ _ _ _ _ _ _ _ _ _ _ _ _ _ _ wr => ∃ (i : Nat) (sv : Value), i + g = 4 ∧ iv = .int .i64 (i : Int) ∧ Ldg w1 wr p q S Fs N i sv)
    case atStart => exact ⟨0, _, rfl, rfl, hinH.out⟩
    case round =>
      obtain ⟨i, sv, hi, rfl, hL⟩ := hrel
      rename World => wr
      by_cases hlt : i < 4
      · have hiz : (i : Int) < 4 := by omega
        have hg1 : wr.cell? ⟨pb, 0, none⟩ = some (Dptr p) := (hL.chg.cell (p := ⟨pb, 0, none⟩) (lt_of_heap hbi1.blk) hbi1.nb).trans hbi1.c0
        have hlenH : Hid _ := Lib.hid (hgrH.out i)
        have cR := cread_ok hL.sto (i := 16 + 4 * ((N : Int) - 1) + (i : Int)) (k := 16 + 4 * (N - 1) + i) (by omega) h.live (by omega)
        have hgkH : Hid _ := Lib.hid (hglH.out (16 + 4 * (N - 1) + i))
        obtain ⟨i0, hi0, hz0, hz1, hz2⟩ := info_parts info_u8
        have hLH : Hid _ := Lib.hid hL
        clear hL
        go_wp2_with (first
          | (go_at_call 32; refine cR.mono ?_; rintro e w3 ⟨v, g, rfl, hv, hgn, hs3, hC3⟩; obtain ⟨g', cap, cur, rfl, hg', hcells, hcl, hcm, hcs, htk⟩ := hv; have hg' : g' = g := hg'; subst hg'; have hpx3 := (hC3.block _ (lt_of_heap hLH.out.blk) (fun e => Nat.lt_irrefl _ (hLH.out.lt _ e))).trans hLH.out.blk; have hpx31 := cell_of hpx3 1)
          | (at_builtin; refine wpList_append_own_at _ rfl _ _ 23 rfl (w1.heap.size + 1) 5 i0 (.int .u8 0) 1 1 Tryz.underlying23 hi0 hz0 hz1 hz2 rfl (by decide) sv _ _ rfl (ownsRow_chg hLH.out.row hC3 (fun k e hk => by have := (hLH.out.row.lt k e).1; have := hLH.out.lt k hk; omega)) ⟨g', 0, none⟩ _ cap ((S.get (16 + 4 * (N - 1) + i)).map u8v) rfl (by simp) (Dat.news hcells htk) (oneCells _) (by rw [hlenH.out, hgkH.out]; unfold maxLen; omega) (by rw [hlenH.out, hgkH.out]; omega) (by have := hLH.out.chg.size; have := hC3.size; have := lt_of_heap hLH.out.blk; omega) ?_; intro v6 w6 hown6 hgrow6 hnil6 hat6; obtain ⟨hc6, hf6, hL6⟩ := hLH.out.step hs3 hC3 hown6 hgrow6; obtain ⟨ad6, k6, cap6, rfl⟩ := ownsRow_slice hown6))
        go_roundg (gk - 1)
        case measure => omega
        case rel => exact ⟨i + 1, _, by omega, by go_num, hL6⟩
      · have hiz : ¬ (i : Int) < 4 := by omega
        have hi4 : i = 4 := by omega
        subst hi4
        go_wp2_with fail
        go_ret2
        have h4 := hL.row
        have e4 : (rowsB S N 4).length = 256 := hgrH.out 4
        have hfb : ∀ k, Fs k → ¬ w1.heap.size + 1 ≤ k := fun k hk e => by have := hL.lt k hk; omega
        rcases h4.2 with ⟨_, h0⟩ | ⟨g, cap, cur, rfl, hgb, hcl, hlc, hcm, hcs, htk⟩
        · rw [h0] at e4; cases e4
        · refine ⟨hbi1.step hL.sto (Txn.refl S) (fun k hk => .inl hk) hL.chg, hC1.trans hL.chg (fun _ _ h => h), .inr ⟨by rw [hEH.out]; rfl, w1.heap.size, g, cap, rfl, ⟨?_, ?_, ?_⟩, hsz1, by omega, fun hk => Nat.lt_irrefl _ (hL.lt _ hk), fun hk => hfb _ hk hgb⟩⟩
          · have := hL.blk
            rw [e4] at this
            exact this
          · have hcs1 : cur.size = cap := by omega
            have htk1 : cur.toList.take 256 = (rowsB S N 4).map u8v := by rw [e4] at htk; exact htk
            rw [e4] at hlc
            rw [rowsB_four] at htk1 e4
            refine ⟨g, cap, cur, ?_, rfl, hcl, ?_, hcm, by omega, ?_⟩
            · show _ = Value.slice _ (S.nodeB N).length cap
              rw [e4]
            · show (S.nodeB N).length ≤ cap
              omega
            · show cur.toList.take (S.nodeB N).length = _
              rw [e4]
              exact htk1
          · show (S.nodeB N).length = 256
            rw [← rowsB_four]
            exact e4
end
end Go.Proofs.YtjngphffgdjcfaaGreatDoor
/-
  A base's calls: a node written; blocks taken, found, linked.
-/
namespace Go.Proofs.YtjngphffgdjcfaaGreatDoor
open Go.RowKit Go.Lz
section
variable {w w0 w' w2 : World} {pb p q pn pk px gb cap n : Nat} {S S' S2 : WalS} {Fs Fs' : Nat → Prop} {b : Bytes}

/-- Since w0 the base is S, the store's footprint grew by new blocks alone, nothing else has turned. -/
def BSt (w0 w : World) (pb p q pn pk : Nat) (S : WalS) (Fs : Nat → Prop) : Prop := ∃ Fs', BaseIn w pb p q pn pk S Fs' ∧ (∀ k, Fs' k → Fs k ∨ w0.heap.size ≤ k) ∧ Chg Fs w0 w
theorem BaseIn.st (h : BaseIn w pb p q pn pk S Fs) : BSt w w pb p q pn pk S Fs := ⟨Fs, h, fun _ h => .inl h, Chg.refl _ _⟩
theorem BSt.did (h : BSt w w' pb p q pn pk S Fs) {v : Value} {e : Ending} (he : e = .returned v) : BDid w pb p q pn pk S Fs v e w' := ⟨he, (let ⟨F, a, b, _⟩ := h; ⟨F, a, b⟩), (let ⟨_, _, _, c⟩ := h; c)⟩
theorem BSt.below (h : BSt w0 w pb p q pn pk S Fs) (hb : Below w.heap.size w w') : BSt w0 w' pb p q pn pk S Fs :=
  let ⟨F, a, b, c⟩ := h
  ⟨F, a.below hb, b, c.below hb⟩
/-- A block of the call's own, behind w0, or one that the store has not, is written. -/
theorem BSt.chg {M : Nat → Prop} (h : BSt w0 w pb p q pn pk S Fs) (hc : Chg M w w') (hM : ∀ F', BaseIn w pb p q pn pk S F' → (∀ k, F' k → Fs k ∨ w0.heap.size ≤ k) → ∀ k, F' k ∨ k = pb ∨ k = pn ∨ k = pk → ¬ M k) (hw : ∀ k, k < w0.heap.size → M k → Fs k) : BSt w0 w' pb p q pn pk S Fs :=
  let ⟨F, a, b, c⟩ := h
  ⟨F, a.chg hc (hM F a b), b, c.trans hc hw⟩
theorem BSt.size (h : BSt w0 w pb p q pn pk S Fs) : w0.heap.size ≤ w.heap.size := let ⟨_, _, _, c⟩ := h; c.size
theorem BSt.node (h : BSt w0 w pb p q pn pk S Fs) (hx : NodeAt w0 px gb cap n b) (h1 : ¬ Fs px) (h2 : ¬ Fs gb) : NodeAt w px gb cap n b := let ⟨_, _, _, c⟩ := h; hx.chg c h1 h2
theorem BSt.mono (h : BSt w0 w pb p q pn pk S Fs) (hF : ∀ k, Fs k → Fs' k ∨ w0.heap.size ≤ k) : BSt w0 w pb p q pn pk S Fs' :=
  let ⟨F, a, b, c⟩ := h
  ⟨F, a, fun k hk => (b k hk).elim (hF k) .inr, c.mono fun j hj hk => (hF j hk).elim id (fun h => by omega)⟩
/-- Two spans, one behind the other. -/
theorem BSt.trans (h : BSt w0 w pb p q pn pk S Fs) (hk : ∀ F', BaseIn w pb p q pn pk S F' → (∀ k, F' k → Fs k ∨ w0.heap.size ≤ k) → BSt w w2 pb p q pn pk S2 F') : BSt w0 w2 pb p q pn pk S2 Fs := by
  obtain ⟨F, a, b, c⟩ := h
  obtain ⟨F2, a2, b2, c2⟩ := hk F a b
  exact ⟨F2, a2, fun k hk => (b2 k hk).elim (b k) (fun h => .inr (Nat.le_trans c.size h)), c.trans c2 (fun k hk h => (b k h).elim id (fun h => by omega))⟩
theorem BSt.of_step {w3 w4 : World} {S1 : WalS} {F1 : Nat → Prop} (hb : BaseIn w3 pb p q pn pk S1 F1) (hF : ∀ k, F1 k → Fs k ∨ w0.heap.size ≤ k) (hC : Chg Fs w0 w3) (hs : StoreC Tryz.prog w4 p q S2 (ext F1 w3 w4)) (ht : Txn S1 S2) (hC4 : Chg F1 w3 w4) : BSt w0 w4 pb p q pn pk S2 Fs :=
  ⟨_, hb.step hs ht (fun k hk => hk.imp id (·.1)) hC4, fun k hk => hk.elim (hF k) (fun h => .inr (Nat.le_trans hC.size h.1)), hC.trans hC4 (fun k hk h => (hF k h).elim id (fun h => by omega))⟩
/-- A step of the store. -/
theorem BSt.step {Q : Ending → World → Prop} {f : FuncId} {args : Array Value} (h : BSt w0 w pb p q pn pk S Fs) {r : WalS} {v : Value} (hc : ∀ F', BaseIn w pb p q pn pk S F' → Calls Tryz.prog f args w (BDid w pb p q pn pk r F' v)) (hQ : ∀ e w', e = .returned v → BSt w0 w' pb p q pn pk r Fs → (∀ k o, k < w.heap.size → (∀ F', BaseIn w pb p q pn pk S F' → (∀ k, F' k → Fs k ∨ w0.heap.size ≤ k) → ¬ F' k) → w.heap[k]? = some o → w'.heap[k]? = some o) → Q e w') : Calls Tryz.prog f args w Q := by
  obtain ⟨F, a, b, c⟩ := h
  refine (hc F a).mono ?_
  rintro e w' ⟨h1, ⟨F2, a2, b2⟩, c2⟩
  refine hQ e w' h1 ⟨F2, a2, fun k hk => (b2 k hk).elim (b k) (fun h => .inr (Nat.le_trans c.size h)), c.trans c2 (fun k hk h => (b k h).elim id (fun h => by omega))⟩ fun k o hk hn ho => (c2.block k hk (hn F a b)).trans ho
end
section
variable {w : World} {pb p q pn pk px gb cap n : Nat} {S : WalS} {Fs : Nat → Prop} {b : Bytes}
theorem Src.sub {t : TypeId} {w : World} {F : Nat → Prop} {g off m cap : Nat} {b : Bytes} (h : Src t w F (.slice (some ⟨g, off, none⟩) m cap) b) {k l : Nat} (hk : k + l ≤ b.length) : Src t w F (.slice (some ⟨g, off + k, none⟩) l (cap - k)) ((b.drop k).take l) := by
  obtain ⟨g', off', cap', cur, fr, h1, h2, h3, h4, h5, h6⟩ := h
  injection h1 with e1 e2 e3
  injection e1 with e1
  injection e1 with ea eb
  subst ea eb e3
  have hl : ((b.drop k).take l).length = l := by rw [List.length_take, List.length_drop]; omega
  refine ⟨g, off + k, cap - k, cur, fr, by rw [hl], h2, h3, by omega, by omega, fun j u hj => ?_⟩
  rw [Nat.add_assoc]
  apply h6 (k + j) u
  rw [List.getElem?_map] at hj ⊢
  rw [List.getElem?_take] at hj
  split at hj
  · rwa [List.getElem?_drop] at hj
  · cases hj
theorem run_string_src {F : Nat → Prop} {w : World} {v : Value} {b : Bytes} (h : Src 5 w F v b) : (convert 23 9 v).run Tryz.prog w = .ok (.string ⟨b.toArray⟩) w := by
  obtain ⟨g, off, cap, cur, fr, rfl, h2, h3, h4, h5, h6⟩ := h
  refine run_convert_bytes_back (P := Tryz.prog) w 23 9 5 ⟨g, off, none⟩ cap b Tryz.underlying23 Tryz.underlying5 Tryz.underlying9 (fun i hi => ?_)
  rw [show (⟨g, off, none⟩ : Addr).add i = ⟨g, off + i, none⟩ from by unfold Addr.add; split <;> simp_all]
  exact h6 i _ (by rw [List.getElem?_map, List.getElem?_eq_getElem hi]; rfl)

theorem saveF_succ (n : Nat) (b : Bytes) (d : Nat) (S : WalS) : WalS.saveF n b (d + 1) S = WalS.okS (S.saveP n b (3 - d)) (WalS.saveF n b d) := rfl

set_option maxRecDepth 100000 in
set_option maxHeartbeats 1000000 in
theorem save_any (h : BaseIn w pb p q pn pk S Fs) (hx : NodeAt w px gb cap n b) (hpx : ¬ Fs px) (hgb : ¬ Fs gb) (hn1 : 1 ≤ n) (hn2 : n ≤ 64) : Calls Tryz.prog 25 #[Dptr pb, Dptr px] w (BDid w pb p q pn pk (S.save n b).2 Fs (.int .i64 (S.save n b).1)) := by
  have hnI : (1 : Int) ≤ (n : Int) := by omega
  have hnJ : (n : Int) ≤ 64 := by omega
  have hcap := hx.raw.1
  have hcapm := hx.raw.2.1
  have hbig := h.big
  have hst := h.st
  have hstH : Hid _ := Lib.hid hst
  have hT0 := Txn.refl S
  have hTH : Hid _ := Lib.hid hT0
  clear hst hT0
  go_enter Tryz.func25, Tryz.ntmps25
  go_wp2_with fail
  go_loopg [11, 5, 6, 7, 8, 9, 10, 12, 13, 14, 15, 16, 17, 18, 19, 20, 21, 22, 23, 24, 25, 26, 27, 28, 29, 30, 31, 32, 33, 34, 35, 36, 37, 38, 39, 40, 41, 42, 43, 44, 45, 46, 47, 48, 49, 50, 51, 52, 53, 54, 55, 56, 57, 58, 59, 60] 4 (fun g iv _ _ _ _ _ _ _ _ _ _ _ _ _ _ _ _ _ _ _ _ _ _ _ _ _ _ _ _ _ _ _ _ _ _ _ _ _ _ _ _ _ _ _ _ _ _ _ _ _ _ _ _ _ _ _ wr => ∃ (i : Nat) (S1 : WalS), i + g = 4 ∧ iv = .int .i64 (i : Int) ∧ BSt w wr pb p q pn pk S1 Fs ∧ WalS.saveF n b g S1 = S.save n b ∧ Txn S S1)
  case atStart => exact ⟨0, S, rfl, rfl, hstH.out, rfl, hTH.out⟩
  case round =>
    obtain ⟨i, S1, hi, rfl, hB, hsv, hT⟩ := hrel
    rename World => wr
    have hsvH : Hid _ := Lib.hid hsv
    clear hsv
    by_cases hlt : i < 4
    · have hiz : (i : Int) < 4 := by omega
      obtain ⟨g, rfl⟩ : ∃ g, gk = g + 1 := ⟨gk - 1, by omega⟩
      have hbk : ∃ F1, BaseIn wr pb p q pn pk S1 F1 ∧ (∀ k, F1 k → Fs k ∨ w.heap.size ≤ k) ∧ Chg Fs w wr := hB
      obtain ⟨F1, hb1, hF1, hC1⟩ := hbk
      have hx1 := hB.node hx hpx hgb
      have hp1 : ¬ F1 px := fun hk => (hF1 _ hk).elim hpx (fun h => by have := lt_of_heap hx.blk; omega)
      have hg1 : ¬ F1 gb := fun hk => (hF1 _ hk).elim hgb (fun h => by have := hx.raw.2.2.1; omega)
      have cb0 := hb1.c0
      have cx0 := hx1.c0
      have cx1 := hx1.c1
      have hsz1 := hT.size
      have cR := cread_ok hb1.sto (i := 16 + 4 * ((n : Int) - 1) + (i : Int)) (k := 16 + 4 * (n - 1) + i) (by omega) hb1.live (by omega)
      have hin : (64 * i : Int) ≤ 256 := by omega
      have hcp1 : (i : Int) * 64 ≤ (cap : Int) := by omega
      have hcp2 : ((i : Int) + 1) * 64 ≤ (cap : Int) := by omega
      have hgl := hb1.sto.get_len
      have hstep : WalS.okS (S1.saveP n b i) (WalS.saveF n b g) = S.save n b := by rw [← hsvH.out, saveF_succ, show 3 - g = i by omega]
      have hstepH : Hid _ := Lib.hid hstep
      have hglH : Hid _ := Lib.hid hgl
      clear hstep hgl
      go_upto_region 9 with (go_at_call 32; refine cR.mono ?_; rintro e w3 ⟨v, g', rfl, hv, hgn, hs3, hC3⟩; have hx3 := hx1.chg hC3 hp1 hg1; have cx3 := hx3.c1; have hb3 := hb1.step hs3 (Txn.refl S1) (fun k hk => .inl hk) hC3; have cb3 := hb3.c0)
      have hpc := hx3.drop (k := 0) (by omega)
      have hsub0 := Src.sub hpc (k := i * 64) (l := 64) (by rw [List.drop_zero, hx.len]; omega)
      have hsub : Src 5 w3 (· = gb) (.slice (some ⟨gb, i * 64, none⟩) ((i + 1) * 64 - i * 64) (cap - i * 64)) (WalS.pieceN b i) := by
        have e1 : (i + 1) * 64 - i * 64 = 64 := by omega
        rw [List.drop_zero, Nat.zero_add, Nat.sub_zero] at hsub0
        rw [e1, WalS.pieceN, Nat.mul_comm 64 i]
        exact hsub0
      have q1 := run_string_src hsub
      obtain ⟨g2, hg2, hvb⟩ := hv.buf
      have q2 := run_string hvb
      have cW := cwrite hb3.sto hsub (16 + 4 * ((n : Int) - 1) + (i : Int))
      have hB3 : BSt w w3 pb p q pn pk S1 Fs := ⟨F1, hb3, hF1, hC1.trans hC3 (fun k hk h => (hF1 k h).elim id (fun h => by omega))⟩
      have hB3H : Hid _ := Lib.hid hB3
      have hC13H : Hid (Chg Fs w w3) := Lib.hid (hC1.trans hC3 (fun k hk h => (hF1 k h).elim id (fun h => by omega)))
      have hb3H : Hid _ := Lib.hid hb3
      have hF1H : Hid _ := Lib.hid hF1
      have hTH : Hid _ := Lib.hid hT
      have e16 : (16 + 4 * ((n : Int) - 1) + (i : Int)) = ((16 + 4 * (n - 1) + i : Nat) : Int) := by omega
      have e16H : Hid _ := Lib.hid e16
      clear hsub0 hpc hv hvb hg2 hx3 hs3 hC3 hB3 hb3 hF1 hT hB hb1 hC1 cb0 cx0 cx1 cR hx1 e16
      by_cases hpe : WalS.pieceN b i = S1.get (16 + 4 * (n - 1) + i)
      · have hst2 := hstepH.out
        rw [show S1.saveP n b i = (0, S1) by unfold WalS.saveP; rw [if_pos hpe]] at hst2
        have hst2H : Hid _ := Lib.hid hst2
        rw [hpe] at q1
        clear hst2 hpe cW hsub
        generalize S1.get (16 + 4 * (n - 1) + i) = bb at q1 q2
        go_wp2_with fail
        go_roundg g
        case measure => omega
        case rel => exact ⟨i + 1, S1, by omega, by go_num, hB3H.out, hst2H.out, hTH.out⟩
      · have hst2 := hstepH.out
        rw [show S1.saveP n b i = S1.write ((16 + 4 * (n - 1) + i : Nat) : Int) (WalS.pieceN b i) by unfold WalS.saveP; rw [if_neg hpe]] at hst2
        rw [e16H.out] at cW
        have hTw := Txn.write S1 ((16 + 4 * (n - 1) + i : Nat) : Int) (WalS.pieceN b i)
        rw [← e16H.out] at cW
        rw [← e16H.out] at hst2 hTw
        generalize S1.write (16 + 4 * ((n : Int) - 1) + (i : Int)) (WalS.pieceN b i) = r at hst2 cW hTw
        have hne := beq_no hpe
        clear hpe
        have hst2H : Hid _ := Lib.hid hst2
        have hTwH : Hid _ := Lib.hid hTw
        clear hst2 hTw hsub
        generalize S1.get (16 + 4 * (n - 1) + i) = bb at q1 q2 hne
        generalize WalS.pieceN b i = pp at q1 q2 hne
        obtain ⟨r1, r2⟩ := r
        by_cases hr0 : r1 = 0
        · subst hr0
          go_wp2_with (go_at_call 33; refine cW.mono ?_; rintro e w4 ⟨rfl, hs4, hC4⟩)
          go_roundg g
          case measure => omega
          case rel => exact ⟨i + 1, r2, by omega, by go_num, BSt.of_step hb3H.out hF1H.out hC13H.out hs4 hTwH.out hC4, hst2H.out, hTH.out.trans hTwH.out⟩
        · have hr1 : (r1 != 0) = true := by simpa using hr0
          go_wp2_with (go_at_call 33; refine cW.mono ?_; rintro e w4 ⟨rfl, hs4, hC4⟩)
          go_ret
          have hst3 := hst2H.out
          rw [WalS.okS, if_neg hr0] at hst3
          rw [← hst3]
          exact (BSt.of_step hb3H.out hF1H.out hC13H.out hs4 hTwH.out hC4).did rfl
    · have hiz : ¬ (i : Int) < 4 := by omega
      obtain rfl : gk = 0 := by omega
      go_wp2_with fail
      go_ret
      have := hsvH.out
      rw [← this]
      exact hB.did rfl
end
end Go.Proofs.YtjngphffgdjcfaaGreatDoor
/-
  A base's calls: blocks found, taken, linked; how many are free.
-/
namespace Go.Proofs.YtjngphffgdjcfaaGreatDoor
open Go.RowKit Go.Lz
section
variable {w : World} {pb p q pn pk px gb cap n : Nat} {S : WalS} {Fs : Nat → Prop} {b : Bytes}
theorem placeA_le {i : Nat} : placeA i ≤ 202 ∧ (placeL i ≠ 0 → placeA i ≤ 62) := by
  unfold placeA placeL
  split <;> constructor <;> intros <;> omega
theorem placeL_le {i : Nat} (hi : i < 864) : placeL i ≤ 254 := by
  unfold placeL
  split <;> omega
theorem Buf.two {w : World} {g : Nat} {v : Value} {b : Bytes} (h : Buf 5 w g v b) {k : Nat} (hk : k + 2 ≤ b.length) : ∃ m cap, v = .slice (some ⟨g, 0, none⟩) m cap ∧ k + 2 ≤ m ∧ m ≤ cap ∧ cap ≤ maxLen ∧ Calls Tryz.prog 47 #[.slice (some ⟨g, k, none⟩) (m - k) (cap - k)] w fun e w' => e = .returned (.int .i64 (twoN b k : Int)) ∧ Below w.heap.size w w' := by
  have hs := h.src
  obtain ⟨cap, cur, fr, rfl, h1, h2, h3, h4, h5, h6⟩ := h
  refine ⟨_, cap, rfl, by omega, h2, h3, ?_⟩
  have := Src.sub hs (k := k) (l := b.length - k) (by omega)
  rw [Nat.zero_add] at this
  have h2 := two_any this (by rw [List.length_take, List.length_drop]; omega)
  rw [List.take_of_length_le (by rw [List.length_drop]; exact Nat.le_refl _), drop_twoN] at h2
  exact h2

set_option maxRecDepth 100000 in
set_option maxHeartbeats 1000000 in
theorem block_any (h : BaseIn w pb p q pn pk S Fs) (hx : NodeAt w px gb cap n b) {i : Nat} (hi : i < 864) : Calls Tryz.prog 48 #[Dptr pb, Dptr px, .int .i64 (i : Int)] w (BDid w pb p q pn pk S Fs (.tuple #[.int .i64 ((S.block b i).2 : Int), .int .i64 (S.block b i).1])) := by
  have hA := (placeA_le (i := i)).1
  have hA2 := (placeA_le (i := i)).2
  have hL := placeL_le hi
  have cP := place_any w (i := i) (by omega)
  have cb0 := h.c0
  have cx1 := hx.c1
  have hcap := hx.raw.1
  have hcapm := hx.raw.2.1
  have hst := h.st
  unfold WalS.block
  generalize placeA i = a at *
  generalize placeL i = l at *
  by_cases h0 : l = 0
  · subst h0
    have cT := ntwo hx (k := a) (by omega)
    rw [if_pos rfl]
    go_enter Tryz.func48, Tryz.ntmps48
    go_wp2_with (first
      | (go_at_call 46; refine cP.mono ?_; rintro e w3 ⟨rfl, rfl⟩)
      | (go_at_call 47; refine cT.mono ?_; rintro e w4 ⟨rfl, hb4⟩))
    go_ret2
    exact (hst.below hb4).did rfl
  · have hA2 := hA2 h0
    rw [if_neg h0]
    have hlz : (0 : Int) < (l : Int) := by omega
    have cT := ntwo hx (k := l) (by omega)
    have hk16 := twoN_lt b l
    unfold WalS.listed
    by_cases hk0 : twoN b l = 0
    · rw [hk0] at cT
      rw [if_pos hk0]
      go_enter Tryz.func48, Tryz.ntmps48
      go_wp2_with (first
        | (go_at_call 46; refine cP.mono ?_; rintro e w3 ⟨rfl, rfl⟩)
        | (go_at_call 47; refine cT.mono ?_; rintro e w4 ⟨rfl, hb4⟩))
      go_ret2
      exact (hst.below hb4).did rfl
    · rw [if_neg hk0]
      have hkz : ((twoN b l : Int) == 0) = false := by simpa using hk0
      generalize twoN b l = k at *
      have hbelow : ∀ w4, Below w.heap.size w w4 → w4.cell? ⟨pb, 0, none⟩ = some (Dptr p) := fun w4 hb => (h.below hb).c0
      by_cases hout : S.size ≤ 299 + k
      · rw [if_pos hout]
        have cR : ∀ w4, Below w.heap.size w w4 → Calls Tryz.prog 32 #[Dptr p, .int .i64 (300 + (k : Int) - 1)] w4 fun e w' => e = .returned (.tuple #[.slice none 0 0, .int .i64 1]) ∧ w4 = w' := fun w4 hb => cread_out (h.below hb).sto (.inr (by omega)) h.live
        go_enter Tryz.func48, Tryz.ntmps48
        go_wp2_with (first
          | (go_at_call 46; refine cP.mono ?_; rintro e w3 ⟨rfl, rfl⟩)
          | (go_at_call 47; refine cT.mono ?_; rintro e w4 ⟨rfl, hb4⟩; have cb4 := hbelow _ hb4)
          | (go_at_call 32; refine (cR _ hb4).mono ?_; rintro e w5 ⟨rfl, rfl⟩))
        go_ret2
        exact (hst.below hb4).did rfl
      · rw [if_neg hout]
        have cR : ∀ w4, Below w.heap.size w w4 → Calls Tryz.prog 32 #[Dptr p, .int .i64 (300 + (k : Int) - 1)] w4 (CReadOk w4 p q S Fs (S.get (299 + k))) := fun w4 hb => cread_ok (h.below hb).sto (by omega) h.live (by omega)
        have hgl := h.sto.get_len (299 + k)
        have hglH : Hid _ := Lib.hid hgl
        clear hgl
        generalize S.get (299 + k) = bb at *
        go_enter Tryz.func48, Tryz.ntmps48
        go_upto_region 11 with (first
          | (go_at_call 46; refine cP.mono ?_; rintro e w3 ⟨rfl, rfl⟩)
          | (go_at_call 47; refine cT.mono ?_; rintro e w4 ⟨rfl, hb4⟩; have cb4 := hbelow _ hb4)
          | (go_at_call 32; refine (cR _ hb4).mono ?_; rintro e w5 ⟨v, g5, rfl, hv5, hg5, hs5, hC5⟩; obtain ⟨g6, hg6, hv6⟩ := hv5.buf; have hg6 : g6 = g5 := hg6; subst hg6; obtain ⟨m6, cap6, rfl, hm6, hmc6, hcp6, cT5⟩ := Buf.two hv6 (k := a) (by rw [hglH.out]; omega); have hca6 : ¬ cap6 = a := by omega))
        go_wp2_with (go_at_call 47; refine cT5.mono ?_; rintro e w6 ⟨rfl, hb6⟩)
        go_ret2
        exact (BSt.below ⟨Fs, (h.below hb4).step hs5 (Txn.refl S) (fun k hk => .inl hk) hC5, fun _ h => .inl h, (Chg.of_below hb4).trans hC5 (fun _ _ h => h)⟩ hb6).did rfl
theorem takeI_le (S : WalS) (a m : Nat) : (S.takeI a m).2.1 ≤ m := by
  unfold WalS.takeI
  split
  · exact Nat.zero_le _
  · rename_i i hi
    have := List.mem_of_find?_eq_some hi
    have : i < m := by simpa using this
    split
    · exact Nat.le_of_lt this
    · exact Nat.zero_le _
theorem made64 (w : World) : Dat 5 (w.alloc (.cells cells64 5)) (· = w.heap.size) (.slice (some ⟨w.heap.size, 0, none⟩) 64 64) zero64 :=
  ⟨w.heap.size, 64, cells64, rfl, rfl, heap_alloc_new w _, by decide, by decide, by rw [cells64_size]; exact Nat.le_refl _, by rw [← cells64_eq]; exact List.take_of_length_le (by rw [Array.length_toList, cells64_size]; decide)⟩
set_option maxRecDepth 100000 in
set_option maxHeartbeats 1000000 in
theorem take_any (h : BaseIn w pb p q pn pk S Fs) : Calls Tryz.prog 63 #[Dptr pb] w (BDid w pb p q pn pk S.take.2.2 Fs (.tuple #[.int .i64 (S.take.2.1 : Int), .int .i64 S.take.1])) := by
  have cb2 := h.c2
  have hbig := h.big
  have hsz := h.size_le
  have cT := ctake h.mK h.nk h.sto h.live (by unfold WalS.allB; omega) (by unfold WalS.allB sectorsOf; omega)
  have ht1 := Txn.takeI S 1 S.allB
  have hkb := takeI_le S 1 S.allB
  have hab : S.allB ≤ 8000 := by unfold WalS.allB; omega
  have hst := h.st
  unfold WalS.take
  generalize S.takeI 1 S.allB = r at *
  obtain ⟨r1, k, S1⟩ := r
  dsimp only at *
  by_cases hr : r1 = 0
  · subst hr
    rw [if_pos rfl]
    go_enter Tryz.func63, Tryz.ntmps63
    go_upto_region 4 with (go_at_call 23; refine cT.mono ?_; rintro e w3 ⟨rfl, hs3, hC3⟩)
    have hb3 := h.step hs3 ht1 (fun k hk => hk.imp id (·.1)) hC3
    have cb30 := hb3.c0
    have hmk : ∀ W : World, (Instr.makeSlice 23 (.int .i64 64) (.int .i64 64)).run Tryz.prog W = .ok (.slice (some ⟨W.heap.size, 0, none⟩) 64 64) (W.alloc (.cells cells64 5)) := fun _ => by kernel_rfl
    have hC3H : Hid _ := Lib.hid hC3
    have hb3H : Hid _ := Lib.hid hb3
    have hcz : (w3.alloc (.cells cells64 5)).cell? ⟨pb, 0, none⟩ = some (Dptr p) := (World.cell?_alloc_lt _ _ _ (lt_of_heap hb3.blk)).trans cb30
    clear hs3 hC3 hb3 hst ht1 cT
    have hw1 : Hid (IntKind.i64.wrap (300 + (k : Int)) = ((300 + k : Nat) : Int)) := Lib.hid (by rw [IntKind.wrap_i64]; omega)
    have hw2 : Hid (IntKind.i64.wrap ((k : Int) + 1) = ((k + 1 : Nat) : Int)) := Lib.hid (by rw [IntKind.wrap_i64]; omega)
    have hC5 : Chg (fun _ => False) w3 (w3.alloc (.cells cells64 5)).drew := ((Chg.refl _ w3).alloc _).drew
    have hb5 := hb3H.out.chg hC5 (fun _ _ h => h)
    have hb5H : Hid _ := Lib.hid hb5
    have hC5H : Hid _ := Lib.hid hC5
    clear hC5 hb5
    go_region_held (fun W => W.cell? ⟨pb, 0, none⟩ = some (Dptr p)) (first | exact cb30 | exact hcz | exact cb4) (first | (go_at_call 33; rw [hw1.out]; refine (cwrite hb5H.out.sto (G := (· = w3.heap.size)) (made64 w3.drew).src _).mono ?_; rintro e w4 ⟨rfl, hs4, hC4⟩; have hb4 := hb5H.out.step hs4 (Txn.write S1 _ zero64) (fun k hk => hk.imp id (·.1)) hC4; have cb4 := hb4.c0))
    go_wp2_with fail
    go_ret2
    rw [hw2.out]
    exact (BSt.of_step (Fs := Fs) hb5H.out (fun j hj => hj.imp id (·.1)) (hC3H.out.trans hC5H.out (fun _ _ h => h.elim)) hs4 (Txn.write S1 _ zero64) hC4).did rfl
  · have hr1 : (r1 != 0) = true := by simpa using hr
    rw [if_neg hr]
    go_enter Tryz.func63, Tryz.ntmps63
    go_wp2_with (go_at_call 23; refine cT.mono ?_; rintro e w3 ⟨rfl, hs3, hC3⟩)
    go_ret2
    exact (BSt.of_step h (fun k hk => .inl hk) (Chg.refl _ _) hs3 ht1 hC3).did rfl
end
end Go.Proofs.YtjngphffgdjcfaaGreatDoor
/-
  A base's calls: a block's number laid into a node; how many blocks are free.
-/
namespace Go.Proofs.YtjngphffgdjcfaaGreatDoor
open Go.RowKit Go.Lz
section
variable {w w0 w1 w' : World} {pb p q pn pk px gb cap n : Nat} {S S' : WalS} {Fs : Nat → Prop} {b b' : Bytes}
/-- Since w0 the base is S, the node's bytes are b; nothing else has turned. -/
structure NSt (w0 w : World) (pb p q pn pk px gb cap n : Nat) (S : WalS) (b : Bytes) (Fs : Nat → Prop) : Prop where
  st : ∃ Fs', BaseIn w pb p q pn pk S Fs' ∧ (∀ k, Fs' k → Fs k ∨ w0.heap.size ≤ k) ∧ ¬ Fs' px ∧ ¬ Fs' gb
  node : NodeAt w px gb cap n b
  chg : Chg (fun k => Fs k ∨ k = gb) w0 w
/-- The call hands back v; the base is S, the node's bytes are b. -/
def NBDid (w : World) (pb p q pn pk px gb cap n : Nat) (S : WalS) (b : Bytes) (Fs : Nat → Prop) (v : Value) (e : Ending) (w' : World) : Prop := e = .returned v ∧ NSt w w' pb p q pn pk px gb cap n S b Fs
theorem BaseIn.nst (h : BaseIn w pb p q pn pk S Fs) (hx : NodeAt w px gb cap n b) (h1 : ¬ Fs px) (h2 : ¬ Fs gb) : NSt w w pb p q pn pk px gb cap n S b Fs := ⟨⟨Fs, h, fun _ h => .inl h, h1, h2⟩, hx, Chg.refl _ _⟩
theorem NodeAt.apart (h : NodeAt w px gb cap n b) (hB : BaseIn w pb p q pn pk S Fs) : pb ≠ gb ∧ pn ≠ gb ∧ pk ≠ gb := by
  obtain ⟨g2, cap2, cur, e, hF, h1, _⟩ := h.dat
  have hF : g2 = gb := hF
  subst hF
  exact ⟨ne_of_elem hB.blk h1 (by decide), ne_of_elem hB.mN h1 (by decide), ne_of_elem hB.mK h1 (by decide)⟩
/-- A call on the base. -/
theorem NSt.base {f : FuncId} {args : Array Value} {v : Value} {Q : Ending → World → Prop} (h : NSt w0 w pb p q pn pk px gb cap n S b Fs) (hc : ∀ F', BaseIn w pb p q pn pk S F' → ¬ F' px → ¬ F' gb → Calls Tryz.prog f args w (BDid w pb p q pn pk S' F' v)) (hQ : ∀ w', NSt w0 w' pb p q pn pk px gb cap n S' b Fs → Q (.returned v) w') : Calls Tryz.prog f args w Q := by
  obtain ⟨⟨F, hB, hF, h1, h2⟩, hx, hC⟩ := h
  refine (hc F hB h1 h2).mono ?_
  rintro e w' ⟨rfl, ⟨F2, hB2, hF2⟩, hC2⟩
  have hlx := hx.raw.2.2.2.1
  have hlg := hx.raw.2.2.1
  exact hQ _ ⟨⟨F2, hB2, fun k hk => (hF2 k hk).elim (hF k) (fun h => .inr (Nat.le_trans hC.size h)), fun hk => (hF2 _ hk).elim h1 (fun h => by omega), fun hk => (hF2 _ hk).elim h2 (fun h => by omega)⟩, hx.chg hC2 h1 h2, hC.trans hC2 (fun k hk h => (hF k h).elim .inl (fun h => by omega))⟩
/-- A call on the node. -/
theorem NSt.nodeC {f : FuncId} {args : Array Value} {v : Value} {Q : Ending → World → Prop} (h : NSt w0 w pb p q pn pk px gb cap n S b Fs) (hc : NodeAt w px gb cap n b → Calls Tryz.prog f args w (NDid w px gb cap n b' v)) (hQ : ∀ w', NSt w0 w' pb p q pn pk px gb cap n S b' Fs → Q (.returned v) w') : Calls Tryz.prog f args w Q := by
  obtain ⟨⟨F, hB, hF, h1, h2⟩, hx, hC⟩ := h
  refine (hc hx).mono ?_
  rintro e w' ⟨rfl, hx2, hC2⟩
  obtain ⟨n1, n2, n3⟩ := hx.apart hB
  exact hQ _ ⟨⟨F, hB.chg hC2 (fun k hk e => by
    have e : k = gb := e
    subst e
    rcases hk with hk | hk | hk | hk
    · exact h2 hk
    · exact n1 hk.symm
    · exact n2 hk.symm
    · exact n3 hk.symm), hF, h1, h2⟩, hx2, hC.trans hC2 (fun k _ h => .inr h)⟩
theorem NSt.below (h : NSt w0 w pb p q pn pk px gb cap n S b Fs) (hb : Below w.heap.size w w') : NSt w0 w' pb p q pn pk px gb cap n S b Fs := by
  obtain ⟨⟨F, hB, hF, h1, h2⟩, hx, hC⟩ := h
  exact ⟨⟨F, hB.below hb, hF, h1, h2⟩, hx.below hb, hC.below hb⟩
theorem NSt.cb (h : NSt w0 w pb p q pn pk px gb cap n S b Fs) : w.cell? ⟨pb, 0, none⟩ = some (Dptr p) ∧ w.cell? ⟨pb, 1, none⟩ = some (Dptr pn) ∧ w.cell? ⟨pb, 2, none⟩ = some (Dptr pk) ∧ w.cell? ⟨pb, 3, none⟩ = some (.int .i64 (S.allB : Int)) := by
  obtain ⟨⟨F, hB, _⟩, _⟩ := h
  exact ⟨hB.c0, hB.c1, hB.c2, hB.c3⟩
theorem NSt.cx (h : NSt w0 w pb p q pn pk px gb cap n S b Fs) : w.cell? ⟨px, 0, none⟩ = some (.int .i64 (n : Int)) ∧ w.cell? ⟨px, 1, none⟩ = some (.slice (some ⟨gb, 0, none⟩) 256 cap) := ⟨h.node.c0, h.node.c1⟩
theorem NSt.live (h : NSt w0 w pb p q pn pk px gb cap n S b Fs) : S.isDead = false ∧ 400 ≤ S.size ∧ S.size ≤ 7892 := by
  obtain ⟨⟨F, hB, _⟩, _⟩ := h
  exact ⟨hB.live, hB.big, hB.size_le⟩
theorem NSt.readC (h : NSt w0 w pb p q pn pk px gb cap n S b Fs) {i : Int} {k : Nat} (hi : i = (k : Int)) (hk : k < S.size) : Calls Tryz.prog 32 #[Dptr p, .int .i64 i] w fun e w' => ∃ v g, e = .returned (.tuple #[v, .int .i64 0]) ∧ Dat 5 w' (· = g) v (S.get k) ∧ w.heap.size ≤ g ∧ NSt w0 w' pb p q pn pk px gb cap n S b Fs ∧ ∀ w2, Chg (· = g) w' w2 → NSt w0 w2 pb p q pn pk px gb cap n S b Fs := by
  obtain ⟨⟨F, hB, hF, h1, h2⟩, hx, hC⟩ := h
  refine (cread_ok hB.sto hi hB.live hk).mono ?_
  rintro e w' ⟨v, g, he, hv, hg, hs, hC2⟩
  have hlt := hB.sto.lt
  have hB2 := hB.step hs (Txn.refl S) (fun k hk => .inl hk) hC2
  have hlx := hx.raw.2.2.2.1
  have hlg := hx.raw.2.2.1
  have hx2 := hx.chg hC2 h1 h2
  have hC3 : Chg (fun k => Fs k ∨ k = gb) w0 w' := hC.trans hC2 (fun k hk h => (hF k h).elim .inl (fun h => by omega))
  have e1 := lt_of_heap hB.blk
  have e2 := lt_of_heap hB.mN
  have e3 := lt_of_heap hB.mK
  have hsz := hC.size
  refine ⟨v, g, he, hv, hg, ⟨⟨F, hB2, hF, h1, h2⟩, hx2, hC3⟩, fun w2 hc => ⟨⟨F, hB2.chg hc (fun k hk e => ?_), hF, h1, h2⟩, hx2.chg hc (fun e => ?_) (fun e => ?_), hC3.trans hc (fun k hk e => ?_)⟩⟩
  · have e : k = g := e
    rcases hk with hk | hk | hk | hk
    · have := hlt k hk; omega
    · omega
    · omega
    · omega
  · have e : px = g := e
    omega
  · have e : gb = g := e
    omega
  · have e : k = g := e
    omega
theorem NSt.writeC (h : NSt w0 w pb p q pn pk px gb cap n S b Fs) {v : Value} {bb : Bytes} {G : Nat → Prop} (hv : Src 5 w G v bb) (i : Int) : Calls Tryz.prog 33 #[Dptr p, .int .i64 i, v] w fun e w' => e = .returned (.int .i64 (S.write i bb).1) ∧ NSt w0 w' pb p q pn pk px gb cap n (S.write i bb).2 b Fs := by
  obtain ⟨⟨F, hB, hF, h1, h2⟩, hx, hC⟩ := h
  refine (cwrite hB.sto hv i).mono ?_
  rintro e w' ⟨he, hs, hC2⟩
  have hlx := hx.raw.2.2.2.1
  have hlg := hx.raw.2.2.1
  refine ⟨he, ⟨⟨_, hB.step hs (Txn.write S i bb) (fun k hk => hk.imp id (·.1)) hC2, fun k hk => hk.elim (hF k) (fun h => .inr (Nat.le_trans hC.size h.1)), fun hk => hk.elim h1 (fun h => by omega), fun hk => hk.elim h2 (fun h => by omega)⟩, hx.chg hC2 h1 h2, hC.trans hC2 (fun k hk h => (hF k h).elim .inl (fun h => by omega))⟩⟩
/-- A fresh row of bytes, two of which are written. -/
theorem Dat.put2 {w : World} {g m cap : Nat} {b : Bytes} (h : Dat 5 w (· = g) (.slice (some ⟨g, 0, none⟩) m cap) b) {k : Nat} (hk : k + 2 ≤ b.length) (x : Int) : Calls Tryz.prog 24 #[.slice (some ⟨g, k, none⟩) (m - k) (cap - k), .int .i64 x] w fun e w' => e = .returned (.tuple #[]) ∧ Dat 5 w' (· = g) (.slice (some ⟨g, 0, none⟩) m cap) (put2B b k x) ∧ Chg (· = g) w w' := by
  obtain ⟨g', hg, hb⟩ := h.buf
  have hg : g' = g := hg
  subst hg
  have hc := hb.cells
  obtain ⟨g2, cap2, cur, e, hF, h1, h2, h3, h4, h5⟩ := id h
  have hF : g2 = g' := hF
  subst hF
  injection e with e1 e2 e3
  subst e2 e3
  have hcell : ∀ j, j < b.length → w.cell? ⟨g2, j, none⟩ = some (u8v (b.getD j 0)) := fun j hj => hc j _ (by simp [List.getD, hj])
  refine (put2_any (by omega) (hcell k (by omega)) (hcell (k + 1) (by omega)) (frozen_of h1 _) (frozen_of h1 _) x).mono ?_
  rintro e w' ⟨h1, rfl⟩
  have d1 := h.setByte (k := k) (by omega) (lowByte (x / 256))
  have d2 := d1.setByte (k := k + 1) (by rw [List.length_set]; omega) (lowByte x)
  exact ⟨h1, d2, ((Chg.refl _ w).own k _).own (k + 1) _⟩
section
variable {w w0 : World} {pb p q pn pk px gb cap n : Nat} {S : WalS} {Fs : Nat → Prop} {b : Bytes}
set_option maxRecDepth 100000 in
theorem take_num {S : WalS} (h4 : 400 ≤ S.size) (h7 : S.size ≤ 7892) : S.take.1 = 0 → 0 < S.take.2.1 ∧ S.take.2.1 ≤ 8000 := by
  unfold WalS.take
  have := takeI_le S 1 S.allB
  have hab : S.allB ≤ 7592 := by unfold WalS.allB; omega
  split
  · intro _
    exact ⟨Nat.succ_pos _, by show _ + 1 ≤ 8000; omega⟩
  · rename_i h
    intro h2
    exact absurd h2 h
set_option maxRecDepth 100000 in
set_option maxHeartbeats 2000000 in
theorem link_any (h : BaseIn w pb p q pn pk S Fs) (hx : NodeAt w px gb cap n b) (hpx : ¬ Fs px) (hgb : ¬ Fs gb) {i k : Nat} (hi : i < 864) : Calls Tryz.prog 64 #[Dptr pb, Dptr px, .int .i64 (i : Int), .int .i64 (k : Int)] w (NBDid w pb p q pn pk px gb cap n (S.link b i k).2.2 (S.link b i k).2.1 Fs (.int .i64 (S.link b i k).1)) := by
  have hA := (placeA_le (i := i)).1
  have hA2 := (placeA_le (i := i)).2
  have hL := placeL_le hi
  have cP := place_any w (i := i) (by omega)
  have hN := h.nst hx hpx hgb
  have cx1 := hx.c1
  have hcap := hx.raw.1
  have hcapm := hx.raw.2.1
  have hlk : S.link b i k = S.link b i k := rfl
  unfold WalS.link WalS.layB at hlk ⊢
  generalize placeA i = a at *
  generalize placeL i = l at *
  clear hlk
  by_cases h0 : l = 0
  · subst h0
    rw [if_pos rfl]
    have hca : ¬ cap = a := by omega
    go_enter Tryz.func64, Tryz.ntmps64
    go_wp2_with (first
      | (go_at_call 46; refine cP.mono ?_; rintro e w3 ⟨rfl, rfl⟩)
      | (go_at_call 24; refine hN.nodeC (fun hx => nput2 hx (k := a) (by omega) (k : Int)) (fun w4 hN4 => ?_)))
    go_ret
    exact ⟨rfl, hN4⟩
  · have hA2 := hA2 h0
    have hcl : ¬ cap = l := by omega
    have hbig := h.big
    have hszm := h.size_le
    have hnz : ((l : Int) == 0) = false := by simpa using h0
    have cT := ntwo hx (k := l) (by omega)
    rw [if_neg h0]
    have hcb4 : ∀ w4, Below w.heap.size w w4 → w4.cell? ⟨px, 1, none⟩ = some (.slice (some ⟨gb, 0, none⟩) 256 cap) := fun w4 hb => (hx.below hb).c1
    by_cases hk0 : twoN b l = 0
    case' pos =>
      rw [if_pos hk0]
      rw [hk0] at cT
      have hlen := hx.len
      have cK : ∀ w4, NSt w w4 pb p q pn pk px gb cap n S b Fs → Calls Tryz.prog 63 #[Dptr pb] w4 fun e w5 => e = .returned (.tuple #[.int .i64 (S.take.2.1 : Int), .int .i64 S.take.1]) ∧ NSt w w5 pb p q pn pk px gb cap n S.take.2.2 b Fs := fun w4 hN4 => hN4.base (fun F' hB _ _ => take_any hB) (fun w5 hN5 => ⟨rfl, hN5⟩)
      have htl := take_num hbig hszm
      have hts := (Txn.take S).size
      generalize S.take = t at *
      obtain ⟨t1, t2, S1⟩ := t
      dsimp only at cK htl hts
      by_cases ht : t1 = 0
      case' neg =>
        have ht1 : (t1 != 0) = true := by simpa using ht
        rw [WalS.okN, if_neg ht]
        go_enter Tryz.func64, Tryz.ntmps64
        go_wp2_with (first
          | (go_at_call 46; refine cP.mono ?_; rintro e w3 ⟨rfl, rfl⟩)
          | (go_at_call 47; refine cT.mono ?_; rintro e w4 ⟨rfl, hb4⟩; have hN4 := hN.below hb4)
          | (go_at_call 63; refine (cK _ hN4).mono ?_; rintro e w5 ⟨rfl, hN5⟩))
        go_ret
        exact ⟨rfl, hN5⟩
      subst ht
      have htl := htl rfl
      rw [WalS.okN, if_pos rfl]
      dsimp only
      obtain ⟨b5, hb5⟩ : ∃ b5, b5 = put2B b l (t2 : Int) := ⟨_, rfl⟩
      have hL5 : twoN b5 l = t2 := by rw [hb5]; exact twoN_put2 b (by omega) (by omega)
      rw [← hb5]
      obtain ⟨S5, hS5⟩ : ∃ S5, S5 = S1 := ⟨_, rfl⟩
      rw [← hS5]
      obtain ⟨R1, R3, hR⟩ : ∃ R1 R3, S5.lay (twoN b5 l) a k = (R1, R3) := ⟨_, _, rfl⟩
      rw [hR]
      dsimp only
      have hRH : Hid _ := Lib.hid hR
      clear hR
      go_enter Tryz.func64, Tryz.ntmps64
      go_upto_region 10 with (first
        | (go_at_call 46; refine cP.mono ?_; rintro e w3 ⟨rfl, rfl⟩)
        | (go_at_call 47; refine cT.mono ?_; rintro e w4 ⟨rfl, hb4⟩; have hN4 := hN.below hb4)
        | (go_at_call 63; refine (cK _ hN4).mono ?_; rintro e w5 ⟨rfl, hN5⟩; have cx5 := hN5.node.c1)
        | (go_at_call 24; refine hN5.nodeC (fun hx => nput2 hx (k := l) (by omega) (t2 : Int)) (fun w6 hN6 => ?_); have hN6' : NSt w w6 pb p q pn pk px gb cap n S5 b5 Fs := by rw [hS5, hb5]; exact hN6))
      have hL0 : twoN b5 l ≠ 0 := by omega
      clear hN6 hN5 hN4 cx5 hL5
    case' neg =>
      rw [if_neg hk0]
      have hkz : ((twoN b l : Int) == 0) = false := by simpa using hk0
      obtain ⟨b5, hb5⟩ : ∃ b5, b5 = b := ⟨_, rfl⟩
      rw [← hb5] at hk0 ⊢
      obtain ⟨S5, hS5⟩ : ∃ S5, S5 = S := ⟨_, rfl⟩
      rw [← hS5]
      obtain ⟨R1, R3, hR⟩ : ∃ R1 R3, S5.lay (twoN b5 l) a k = (R1, R3) := ⟨_, _, rfl⟩
      rw [hR]
      dsimp only
      have hRH : Hid _ := Lib.hid hR
      clear hR
      go_enter Tryz.func64, Tryz.ntmps64
      go_upto_region 10 with (first
        | (go_at_call 46; refine cP.mono ?_; rintro e w3 ⟨rfl, rfl⟩)
        | (go_at_call 47; refine cT.mono ?_; rintro e w6 ⟨rfl, hb4⟩; have hN6' : NSt w w6 pb p q pn pk px gb cap n S5 b5 Fs := by rw [hS5, hb5]; exact hN.below hb4))
      have hL0 : twoN b5 l ≠ 0 := hk0
    all_goals
      have cx6 := hN6'.node.c1
      have cT6 := ntwo hN6'.node (k := l) (by omega)
      have hlz : ¬ cap = l := by omega
      obtain ⟨hlv, hb4', hs7⟩ := hN6'.live
      have hcb6 : ∀ w7, NSt w w7 pb p q pn pk px gb cap n S5 b5 Fs → w7.cell? ⟨pb, 0, none⟩ = some (Dptr p) := fun w7 hN => hN.cb.1
      have hLb := twoN_lt b5 l
      have hR := hRH.out
      unfold WalS.lay at hR
      generalize hLe : twoN b5 l = L at *
      have hLeH : Hid _ := Lib.hid hLe
      clear hLe hRH
      by_cases hout : S5.size ≤ 299 + L
      case' pos =>
        rw [if_pos (Or.inr hout)] at hR
        have hRH : Hid _ := Lib.hid hR
        clear hR
        have cR : ∀ w7, NSt w w7 pb p q pn pk px gb cap n S5 b5 Fs → Calls Tryz.prog 32 #[Dptr p, .int .i64 (300 + (L : Int) - 1)] w7 fun e w8 => e = .returned (.tuple #[.slice none 0 0, .int .i64 1]) ∧ w7 = w8 := fun w7 hN => by
          obtain ⟨⟨F, hB, _⟩, _⟩ := hN
          exact cread_out hB.sto (.inr (by omega)) hB.live
        go_upto_region 11 with (go_at_call 47; refine cT6.mono ?_; rintro e w7 ⟨rfl, hb7⟩; have hN7 := hN6'.below hb7; have cb7 := hcb6 _ hN7)
        go_wp2_with (go_at_call 32; refine (cR _ hN7).mono ?_; rintro e w8 ⟨rfl, rfl⟩)
        go_ret
        injection hRH.out with r1 r3
        exact ⟨by rw [← r1]; rfl, by rw [← r3]; exact hN7⟩
      rw [if_neg (fun h => h.elim hL0 hout)] at hR
      have hRH : Hid _ := Lib.hid hR
      clear hR
      have cR : ∀ w7, NSt w w7 pb p q pn pk px gb cap n S5 b5 Fs → Calls Tryz.prog 32 #[Dptr p, .int .i64 (300 + (L : Int) - 1)] w7 _ := fun w7 hN => hN.readC (k := 299 + L) (by omega) (by omega)
      have hgl : (S5.get (299 + L)).length = 64 := by
        obtain ⟨⟨F, hB, _⟩, _⟩ := hN6'
        exact hB.sto.get_len _
      have hglH : Hid _ := Lib.hid hgl
      clear hgl
      generalize S5.get (299 + L) = bb at *
      go_upto_region 11 with (go_at_call 47; refine cT6.mono ?_; rintro e w7 ⟨rfl, hb7⟩; have hN7 := hN6'.below hb7; have cb7 := hcb6 _ hN7)
      go_upto_region 14 with (first
        | (go_at_call 32; refine (cR _ hN7).mono ?_; rintro e w8 ⟨v8, g8, rfl, hv8, hg8, hN8, hK8⟩))
      have hg8' := hv8
      obtain ⟨g', m8, cur8, rfl, hgg, hd1, hd2, hd3, hd4, hd5⟩ := hg8'
      have hgg : g' = g8 := hgg
      subst hgg
      rw [hglH.out] at hd2
      have cP8 := Dat.put2 hv8 (k := a) (by rw [hglH.out]; omega) (k : Int)
      rw [hglH.out] at hv8 cP8 ⊢
      have hca8 : ¬ m8 = a := by omega
      have h64a : (a : Int) ≤ 64 := by omega
      have ham : (a : Int) ≤ (m8 : Int) := by omega
      go_upto_region 15 with (go_at_call 24; refine cP8.mono ?_; rintro e w9 ⟨rfl, hv9, hC9⟩; have hN9 := hK8 _ hC9)
      have cb9 := hcb6 _ hN9
      have cW := hN9.writeC hv9.src (300 + (L : Int) - 1)
      have e9 : Hid ((300 + (L : Int) - 1) = ((299 + L : Nat) : Int)) := Lib.hid (by omega)
      go_wp2_with (go_at_call 33; refine cW.mono ?_; rintro e w10 ⟨rfl, hN10⟩)
      go_ret
      rw [e9.out, hRH.out] at hN10
      have h1 : (S5.write (300 + (L : Int) - 1) (put2B bb a (k : Int))).1 = R1 := by rw [e9.out, hRH.out]
      exact ⟨by rw [← h1, hS5]; rfl, hN10⟩
end
end
end Go.Proofs.YtjngphffgdjcfaaGreatDoor
/-
  A base's calls: how many blocks are free; a node grows, shrinks.
-/
namespace Go.Proofs.YtjngphffgdjcfaaGreatDoor
open Go.RowKit Go.Lz
section
variable {w w0 : World} {pb p q pn pk px gb cap n : Nat} {S : WalS} {Fs : Nat → Prop} {b : Bytes}
/-- A call on base and node. -/
theorem NSt.seq {S' : WalS} {b' : Bytes} {f : FuncId} {args : Array Value} {v : Value} {Q : Ending → World → Prop} (h : NSt w0 w pb p q pn pk px gb cap n S b Fs) (hc : ∀ F', BaseIn w pb p q pn pk S F' → NodeAt w px gb cap n b → ¬ F' px → ¬ F' gb → Calls Tryz.prog f args w (NBDid w pb p q pn pk px gb cap n S' b' F' v)) (hQ : ∀ w', NSt w0 w' pb p q pn pk px gb cap n S' b' Fs → Q (.returned v) w') : Calls Tryz.prog f args w Q := by
  obtain ⟨⟨F, hB, hF, h1, h2⟩, hx, hC⟩ := h
  refine (hc F hB hx h1 h2).mono ?_
  rintro e w' ⟨rfl, ⟨⟨F2, hB2, hF2, k1, k2⟩, hx2, hC2⟩⟩
  exact hQ _ ⟨⟨F2, hB2, fun k hk => (hF2 k hk).elim (hF k) (fun h => .inr (Nat.le_trans hC.size h)), k1, k2⟩, hx2, hC.trans hC2 (fun k hk h => h.elim (fun h => (hF k h).elim .inl (fun h => by omega)) .inr)⟩
theorem countB_le (S : WalS) (a m : Nat) : S.countB a m ≤ m := by
  unfold WalS.countB
  refine Nat.le_trans (List.length_filter_le _ _) ?_
  simp
set_option maxRecDepth 100000 in
set_option maxHeartbeats 1000000 in
theorem blocks_any (h : BaseIn w pb p q pn pk S Fs) : Calls Tryz.prog 61 #[Dptr pb] w (BDid w pb p q pn pk S Fs (.tuple #[.int .i64 (S.freeB : Int), .int .i64 (S.allB : Int)])) := by
  have cb2 := h.c2
  have hbig := h.big
  have hsz := h.size_le
  have hab : S.allB ≤ 8000 := by unfold WalS.allB; omega
  have hcl := countB_le S 1 S.allB
  have cC := ccount h.mK h.nk h.sto h.live (by omega) (by unfold WalS.allB sectorsOf; omega)
  have hfr : (S.freeB : Int) = (S.allB : Int) - (S.countB 1 S.allB : Int) := by unfold WalS.freeB; omega
  rw [hfr]
  generalize S.countB 1 S.allB = c at *
  clear hfr
  go_enter Tryz.func61, Tryz.ntmps61
  go_upto_region 4 with (go_at_call 89; refine cC.mono ?_; rintro e w3 ⟨rfl, hs3, hC3⟩)
  have hB3 := BSt.of_step h (fun k hk => .inl hk) (Chg.refl Fs w) hs3 (Txn.refl S) hC3
  have cb33 := (h.step hs3 (Txn.refl S) (fun k hk => hk.imp id (·.1)) hC3).c3
  have hz : ((S.allB : Nat) : Int) ≤ 8000 := by omega
  go_quiet (fail)
  go_wp2_with fail
  go_ret2
  exact (hB3.below (w' := w3.drewN nq) ⟨rfl, rfl, rfl, Nat.le_refl _, fun _ _ => rfl⟩).did rfl
theorem growF_succ (d i : Nat) (b : Bytes) (S : WalS) : WalS.growF (d + 1) i b S = WalS.okB (WalS.okN S.take b fun k S' => S'.link b i k) fun b' S' => WalS.growF d (i + 1) b' S' := rfl
theorem cntN_le {n : Nat} (h : n ≤ 55296) : cntN n ≤ 864 := by unfold cntN; omega
theorem NSt.szN (h : NSt w0 w pb p q pn pk px gb cap n S b Fs) : Calls Tryz.prog 28 #[Dptr px] w fun e w' => e = .returned (.int .i64 (nSize b : Int)) ∧ NSt w0 w' pb p q pn pk px gb cap n S b Fs :=
  (nsize_any h.node).mono fun _ _ h2 => ⟨h2.1, h.below h2.2⟩
theorem NSt.linkC (h : NSt w0 w pb p q pn pk px gb cap n S b Fs) {i k : Nat} (hi : i < 864) : Calls Tryz.prog 64 #[Dptr pb, Dptr px, .int .i64 (i : Int), .int .i64 (k : Int)] w fun e w' => e = .returned (.int .i64 (S.link b i k).1) ∧ NSt w0 w' pb p q pn pk px gb cap n (S.link b i k).2.2 (S.link b i k).2.1 Fs :=
  h.seq (fun _ hB hx h1 h2 => link_any hB hx h1 h2 hi) (fun _ h => ⟨rfl, h⟩)
set_option maxRecDepth 100000 in
set_option maxHeartbeats 2000000 in
theorem grow_any (h : BaseIn w pb p q pn pk S Fs) (hx : NodeAt w px gb cap n b) (hpx : ¬ Fs px) (hgb : ¬ Fs gb) {m : Nat} (hm : m ≤ 55296) (hs : nSize b ≤ 55296) : Calls Tryz.prog 29 #[Dptr pb, Dptr px, .int .i64 (m : Int)] w (NBDid w pb p q pn pk px gb cap n (S.grow b m).2.2 (S.grow b m).2.1 Fs (.int .i64 (S.grow b m).1)) := by
  have hN := h.nst hx hpx hgb
  have cS := hN.szN
  have cF := cntN_le hs
  have cM := cntN_le hm
  have hwF : withN (cntN (nSize b)) ≤ 2000 := by unfold withN; omega
  have hwM : withN (cntN m) ≤ 2000 := by unfold withN; omega
  have cSz := fun w' => count_any_ w' (n := nSize b) (by omega)
  have cMz := fun w' => count_any_ w' (n := m) (by omega)
  have cWF := fun w' => with_any w' (n := cntN (nSize b)) (by omega)
  have cWM := fun w' => with_any w' (n := cntN m) (by omega)
  have hfb : S.freeB ≤ 8000 := by
    have := h.size_le
    unfold WalS.freeB WalS.allB
    omega
  have cB : ∀ w2, NSt w w2 pb p q pn pk px gb cap n S b Fs → Calls Tryz.prog 61 #[Dptr pb] w2 fun e w3 => e = .returned (.tuple #[.int .i64 (S.freeB : Int), .int .i64 (S.allB : Int)]) ∧ NSt w w3 pb p q pn pk px gb cap n S b Fs := fun w2 hN2 => hN2.base (fun F' hB _ _ => blocks_any hB) (fun w3 h3 => ⟨rfl, h3⟩)
  obtain ⟨R, hR⟩ : ∃ R, R = S.grow b m := ⟨_, rfl⟩
  rw [← hR]
  unfold WalS.grow at hR
  have hRH : Hid _ := Lib.hid hR
  clear hR
  generalize hcF : cntN (nSize b) = F at *
  generalize hcM : cntN m = M at *
  generalize withN F = wF at *
  generalize withN M = wM at *
  generalize S.freeB = fr at *
  have hcFH : Hid _ := Lib.hid hcF
  have hcMH : Hid _ := Lib.hid hcM
  clear hcF hcM
  by_cases hful : (fr : Int) < (wM : Int) - (wF : Int)
  · have hRR := hRH.out
    rw [if_pos hful] at hRR
    subst hRR
    go_enter Tryz.func29, Tryz.ntmps29
    go_wp2_with (first
      | (go_at_call 28; refine cS.mono ?_; rintro e w1 ⟨rfl, hN1⟩)
      | (go_at_call 45; with_reducible refine (cSz _).mono ?_; rintro e w2 ⟨rfl, rfl⟩)
      | (go_at_call 45; with_reducible refine (cMz _).mono ?_; rintro e w2 ⟨rfl, rfl⟩)
      | (go_at_call 61; refine (cB _ hN1).mono ?_; rintro e w3 ⟨rfl, hN3⟩)
      | (go_at_call 62; with_reducible refine (cWF _).mono ?_; rintro e w2 ⟨rfl, rfl⟩)
      | (go_at_call 62; with_reducible refine (cWM _).mono ?_; rintro e w2 ⟨rfl, rfl⟩))
    go_ret
    exact ⟨rfl, hN3⟩
  · have hRR := hRH.out
    rw [if_neg hful] at hRR
    have hRRH : Hid _ := Lib.hid hRR
    clear hRR hRH
    go_enter Tryz.func29, Tryz.ntmps29
    go_wp2_with (first
      | (go_at_call 28; refine cS.mono ?_; rintro e w1 ⟨rfl, hN1⟩)
      | (go_at_call 45; with_reducible refine (cSz _).mono ?_; rintro e w2 ⟨rfl, rfl⟩)
      | (go_at_call 45; with_reducible refine (cMz _).mono ?_; rintro e w2 ⟨rfl, rfl⟩)
      | (go_at_call 61; refine (cB _ hN1).mono ?_; rintro e w3 ⟨rfl, hN3⟩)
      | (go_at_call 62; with_reducible refine (cWF _).mono ?_; rintro e w2 ⟨rfl, rfl⟩)
      | (go_at_call 62; with_reducible refine (cWM _).mono ?_; rintro e w2 ⟨rfl, rfl⟩))
    have hN3H : Hid _ := Lib.hid hN3
    go_loopg [10, 6, 11, 12, 30, 31, 32, 33, 34, 35, 36, 37, 38, 39, 40, 41, 42, 43, 44, 45, 46, 47, 48, 49, 50] (M - F) (fun g iv _ _ _ _ _ _ _ _ _ _ _ _ _ _ _ _ _ _ _ _ _ _ _ _ wr => ∃ (i : Nat) (S1 : WalS) (b1 : Bytes), i + g = max F M ∧ F ≤ i ∧ iv = .int .i64 (i : Int) ∧ NSt w wr pb p q pn pk px gb cap n S1 b1 Fs ∧ WalS.growF g i b1 S1 = WalS.growF (M - F) F b S)
    case atStart => exact ⟨F, S, b, by omega, Nat.le_refl _, rfl, hN3H.out, rfl⟩
    case round =>
      obtain ⟨i, S1, b1, hi, hFi, rfl, hN4, hgr⟩ := hrel
      rename World => wr
      have hgrH : Hid _ := Lib.hid hgr
      clear hgr
      by_cases hlt : i < M
      · have hiz : (i : Int) < (M : Int) := by omega
        obtain ⟨g, rfl⟩ : ∃ g, gk = g + 1 := ⟨gk - 1, by omega⟩
        have cK : Calls Tryz.prog 63 #[Dptr pb] wr fun e w5 => e = .returned (.tuple #[.int .i64 (S1.take.2.1 : Int), .int .i64 S1.take.1]) ∧ NSt w w5 pb p q pn pk px gb cap n S1.take.2.2 b1 Fs := hN4.base (fun F' hB _ _ => take_any hB) (fun w5 hN5 => ⟨rfl, hN5⟩)
        have hstep := hgrH.out
        rw [growF_succ] at hstep
        generalize S1.take = t at *
        obtain ⟨t1, t2, S2⟩ := t
        dsimp only at cK
        by_cases ht : t1 = 0
        · subst ht
          rw [WalS.okN, if_pos rfl] at hstep
          dsimp only at hstep
          have cL : ∀ w5, NSt w w5 pb p q pn pk px gb cap n S2 b1 Fs → Calls Tryz.prog 64 #[Dptr pb, Dptr px, .int .i64 (i : Int), .int .i64 (t2 : Int)] w5 fun e w6 => e = .returned (.int .i64 (S2.link b1 i t2).1) ∧ NSt w w6 pb p q pn pk px gb cap n (S2.link b1 i t2).2.2 (S2.link b1 i t2).2.1 Fs := fun w5 hN5 => hN5.linkC (by omega)
          generalize S2.link b1 i t2 = l at *
          obtain ⟨l1, b2, S3⟩ := l
          dsimp only at cL
          by_cases hl : l1 = 0
          · subst hl
            rw [WalS.okB, if_pos rfl] at hstep
            dsimp only at hstep
            have hstepH : Hid _ := Lib.hid hstep
            clear hstep
            go_wp2_with (first
              | (go_at_call 45; refine (cMz _).mono ?_; rintro e w2 ⟨rfl, rfl⟩)
              | (go_at_call 63; refine cK.mono ?_; rintro e w5 ⟨rfl, hN5⟩)
              | (go_at_call 64; refine (cL _ hN5).mono ?_; rintro e w6 ⟨rfl, hN6⟩))
            go_roundg g
            case measure => omega
            case rel => exact ⟨i + 1, S3, b2, by omega, by omega, by go_num, hN6, hstepH.out⟩
          · have hl1 : (l1 != 0) = true := by simpa using hl
            rw [WalS.okB, if_neg hl] at hstep
            have hstepH : Hid _ := Lib.hid hstep
            clear hstep
            go_wp2_with (first
              | (go_at_call 45; refine (cMz _).mono ?_; rintro e w2 ⟨rfl, rfl⟩)
              | (go_at_call 63; refine cK.mono ?_; rintro e w5 ⟨rfl, hN5⟩)
              | (go_at_call 64; refine (cL _ hN5).mono ?_; rintro e w6 ⟨rfl, hN6⟩))
            go_ret
            have hRR := hRRH.out
            rw [← hstepH.out, WalS.okB, if_neg hl] at hRR
            rw [hRR]
            exact ⟨rfl, hN6⟩
        · have ht0 : (t1 == 0) = false := by simpa using ht
          have ht1 : (t1 != 0) = true := by simpa using ht
          rw [WalS.okN, if_neg ht] at hstep
          rw [WalS.okB, if_neg ht] at hstep
          have hstepH : Hid _ := Lib.hid hstep
          clear hstep
          go_wp2_with (first
            | (go_at_call 45; refine (cMz _).mono ?_; rintro e w2 ⟨rfl, rfl⟩)
            | (go_at_call 63; refine cK.mono ?_; rintro e w5 ⟨rfl, hN5⟩))
          go_ret
          have hRR := hRRH.out
          rw [← hstepH.out, WalS.okB, if_neg ht] at hRR
          rw [hRR]
          exact ⟨rfl, hN5⟩
      · have hiz : ¬ (i : Int) < (M : Int) := by omega
        have hg0 : gk = 0 ∨ M ≤ F := by omega
        have hgr0 : WalS.growF (M - F) F b S = (0, b1, S1) := by
          rw [← hgrH.out]
          have : gk = 0 := by omega
          rw [this]
          rfl
        have hRR := hRRH.out
        rw [hgr0, WalS.okB, if_pos rfl] at hRR
        dsimp only at hRR
        have hRRH2 : Hid _ := Lib.hid hRR
        clear hRR
        go_wp2_with (first
          | (go_at_call 45; refine (cMz _).mono ?_; rintro e w2 ⟨rfl, rfl⟩)
          | (go_at_call 65; refine hN4.nodeC (fun hx => setSize_any hx (m : Int)) (fun w6 hN6 => ?_)))
        go_ret
        rw [hRRH2.out]
        exact ⟨rfl, hN6⟩
end
end Go.Proofs.YtjngphffgdjcfaaGreatDoor
/-
  A base's calls: something done with each piece of a node's bytes.
-/
namespace Go.Lz
open Go.RowKit Go.Proofs.YtjngphffgdjcfaaGreatDoor
/-- What is done with each piece, from one place to another. -/
def eachF {α : Type} (step : WalS → α → Nat → Nat → Nat → Int × WalS × α) (b : Bytes) : Nat → Nat → Nat → WalS → α → Int × WalS × α
  | 0, _, _, S, a => (0, S, a)
  | d + 1, i, j, S, a =>
    if i < j then
      if (S.block b (i / 64)).1 = 0 then
        let r := step S a (299 + (S.block b (i / 64)).2) (i % 64) (min (64 - i % 64) (j - i))
        if r.1 = 0 then eachF step b d (i + min (64 - i % 64) (j - i)) j r.2.1 r.2.2 else r
      else ((S.block b (i / 64)).1, S, a)
    else (0, S, a)
end Go.Lz
namespace Go.Proofs.YtjngphffgdjcfaaGreatDoor
open Go.RowKit Go.Lz
section
variable {pb px : Nat} {b : Bytes}
set_option maxRecDepth 100000 in
set_option maxHeartbeats 2000000 in
theorem each_read {α : Type} (I : World → WalS → α → Nat → Prop) (step : WalS → α → Nat → Nat → Nat → Int × WalS × α) (c1 c2 : Value) {i j : Nat}
    (hblk : ∀ w S a f (i : Nat), I w S a f → i < 864 → Calls Tryz.prog 48 #[Dptr pb, Dptr px, .int .i64 (i : Int)] w fun e w' => e = .returned (.tuple #[.int .i64 ((S.block b i).2 : Int), .int .i64 (S.block b i).1]) ∧ I w' S a f)
    (hdo : ∀ w S a f (sec at' m : Nat), I w S a f → i ≤ f → at' = f % 64 → f + m ≤ j → at' + m ≤ 64 → 1 ≤ m → sec ≤ 70000 → Calls Tryz.prog 39 #[.int .i64 (sec : Int), .int .i64 (at' : Int), .int .i64 (m : Int), c1, c2] w fun e w' => e = .returned (.int .i64 (step S a sec at' m).1) ∧ I w' (step S a sec at' m).2.1 (step S a sec at' m).2.2 (f + m))
    (hnum : ∀ (S : WalS) (i : Nat), (S.block b i).2 < 65536)
    (hj : j ≤ 55296) {w : World} {S : WalS} {a : α} (hI : I w S a i) :
    Calls Tryz.prog 30 #[Dptr pb, Dptr px, .int .i64 (i : Int), .int .i64 (j : Int), .func (.func 39) #[] #[c1, c2]] w fun e w' => e = .returned (.int .i64 (eachF step b (j - i) i j S a).1) ∧ ∃ f, I w' (eachF step b (j - i) i j S a).2.1 (eachF step b (j - i) i j S a).2.2 f ∧ ((eachF step b (j - i) i j S a).1 = 0 → f = max i j) := by
  obtain ⟨R, hR⟩ : ∃ R, R = eachF step b (j - i) i j S a := ⟨_, rfl⟩
  rw [← hR]
  have hRH : Hid _ := Lib.hid hR
  have hIH : Hid _ := Lib.hid hI
  clear hR hI
  go_enter Tryz.func30, Tryz.ntmps30
  go_wp2_with fail
  go_loopg [2, 10, 11, 12, 13, 14, 15, 16, 17, 18, 19, 20, 21, 22, 23, 24, 25, 26, 27, 28, 29, 30, 31, 32, 33, 34, 35, 36, 37, 38, 39, 40, 41, 42, 43, 44, 45, 46, 47, 48, 49] (j - i) (fun g fv _ _ _ _ _ _ _ _ _ _ _ _ _ _ _ _ _ _ _ _ _ _ _ _ _ _ _ _ _ _ _ _ _ _ _ _ _ _ _ _ wr => ∃ (f : Nat) (S1 : WalS) (a1 : α), fv = .int .i64 (f : Int) ∧ I wr S1 a1 f ∧ j ≤ f + g ∧ f ≤ max i j ∧ i ≤ f ∧ R = eachF step b g f j S1 a1)
  case atStart => exact ⟨i, S, a, rfl, hIH.out, by omega, by omega, Nat.le_refl _, hRH.out⟩
  case round =>
    obtain ⟨f, S1, a1, rfl, hI1, hfg, hfm, hfi, hR1⟩ := hrel
    rename World => wr
    by_cases hlt : f < j
    · have hiz : (f : Int) < (j : Int) := by omega
      obtain ⟨g, rfl⟩ : ∃ g, gk = g + 1 := ⟨gk - 1, by omega⟩
      have cB := hblk wr S1 a1 f (f / 64) hI1 (by omega)
      have hkn := hnum S1 (f / 64)
      rw [eachF, if_pos hlt] at hR1
      generalize S1.block b (f / 64) = r at *
      obtain ⟨r1, k⟩ := r
      dsimp only at *
      have e64 : ((f / 64 : Nat) : Int) = (f : Int) / 64 := by omega
      rw [e64] at cB
      by_cases hr : r1 = 0
      · subst hr
        rw [if_pos rfl] at hR1
        obtain ⟨m, hm⟩ : ∃ m, m = min (64 - f % 64) (j - f) := ⟨_, rfl⟩
        rw [← hm] at hR1
        have hmi : min ((64 : Int) - (f : Int) % 64) ((j : Int) - (f : Int)) = (m : Int) := by omega
        have hm1 : 1 ≤ m ∧ f % 64 + m ≤ 64 ∧ f + m ≤ j := by omega
        clear hm
        have cD := fun w' hI => hdo w' S1 a1 f (299 + k) (f % 64) m hI hfi rfl hm1.2.2 (by omega) hm1.1 (by omega)
        have es : ((299 + k : Nat) : Int) = 300 + (k : Int) - 1 := by omega
        have ea : ((f % 64 : Nat) : Int) = (f : Int) % 64 := by omega
        rw [es, ea] at cD
        generalize step S1 a1 (299 + k) (f % 64) m = t at *
        obtain ⟨t1, S2, a2⟩ := t
        dsimp only at cD hR1
        have hR1H : Hid _ := Lib.hid hR1
        clear hR1
        go_upto_region 6 with (go_at_call 48; refine cB.mono ?_; rintro e w3 ⟨rfl, hI3⟩)
        by_cases ht : t1 = 0
        · subst ht
          have hR2 := hR1H.out
          rw [if_pos rfl] at hR2
          have hR2H : Hid _ := Lib.hid hR2
          clear hR2 hR1H
          go_wp2_with (go_at_call 39; refine (cD _ hI3).mono ?_; rintro e w4 ⟨rfl, hI4⟩)
          go_roundg g
          case measure => omega
          case rel => exact ⟨f + m, S2, a2, by go_num, hI4, by omega, by omega, by omega, hR2H.out⟩
        · have ht1 : (t1 != 0) = true := by simpa using ht
          have hR2 := hR1H.out
          rw [if_neg ht] at hR2
          have hR2H : Hid _ := Lib.hid hR2
          clear hR2 hR1H
          go_wp2_with (go_at_call 39; refine (cD _ hI3).mono ?_; rintro e w4 ⟨rfl, hI4⟩)
          go_ret
          rw [hR2H.out]
          exact ⟨rfl, _, hI4, fun e => absurd e ht⟩
      · have hr1 : (r1 != 0) = true := by simpa using hr
        rw [if_neg hr] at hR1
        have hR1H : Hid _ := Lib.hid hR1
        clear hR1
        go_wp2_with (go_at_call 48; refine cB.mono ?_; rintro e w3 ⟨rfl, hI3⟩)
        go_ret
        rw [hR1H.out]
        exact ⟨rfl, _, hI3, fun e => absurd e hr⟩
    · have hiz : ¬ (f : Int) < (j : Int) := by omega
      have hR0 : R = (0, S1, a1) := by
        rw [hR1]
        cases gk with
        | zero => rfl
        | succ g => rw [eachF, if_neg hlt]
      have hR0H : Hid _ := Lib.hid hR0
      clear hR0 hR1
      go_wp2_with fail
      go_ret
      rw [hR0H.out]
      exact ⟨rfl, _, hI1, fun _ => by omega⟩
set_option maxRecDepth 100000 in
set_option maxHeartbeats 2000000 in
theorem each_write {α : Type} (I : World → WalS → α → Nat → Prop) (step : WalS → α → Nat → Nat → Nat → Int × WalS × α) (c1 c2 : Value) {i j : Nat}
    (hblk : ∀ w S a f (i : Nat), I w S a f → i < 864 → Calls Tryz.prog 48 #[Dptr pb, Dptr px, .int .i64 (i : Int)] w fun e w' => e = .returned (.tuple #[.int .i64 ((S.block b i).2 : Int), .int .i64 (S.block b i).1]) ∧ I w' S a f)
    (hdo : ∀ w S a f (sec at' m : Nat), I w S a f → i ≤ f → at' = f % 64 → f + m ≤ j → at' + m ≤ 64 → 1 ≤ m → sec ≤ 70000 → Calls Tryz.prog 31 #[.int .i64 (sec : Int), .int .i64 (at' : Int), .int .i64 (m : Int), c1, c2] w fun e w' => e = .returned (.int .i64 (step S a sec at' m).1) ∧ I w' (step S a sec at' m).2.1 (step S a sec at' m).2.2 (f + m))
    (hnum : ∀ (S : WalS) (i : Nat), (S.block b i).2 < 65536)
    (hj : j ≤ 55296) {w : World} {S : WalS} {a : α} (hI : I w S a i) :
    Calls Tryz.prog 30 #[Dptr pb, Dptr px, .int .i64 (i : Int), .int .i64 (j : Int), .func (.func 31) #[] #[c1, c2]] w fun e w' => e = .returned (.int .i64 (eachF step b (j - i) i j S a).1) ∧ ∃ f, I w' (eachF step b (j - i) i j S a).2.1 (eachF step b (j - i) i j S a).2.2 f ∧ ((eachF step b (j - i) i j S a).1 = 0 → f = max i j) := by
  obtain ⟨R, hR⟩ : ∃ R, R = eachF step b (j - i) i j S a := ⟨_, rfl⟩
  rw [← hR]
  have hRH : Hid _ := Lib.hid hR
  have hIH : Hid _ := Lib.hid hI
  clear hR hI
  go_enter Tryz.func30, Tryz.ntmps30
  go_wp2_with fail
  go_loopg [2, 10, 11, 12, 13, 14, 15, 16, 17, 18, 19, 20, 21, 22, 23, 24, 25, 26, 27, 28, 29, 30, 31, 32, 33, 34, 35, 36, 37, 38, 39, 40, 41, 42, 43, 44, 45, 46, 47, 48, 49] (j - i) (fun g fv _ _ _ _ _ _ _ _ _ _ _ _ _ _ _ _ _ _ _ _ _ _ _ _ _ _ _ _ _ _ _ _ _ _ _ _ _ _ _ _ wr => ∃ (f : Nat) (S1 : WalS) (a1 : α), fv = .int .i64 (f : Int) ∧ I wr S1 a1 f ∧ j ≤ f + g ∧ f ≤ max i j ∧ i ≤ f ∧ R = eachF step b g f j S1 a1)
  case atStart => exact ⟨i, S, a, rfl, hIH.out, by omega, by omega, Nat.le_refl _, hRH.out⟩
  case round =>
    obtain ⟨f, S1, a1, rfl, hI1, hfg, hfm, hfi, hR1⟩ := hrel
    rename World => wr
    by_cases hlt : f < j
    · have hiz : (f : Int) < (j : Int) := by omega
      obtain ⟨g, rfl⟩ : ∃ g, gk = g + 1 := ⟨gk - 1, by omega⟩
      have cB := hblk wr S1 a1 f (f / 64) hI1 (by omega)
      have hkn := hnum S1 (f / 64)
      rw [eachF, if_pos hlt] at hR1
      generalize S1.block b (f / 64) = r at *
      obtain ⟨r1, k⟩ := r
      dsimp only at *
      have e64 : ((f / 64 : Nat) : Int) = (f : Int) / 64 := by omega
      rw [e64] at cB
      by_cases hr : r1 = 0
      · subst hr
        rw [if_pos rfl] at hR1
        obtain ⟨m, hm⟩ : ∃ m, m = min (64 - f % 64) (j - f) := ⟨_, rfl⟩
        rw [← hm] at hR1
        have hmi : min ((64 : Int) - (f : Int) % 64) ((j : Int) - (f : Int)) = (m : Int) := by omega
        have hm1 : 1 ≤ m ∧ f % 64 + m ≤ 64 ∧ f + m ≤ j := by omega
        clear hm
        have cD := fun w' hI => hdo w' S1 a1 f (299 + k) (f % 64) m hI hfi rfl hm1.2.2 (by omega) hm1.1 (by omega)
        have es : ((299 + k : Nat) : Int) = 300 + (k : Int) - 1 := by omega
        have ea : ((f % 64 : Nat) : Int) = (f : Int) % 64 := by omega
        rw [es, ea] at cD
        generalize step S1 a1 (299 + k) (f % 64) m = t at *
        obtain ⟨t1, S2, a2⟩ := t
        dsimp only at cD hR1
        have hR1H : Hid _ := Lib.hid hR1
        clear hR1
        go_upto_region 6 with (go_at_call 48; refine cB.mono ?_; rintro e w3 ⟨rfl, hI3⟩)
        by_cases ht : t1 = 0
        · subst ht
          have hR2 := hR1H.out
          rw [if_pos rfl] at hR2
          have hR2H : Hid _ := Lib.hid hR2
          clear hR2 hR1H
          go_wp2_with (go_at_call 31; refine (cD _ hI3).mono ?_; rintro e w4 ⟨rfl, hI4⟩)
          go_roundg g
          case measure => omega
          case rel => exact ⟨f + m, S2, a2, by go_num, hI4, by omega, by omega, by omega, hR2H.out⟩
        · have ht1 : (t1 != 0) = true := by simpa using ht
          have hR2 := hR1H.out
          rw [if_neg ht] at hR2
          have hR2H : Hid _ := Lib.hid hR2
          clear hR2 hR1H
          go_wp2_with (go_at_call 31; refine (cD _ hI3).mono ?_; rintro e w4 ⟨rfl, hI4⟩)
          go_ret
          rw [hR2H.out]
          exact ⟨rfl, _, hI4, fun e => absurd e ht⟩
      · have hr1 : (r1 != 0) = true := by simpa using hr
        rw [if_neg hr] at hR1
        have hR1H : Hid _ := Lib.hid hR1
        clear hR1
        go_wp2_with (go_at_call 48; refine cB.mono ?_; rintro e w3 ⟨rfl, hI3⟩)
        go_ret
        rw [hR1H.out]
        exact ⟨rfl, _, hI3, fun e => absurd e hr⟩
    · have hiz : ¬ (f : Int) < (j : Int) := by omega
      have hR0 : R = (0, S1, a1) := by
        rw [hR1]
        cases gk with
        | zero => rfl
        | succ g => rw [eachF, if_neg hlt]
      have hR0H : Hid _ := Lib.hid hR0
      clear hR0 hR1
      go_wp2_with fail
      go_ret
      rw [hR0H.out]
      exact ⟨rfl, _, hI1, fun _ => by omega⟩
end
end Go.Proofs.YtjngphffgdjcfaaGreatDoor
/-
  A base's calls: bytes of a node are read.
-/
namespace Go.Lz
open Go.RowKit Go.Proofs.YtjngphffgdjcfaaGreatDoor
/-- A piece is read. -/
def readStep (S : WalS) (out : Bytes) (sec at' m : Nat) : Int × WalS × Bytes := if S.size ≤ sec then (1, S, out) else (0, S, out ++ ((S.get sec).drop at').take m)
end Go.Lz
namespace Go.Proofs.YtjngphffgdjcfaaGreatDoor
open Go.RowKit Go.Lz
section
variable {w w0 w' : World} {pb p q pn pk px gb cap n q4 po : Nat} {S : WalS} {Fs : Nat → Prop} {b out : Bytes}
/-- While bytes are read: the base, the node, and what was read so far. -/
structure RSt (w0 w : World) (pb p q pn pk px gb cap n q4 po : Nat) (S : WalS) (b out : Bytes) (Fs : Nat → Prop) : Prop where
  st : ∃ F sv, BaseIn w pb p q pn pk S F ∧ (∀ k, F k → Fs k ∨ w0.heap.size ≤ k) ∧ ¬ F px ∧ ¬ F gb ∧ ¬ F q4 ∧ ¬ F po ∧ w.heap[po]? = some (.cells #[sv] 23 (0, 0)) ∧ w.ownsRow (po + 1) 5 1 sv out.length (out.map u8v) ∧ (∀ g, sv.ownBlock = some g → ¬ F g)
  node : NodeAt w px gb cap n b
  q4b : w.heap[q4]? = some (.cells #[Dptr pb] 25 (0, 0))
  chg : Chg Fs w0 w
  le : w0.heap.size ≤ po
  lo : px < po ∧ gb < po ∧ q4 < po
  bpo : pb < w0.heap.size ∧ pn < w0.heap.size ∧ pk < w0.heap.size
theorem RSt.c4 (h : RSt w0 w pb p q pn pk px gb cap n q4 po S b out Fs) : w.cell? ⟨q4, 0, none⟩ = some (Dptr pb) := cell_of h.q4b 0
theorem RSt.cb (h : RSt w0 w pb p q pn pk px gb cap n q4 po S b out Fs) : w.cell? ⟨pb, 0, none⟩ = some (Dptr p) := by
  obtain ⟨⟨F, sv, hB, _⟩, _⟩ := h
  exact hB.c0
/-- A call on the base that leaves the store as it is. -/
theorem RSt.base {f : FuncId} {args : Array Value} {v : Value} {Q : Ending → World → Prop} (h : RSt w0 w pb p q pn pk px gb cap n q4 po S b out Fs) (hc : ∀ F', BaseIn w pb p q pn pk S F' → NodeAt w px gb cap n b → Calls Tryz.prog f args w (BDid w pb p q pn pk S F' v)) (hQ : ∀ w', RSt w0 w' pb p q pn pk px gb cap n q4 po S b out Fs → Q (.returned v) w') : Calls Tryz.prog f args w Q := by
  obtain ⟨⟨F, sv, hB, hF, h1, h2, h3, h4, h5, h6, h7⟩, hx, hq, hC, hl, hlo, hbp⟩ := h
  refine (hc F hB hx).mono ?_
  rintro e w' ⟨rfl, ⟨F2, hB2, hF2⟩, hC2⟩
  have hlx := hx.raw.2.2.2.1
  have hlg := hx.raw.2.2.1
  have l4 := lt_of_heap hq
  have lp := lt_of_heap h5
  refine hQ _ ⟨⟨F2, sv, hB2, fun k hk => (hF2 k hk).elim (hF k) (fun h => .inr (Nat.le_trans hC.size h)), fun hk => (hF2 _ hk).elim h1 (fun h => by omega), fun hk => (hF2 _ hk).elim h2 (fun h => by omega), fun hk => (hF2 _ hk).elim h3 (fun h => by omega), fun hk => (hF2 _ hk).elim h4 (fun h => by omega), (hC2.block _ lp h4).trans h5, ownsRow_chg h6 hC2 h7, fun g e hk => (hF2 _ hk).elim (h7 g e) (fun h => by have := (h6.lt g e).2; omega)⟩, hx.chg hC2 h1 h2, (hC2.block _ l4 h3).trans hq, hC.trans hC2 (fun k hk h => (hF k h).elim id (fun h => by omega)), hl, hlo, hbp⟩

set_option maxRecDepth 100000 in
set_option maxHeartbeats 2000000 in
theorem read1_any (h : RSt w0 w pb p q pn pk px gb cap n q4 po S b out Fs) {sec at' m : Nat} (ha : at' + m ≤ 64) (hm : 1 ≤ m) (ho : out.length ≤ 55296) : Calls Tryz.prog 39 #[.int .i64 (sec : Int), .int .i64 (at' : Int), .int .i64 (m : Int), .pointer (some ⟨q4, 0, none⟩), .pointer (some ⟨po, 0, none⟩)] w fun e w' => e = .returned (.int .i64 (readStep S out sec at' m).1) ∧ RSt w0 w' pb p q pn pk px gb cap n q4 po (readStep S out sec at' m).2.1 b (readStep S out sec at' m).2.2 Fs := by
  have c4 := h.c4
  have cb := h.cb
  unfold readStep
  by_cases hout : S.size ≤ sec
  · rw [if_pos hout]
    have cR : Calls Tryz.prog 32 #[Dptr p, .int .i64 (sec : Int)] w fun e w' => e = .returned (.tuple #[.slice none 0 0, .int .i64 1]) ∧ w = w' := by
      obtain ⟨⟨F, sv, hB, _⟩, _⟩ := h
      exact cread_out hB.sto (.inr (by omega)) hB.live
    go_enter Tryz.func39, Tryz.ntmps39
    go_wp2_with (go_at_call 32; refine cR.mono ?_; rintro e w3 ⟨rfl, rfl⟩)
    go_ret
    exact ⟨rfl, h⟩
  · rw [if_neg hout]
    obtain ⟨⟨F, sv, hB, hF, h1, h2, h3, h4, h5, h6, h7⟩, hx, hq, hC, hl, hlo, hbp⟩ := h
    have cR := cread_ok hB.sto (i := (sec : Int)) (k := sec) rfl hB.live (by omega)
    have hlen := hB.sto.get_len sec
    have hlenH : Hid _ := Lib.hid hlen
    clear hlen
    go_enter Tryz.func39, Tryz.ntmps39
    go_upto_region 3 with (go_at_call 32; refine cR.mono ?_; rintro e w3 ⟨v, g3, rfl, hv3, hg3, hs3, hC3⟩)
    have hpo3 := (hC3.block _ (lt_of_heap h5) h4).trans h5
    have hrow3 := ownsRow_chg h6 hC3 h7
    have cpo3 : w3.cell? ⟨po, 0, none⟩ = some sv := cell_of hpo3 0
    obtain ⟨g', cap3, cur3, rfl, hgg, hd1, hd2, hd3, hd4, hd5⟩ := hv3
    have hgg : g' = g3 := hgg
    subst hgg
    have hsub := Src.sub (show Src 5 w3 (· = g') (.slice (some ⟨g', 0, none⟩) _ cap3) (S.get sec) from ⟨g', 0, cap3, cur3, (0, 0), rfl, rfl, hd1, hd2, hd3, fun j u hu => by rw [Nat.zero_add, cell_of hd1]; rw [← hd5, List.getElem?_take] at hu; split at hu <;> first | (simp at hu; exact hu) | cases hu⟩) (k := at') (l := m) (by rw [hlenH.out]; omega)
    rw [Nat.zero_add] at hsub
    have hnl : (((S.get sec).drop at').take m).length = m := by rw [List.length_take, List.length_drop, hlenH.out]; omega
    have hnl : Hid _ := Lib.hid hnl
    obtain ⟨g5, off5, cap5, cur5, fr5, e5, e6, e7, e8, e9, hnews⟩ := hsub
    have e6 : g5 = g' := e6
    subst e6
    injection e5 with i1 i2 i3
    injection i1 with i1
    injection i1 with i1 i4
    subst i4 i3
    have hnewsH : Hid _ := Lib.hid hnews
    clear i1 i2 hnews e7 e8 e9 hd5
    have hb3 := hB.step hs3 (Txn.refl S) (fun k hk => .inl hk) hC3
    have hx3 := hx.chg hC3 h1 h2
    have hq3 := (hC3.block _ (lt_of_heap hq) h3).trans hq
    have hC13 : Chg Fs w0 w3 := hC.trans hC3 (fun k hk h => (hF k h).elim id (fun h => by omega))
    obtain ⟨i0, hi0, hz0, hz1, hz2⟩ := info_parts info_u8
    rw [hlenH.out] at hd2 ⊢
    have ha1 : (at' : Int) + (m : Int) ≤ 64 := by omega
    obtain ⟨qe, hqe⟩ : ∃ qe, qe = at' + m := ⟨_, rfl⟩
    have hwr : IntKind.i64.wrap ((at' : Int) + (m : Int)) = (qe : Int) := by rw [IntKind.wrap_i64]; omega
    have hq1 : (qe : Int) ≤ (cap3 : Int) := by omega
    have hq2 : at' ≤ qe := by omega
    have hqm : Hid (qe - at' = m) := Lib.hid (by omega)
    clear hqe
    have hca : ¬ cap3 = at' := by omega
    go_region_law ((refine step_append_lies _ (by rfl) _ _ 23 (by rfl) (po + 1) 5 i0 (.int .u8 0) 1 1 Tryz.underlying23 hi0 hz0 hz1 hz2 (by rfl) (by decide) sv out.length (out.map u8v) (by rfl) (by exact hrow3.drew) ⟨g5, at', none⟩ (qe - at') (cap3 - at') ((((S.get sec).drop at').take m).map u8v) (by rfl) (by rw [List.length_map, hnl.out, hqm.out, Nat.mul_one]) (by exact Src.news hnewsH.out) (by exact oneCells _) (by rw [hqm.out]; omega) (by rw [hqm.out]; unfold maxLen; omega) (by rw [hqm.out]; omega) (by have := lt_of_heap hpo3; simp; omega) w3.heap.size (by simp) ?_; intro gg capg w4 hown hgrow hat hltg; have hp4 := hgrow.block po (by have := lt_of_heap hpo3; simpa using this) (fun e => by have := (hrow3.lt po e.symm).1; omega); have cp4 : w4.cell? ⟨po, 0, none⟩ = some sv := cell_of (hp4.trans hpo3) 0; have fp4 := frozen_of (hp4.trans hpo3) 0))
    go_wp2_with fail
    go_ret
    refine ⟨rfl, ?_⟩
    have hcg : Chg (fun k => sv.ownBlock = some k) w3 w4 := (Chg.refl _ w3).drew.grown hgrow (fun k e _ => e)
    have hrl : ∀ g, sv.ownBlock = some g → po + 1 ≤ g := fun g e => (hrow3.lt g e).1
    have hc5 : Chg (fun k => sv.ownBlock = some k ∨ k = po) w3 (w4.setCell ⟨po, 0, none⟩ (.slice (some ⟨gg, 0, none⟩) (out.length + (qe - at')) capg)) :=
      (hcg.mono (fun _ _ h => .inl h)).setCell (fun _ => .inr rfl) _
    have hlt3 := hb3.sto.lt
    have hggF : ¬ F gg := fun hk => by
      rcases hat with e | e
      · exact h7 gg e hk
      · have := hlt3 gg hk; omega
    have hggp : po + 1 ≤ gg := by
      rcases hat with e | e
      · exact hrl gg e
      · have := lt_of_heap hpo3; omega
    have hl0 := hC13.size
    refine ⟨⟨F, (.slice (some ⟨gg, 0, none⟩) (out.length + (qe - at')) capg), hb3.chg hc5 (fun k hk e => ?_), hF, h1, h2, h3, h4, ?_, ?_, ?_⟩, hx3.chg hc5 (fun e => ?_) (fun e => ?_), (hc5.block _ (lt_of_heap hq3) (fun e => ?_)).trans hq3, hC13.trans hc5 (fun k hk e => ?_), hl, hlo, hbp⟩
    · rcases hk with hk | hk | hk | hk
      · rcases e with e | e
        · exact h7 k e hk
        · exact h4 (e ▸ hk)
      all_goals
        rcases e with e | e
        · have := hrl k e; omega
        · omega
    · have := heap_set_same (hp4.trans hpo3) 0 (.slice (some ⟨gg, 0, none⟩) (out.length + (qe - at')) capg)
      simpa using this
    · rw [hqm.out] at hown ⊢
      rw [List.length_append, hnl.out, List.map_append]
      exact ownsRow_chg (M := (· = po)) hown ((Chg.refl _ w4).own 0 _) (fun g e hk => by have := (hown.lt g e).1; omega)
    · intro g e
      have : g = gg := (Option.some.inj e).symm
      rw [this]
      exact hggF
    · rcases e with e | e
      · have := hrl px e; omega
      · have e : px = po := e
        omega
    · rcases e with e | e
      · have := hrl gb e; omega
      · have e : gb = po := e
        omega
    · rcases e with e | e
      · have := hrl q4 e; omega
      · have e : q4 = po := e
        omega
    · rcases e with e | e
      · have := hrl k e; omega
      · omega
end
end Go.Proofs.YtjngphffgdjcfaaGreatDoor
/-
  A base's calls: Read.
-/
namespace Go.Lz
open Go.RowKit Go.Proofs.YtjngphffgdjcfaaGreatDoor
/-- What Read tells: the error, the bytes. -/
def WalS.readAll (S : WalS) (b : Bytes) (at' k : Nat) : Int × WalS × Bytes :=
  eachF readStep b (min k (nSize b - min at' (nSize b))) (min at' (nSize b)) (min at' (nSize b) + min k (nSize b - min at' (nSize b))) S []
def WalS.readN (S : WalS) (n at' k : Int) : Int × Bytes :=
  if S.nodeE n ≠ 0 then (S.nodeE n, []) else if at' < 0 ∨ k < 0 then (1, []) else
  ((S.readAll (S.nodeB n.toNat) at'.toNat k.toNat).1, if (S.readAll (S.nodeB n.toNat) at'.toNat k.toNat).1 = 0 then (S.readAll (S.nodeB n.toNat) at'.toNat k.toNat).2.2 else [])
end Go.Lz
namespace Go.Proofs.YtjngphffgdjcfaaGreatDoor
open Go.RowKit Go.Lz
section
variable {w w0 w' : World} {pb p q pn pk px gb cap n q4 po : Nat} {S : WalS} {Fs : Nat → Prop} {b out : Bytes}
/-- Bytes that a call hands back: none, or a row that nobody else has. -/
def OutV (w0 w : World) (F : Nat → Prop) (v : Value) (out : Bytes) : Prop := (out = [] ∧ v = .slice none 0 0) ∨ ∃ g, Dat 5 w (· = g) v out ∧ w0.heap.size ≤ g ∧ ¬ F g
/-- The base is S, its footprint F. -/
def BSt2 (w0 w : World) (pb p q pn pk : Nat) (S : WalS) (Fs F : Nat → Prop) : Prop := BaseIn w pb p q pn pk S F ∧ (∀ k, F k → Fs k ∨ w0.heap.size ≤ k) ∧ Chg Fs w0 w
def IReadPost (w : World) (pb p q pn pk : Nat) (S : WalS) (Fs : Nat → Prop) (n at' k : Int) (e : Ending) (w' : World) : Prop :=
  ∃ F v, BSt2 w w' pb p q pn pk S Fs F ∧ e = .returned (.tuple #[v, .int .i64 (S.readN n at' k).1]) ∧ OutV w w' F v (S.readN n at' k).2

theorem eachR_S (b : Bytes) : ∀ (d i j : Nat) (S : WalS) (out : Bytes), (eachF readStep b d i j S out).2.1 = S := by
  intro d
  induction d with
  | zero => intros; rfl
  | succ d ih =>
    intro i j S out
    unfold eachF
    split
    · split
      · have hs : ∀ o s a m, (readStep S o s a m).2.1 = S := by
          intro o s a m
          unfold readStep
          split <;> rfl
        dsimp only
        split
        · rw [ih, hs]
        · exact hs _ _ _ _
      · rfl
    · rfl

/-- A node is there. -/
theorem load_yes (h : BaseIn w pb p q pn pk S Fs) {n : Int} (hE : S.nodeE n = 0) : Calls Tryz.prog 26 #[Dptr pb, .int .i64 n] w fun e w' => ∃ px gb cap, e = .returned (.tuple #[Dptr px, .int .i64 0]) ∧ BaseIn w' pb p q pn pk S Fs ∧ Chg Fs w w' ∧ NodeAt w' px gb cap n.toNat (S.nodeB n.toNat) ∧ w.heap.size ≤ px ∧ w.heap.size ≤ gb ∧ ¬ Fs px ∧ ¬ Fs gb := by
  refine (load_any h n).mono ?_
  rintro e w' ⟨h1, h2, h3 | ⟨_, px, gb, cap, h4, h5⟩⟩
  · exact absurd hE h3.1
  · exact ⟨px, gb, cap, h4, h1, h2, h5⟩
/-- It is not. -/
theorem load_no (h : BaseIn w pb p q pn pk S Fs) {n : Int} (hE : S.nodeE n ≠ 0) : Calls Tryz.prog 26 #[Dptr pb, .int .i64 n] w fun e w' => e = .returned (.tuple #[.pointer none, .int .i64 (S.nodeE n)]) ∧ BaseIn w' pb p q pn pk S Fs ∧ Chg Fs w w' := by
  refine (load_any h n).mono ?_
  rintro e w' ⟨h1, h2, h3 | h3⟩
  · exact ⟨h3.2, h1, h2⟩
  · exact absurd h3.1 hE
theorem block_num (S : WalS) (b : Bytes) (i : Nat) : (S.block b i).2 < 65536 := by
  unfold WalS.block WalS.listed
  split
  · exact twoN_lt _ _
  · split
    · decide
    · split
      · decide
      · exact twoN_lt _ _
theorem readStep_S (S : WalS) (o : Bytes) (s a m : Nat) : (readStep S o s a m).2.1 = S := by
  unfold readStep
  split <;> rfl
theorem readStep_len {S : WalS} (o : Bytes) (s a m : Nat) : (readStep S o s a m).2.2.length ≤ o.length + m := by
  unfold readStep
  split
  · exact Nat.le_add_right _ _
  · show (o ++ _).length ≤ _
    rw [List.length_append, List.length_take]
    omega
theorem eachR_any (h : RSt w0 w pb p q pn pk px gb cap n q4 po S b [] Fs) {i j : Nat} (hj : j ≤ 55296) :
    Calls Tryz.prog 30 #[Dptr pb, Dptr px, .int .i64 (i : Int), .int .i64 (j : Int), .func (.func 39) #[] #[.pointer (some ⟨q4, 0, none⟩), .pointer (some ⟨po, 0, none⟩)]] w fun e w' => e = .returned (.int .i64 (eachF readStep b (j - i) i j S []).1) ∧ RSt w0 w' pb p q pn pk px gb cap n q4 po S b (eachF readStep b (j - i) i j S []).2.2 Fs := by
  refine (each_read (pb := pb) (px := px) (b := b) (fun w' S' out f => S' = S ∧ RSt w0 w' pb p q pn pk px gb cap n q4 po S b out Fs ∧ out.length ≤ f - i) readStep _ _ (i := i) (j := j) ?_ ?_ (fun S i => block_num S b i) hj (S := S) (a := []) ⟨rfl, h, Nat.zero_le _⟩).mono ?_
  · rintro w1 S1 a f k ⟨rfl, hR, hl⟩ hk
    exact hR.base (fun F' hB hx => block_any hB hx hk) (fun w' h' => ⟨rfl, rfl, h', hl⟩)
  · rintro w1 S1 a f sec at' m ⟨rfl, hR, hl⟩ hif hat hfm ham hm hsec
    refine (read1_any hR ham hm (sec := sec) (by omega)).mono ?_
    rintro e w' ⟨he, h'⟩
    rw [readStep_S] at h'
    refine ⟨he, readStep_S _ _ _ _ _, h', ?_⟩
    have := readStep_len (S := S1) a sec at' m
    omega
  · rintro e w' ⟨he, f, ⟨hS, hR, _⟩, _⟩
    exact ⟨he, hR⟩
theorem RSt.start {w2 : World} (h : BaseIn w pb p q pn pk S Fs) (hB2 : BaseIn w2 pb p q pn pk S Fs) (hC : Chg Fs w w2) (hx2 : NodeAt w2 px gb cap n b) (h1 : ¬ Fs px) (h2 : ¬ Fs gb) (hq : w2.heap[q4]? = some (.cells #[Dptr pb] 25 (0, 0))) (h3 : ¬ Fs q4) : RSt w (w2.alloc (.cells #[.slice none 0 0] 23)) pb p q pn pk px gb cap n q4 w2.heap.size S b [] Fs := by
  have hc : Chg (fun _ => False) w2 (w2.alloc (.cells #[.slice none 0 0] 23)) := (Chg.refl _ w2).alloc _
  have hlt := hB2.sto.lt
  refine ⟨⟨Fs, .slice none 0 0, hB2.chg hc (fun _ _ h => h), fun _ h => .inl h, h1, h2, h3, fun hk => Nat.lt_irrefl _ (hlt _ hk), heap_alloc_new _ _, ⟨rfl, .inl ⟨rfl, rfl⟩⟩, fun g e => (by cases e)⟩, hx2.chg hc (fun h => h) (fun h => h), (hc.block _ (lt_of_heap hq) (fun h => h)).trans hq, hC.trans hc (fun _ _ h => h.elim), hC.size, ⟨lt_of_heap hx2.blk, hx2.raw.2.2.1, lt_of_heap hq⟩, lt_of_heap h.blk, lt_of_heap h.mN, lt_of_heap h.mK⟩
theorem RSt.below (h : RSt w0 w pb p q pn pk px gb cap n q4 po S b out Fs) (hb : Below w.heap.size w w') : RSt w0 w' pb p q pn pk px gb cap n q4 po S b out Fs := by
  obtain ⟨⟨F, sv, hB, hF, h1, h2, h3, h4, h5, h6, h7⟩, hx, hq, hC, hl, hlo, hbp⟩ := h
  exact ⟨⟨F, sv, hB.below hb, hF, h1, h2, h3, h4, (hb.block _ (lt_of_heap h5)).trans h5, ownsRow_chg h6 (M := fun _ => False) (Chg.of_below hb) (fun _ _ h => h), h7⟩, hx.below hb, (hb.block _ (lt_of_heap hq)).trans hq, hC.below hb, hl, hlo, hbp⟩
theorem RSt.szC (h : RSt w0 w pb p q pn pk px gb cap n q4 po S b out Fs) : Calls Tryz.prog 28 #[Dptr px] w fun e w' => e = .returned (.int .i64 (nSize b : Int)) ∧ RSt w0 w' pb p q pn pk px gb cap n q4 po S b out Fs :=
  (nsize_any h.node).mono fun _ _ h2 => ⟨h2.1, h.below h2.2⟩
theorem RSt.cpo (h : RSt w0 w pb p q pn pk px gb cap n q4 po S b out Fs) : ∃ sv, w.cell? ⟨po, 0, none⟩ = some sv ∧ w.ownsRow (po + 1) 5 1 sv out.length (out.map u8v) ∧ ∃ F, BaseIn w pb p q pn pk S F ∧ (∀ k, F k → Fs k ∨ w0.heap.size ≤ k) ∧ ∀ g, sv.ownBlock = some g → ¬ F g := by
  obtain ⟨⟨F, sv, hB, hF, h1, h2, h3, h4, h5, h6, h7⟩, hx, hq, hC, hl, hlo, hbp⟩ := h
  exact ⟨sv, cell_of h5 0, h6, F, hB, hF, h7⟩
theorem clip_nil (w : World) : Calls Tryz.prog 40 #[.slice none 0 0] w fun e w' => e = .returned (.slice none 0 0) ∧ w = w' := by
  go_enter Tryz.func40, Tryz.ntmps40
  go_wp2
  go_ret
  exact ⟨rfl, rfl⟩
theorem nodeE_num {S : WalS} {n : Int} (h : S.nodeE n = 0) : 1 ≤ n ∧ n ≤ 64 := by
  unfold WalS.nodeE at h
  split at h
  · cases h
  · omega
set_option maxRecDepth 100000 in
set_option maxHeartbeats 2000000 in
theorem iread_any (h : BaseIn w pb p q pn pk S Fs) (n at' k : Int) (hsz : S.nodeE n = 0 → nSize (S.nodeB n.toNat) ≤ 55296) : Calls Tryz.prog 12 #[Dptr pb, .int .i64 n, .int .i64 at', .int .i64 k] w (IReadPost w pb p q pn pk S Fs n at' k) := by
  have hszH : Hid _ := Lib.hid hsz
  clear hsz
  have hc0 : Chg (fun _ => False) w (w.alloc (.cells #[Dptr pb] 25)) := (Chg.refl _ w).alloc _
  have h1 := h.chg hc0 (fun _ _ h => h)
  have hq0 : (w.alloc (.cells #[Dptr pb] 25)).heap[w.heap.size]? = some (.cells #[Dptr pb] 25 (0, 0)) := heap_alloc_new w _
  have cq0 : (w.alloc (.cells #[Dptr pb] 25)).cell? ⟨w.heap.size, 0, none⟩ = some (Dptr pb) := cell_of hq0 0
  have hs0 : (w.alloc (.cells #[Dptr pb] 25)).heap.size = w.heap.size + 1 := by simp
  have hFl := h.sto.lt
  obtain ⟨w1, hw1⟩ : ∃ w1, w1 = w.alloc (.cells #[Dptr pb] 25) := ⟨_, rfl⟩
  rw [← hw1] at h1 hc0 hq0 cq0 hs0
  have hw1H : Hid _ := Lib.hid hw1
  have hC0H : Hid _ := Lib.hid hc0
  have hr0 : S.nodeE n = 0 ∨ S.nodeE n ≠ 0 := Classical.em _
  unfold IReadPost WalS.readN
  rcases hr0 with hE | hE
  · have cL := load_yes h1 hE
    rw [if_neg (by rw [hE]; decide)]
    have hbz := hszH.out hE
    have hbzH : Hid _ := Lib.hid hbz
    clear hw1 hc0 hbz hszH
    by_cases ha : at' < 0
    · rw [if_pos (.inl ha)]
      go_enter Tryz.func12, Tryz.ntmps12
      go_wp2_with (rw [← hw1H.out]; go_at_call 26; refine cL.mono ?_; rintro e w2 ⟨px, gb, cap, rfl, hB2, hC2, _⟩)
      go_ret2
      exact ⟨Fs, _, ⟨hB2, fun _ h => .inl h, (hC0H.out.mono (fun _ _ h => h.elim)).trans hC2 (fun _ _ h => h)⟩, rfl, .inl ⟨rfl, rfl⟩⟩
    by_cases hk : k < 0
    · rw [if_pos (.inr hk)]
      go_enter Tryz.func12, Tryz.ntmps12
      go_wp2_with (rw [← hw1H.out]; go_at_call 26; refine cL.mono ?_; rintro e w2 ⟨px, gb, cap, rfl, hB2, hC2, _⟩)
      go_ret2
      exact ⟨Fs, _, ⟨hB2, fun _ h => .inl h, (hC0H.out.mono (fun _ _ h => h.elim)).trans hC2 (fun _ _ h => h)⟩, rfl, .inl ⟨rfl, rfl⟩⟩
    rw [if_neg (fun h => h.elim ha hk)]
    obtain ⟨A, rfl⟩ : ∃ A : Nat, at' = (A : Int) := ⟨at'.toNat, by omega⟩
    obtain ⟨K, rfl⟩ : ∃ K : Nat, k = (K : Int) := ⟨k.toNat, by omega⟩
    rw [Int.toNat_natCast, Int.toNat_natCast]
    obtain ⟨bb, hbb⟩ : ∃ bb, bb = S.nodeB n.toNat := ⟨_, rfl⟩
    rw [← hbb] at cL hbzH ⊢
    clear hbb
    generalize n.toNat = N at *
    obtain ⟨r1, S9, out, hRd⟩ : ∃ r1 S9 out, S.readAll bb A K = (r1, S9, out) := ⟨_, _, _, rfl⟩
    rw [hRd]
    dsimp only
    obtain ⟨o2, ho2⟩ : ∃ o2, o2 = (if r1 = 0 then out else []) := ⟨_, rfl⟩
    rw [← ho2]
    have hRdH : Hid _ := Lib.hid hRd
    have ho2H : Hid _ := Lib.hid ho2
    clear hRd ho2
    go_enter Tryz.func12, Tryz.ntmps12
    go_upto_region 6 with (rw [← hw1H.out]; go_at_call 26; refine cL.mono ?_; rintro e w2 ⟨px, gb, cap, rfl, hB2, hC2, hx2, hpx, hgb, hnpx, hngb⟩)
    have hq2 := (hC2.block _ (lt_of_heap hq0) (fun hk => by have := hFl _ hk; omega)).trans hq0
    have hC02 : Chg Fs w w2 := (hC0H.out.mono (fun _ _ h => h.elim)).trans hC2 (fun _ _ h => h)
    have hR3 := RSt.start h hB2 hC02 hx2 hnpx hngb hq2 (fun hk => by have := hFl _ hk; omega)
    have hsz2 := hC02.size
    obtain ⟨w3, hw3⟩ : ∃ w3, w3 = w2.alloc (.cells #[.slice none 0 0] 23) := ⟨_, rfl⟩
    rw [← hw3] at hR3
    have hw3H : Hid _ := Lib.hid hw3
    obtain ⟨po, hpo⟩ : ∃ po, po = w2.heap.size := ⟨_, rfl⟩
    rw [← hpo] at hR3
    have hpoH : Hid _ := Lib.hid hpo
    have hsz2H : Hid _ := Lib.hid hsz2
    clear hw3 hpo hsz2 cL h1 hq0 cq0 hs0 hB2 hC2 hx2 hq2 hC02
    go_upto_region 7 with fail
    rw [← hw3H.out, ← hpoH.out]
    have cS3 := hR3.szC
    have hmin : ∀ z : Nat, min (A : Int) (z : Int) = ((min A z : Nat) : Int) := fun z => by omega
    go_upto_region 8 with (go_at_call 28; refine cS3.mono ?_; rintro e w4 ⟨rfl, hR4⟩)
    have hR5 : RSt w w4.drew pb p q pn pk px gb cap N w.heap.size po S bb [] Fs := hR4.below (Below.refl _ w4).drew
    have k5 := hR5.c4
    have cS5 := hR5.szC
    generalize hzn : nSize bb = z at *
    have hzH : Hid _ := Lib.hid hzn
    have hz5 := hbzH.out
    obtain ⟨a, ha'⟩ : ∃ a, a = min A z := ⟨_, rfl⟩
    have haH : Hid _ := Lib.hid ha'
    have haz : a ≤ z := by omega
    rw [← ha']
    clear ha' hzn hmin hR4 hR3 cS3
    have hm1 : ((z : Int) - (a : Int)) = ((z - a : Nat) : Int) := by omega
    have hmin : min (K : Int) ((z : Int) - (a : Int)) = ((min K (z - a) : Nat) : Int) := by omega
    clear hm1
    obtain ⟨kk, hkk⟩ : ∃ kk, kk = min K (z - a) := ⟨_, rfl⟩
    rw [← hkk] at hmin
    have hkkH : Hid _ := Lib.hid hkk
    have hkz : a + kk ≤ z := by omega
    clear hkk
    have hEq : Hid (IntKind.i64.wrap ((a : Int) + min (K : Int) (IntKind.i64.wrap ((z : Int) - (a : Int)))) = ((a + kk : Nat) : Int)) := Lib.hid (by
      have e1 : IntKind.i64.wrap ((z : Int) - (a : Int)) = (z : Int) - (a : Int) := by rw [IntKind.wrap_i64]; omega
      rw [e1, IntKind.wrap_i64]
      omega)
    have hRA : eachF readStep bb (a + kk - a) a (a + kk) S [] = S.readAll bb A K := by
      unfold WalS.readAll
      rw [hzH.out, ← haH.out, ← hkkH.out, Nat.add_sub_cancel_left]
    have cE : ∀ w6, RSt w w6 pb p q pn pk px gb cap N w.heap.size po S bb [] Fs → Calls Tryz.prog 30 #[Dptr pb, Dptr px, .int .i64 (a : Int), .int .i64 ((a + kk : Nat) : Int), .func (.func 39) #[] #[.pointer (some ⟨w.heap.size, 0, none⟩), .pointer (some ⟨po, 0, none⟩)]] w6 fun e w' => e = .returned (.int .i64 r1) ∧ RSt w w' pb p q pn pk px gb cap N w.heap.size po S bb out Fs := fun w6 hR6 => by
      have := eachR_any hR6 (i := a) (j := a + kk) (by omega)
      rw [hRA, hRdH.out] at this
      exact this
    clear hRA
    have hmin0 : Hid _ := Lib.hid hmin
    clear hmin
    go_region_held (fun W => W.cell? ⟨w.heap.size, 0, none⟩ = some (Dptr pb)) (first | exact k5 | exact k6 | exact k7) (first
      | (go_at_call 28; refine cS5.mono ?_; rintro e w6 ⟨rfl, hR6⟩; have k6 := hR6.c4)
      | (go_at_call 30; rw [hEq.out]; refine (cE _ hR6).mono ?_; rintro e w7 ⟨rfl, hR7⟩; have k7 := hR7.c4))
    all_goals
      obtain ⟨sv, hsv, hrow, F, hB7, hF7, hsF⟩ := hR7.cpo
      have hC7 := hR7.chg
      have hpol := hR7.le
      have hB7H : Hid _ := Lib.hid hB7
      have hF7H : Hid _ := Lib.hid hF7
      have hsFH : Hid _ := Lib.hid hsF
      have hC7H : Hid _ := Lib.hid hC7
      have hrowH : Hid _ := Lib.hid hrow
      clear hB7 hF7 hsF hC7 hrow hR7 hR6 hR5 cE cS5
      by_cases hr1 : r1 = 0
      · subst hr1
        have hooH : Hid (o2 = out) := Lib.hid (ho2H.out.trans (if_pos rfl))
        obtain ⟨hl0, hrc⟩ := hrowH.out
        rcases hrc with ⟨rfl, hl⟩ | ⟨g, cp, cur, rfl, hg1, hg2, hg3, hg4, hg5, hg6⟩
        · have hoe : out = [] := List.length_eq_zero_iff.1 hl
          go_wp2_with (go_at_call 40; refine (clip_nil _).mono ?_; rintro e w8 ⟨rfl, rfl⟩)
          go_ret2
          exact ⟨F, _, ⟨hB7H.out, hF7H.out, hC7H.out⟩, rfl, .inl ⟨by rw [hooH.out, hoe], rfl⟩⟩
        · go_wp2_with (go_at_call 40; refine (clip_bytes _ _ _ _ hg3 hg4).mono ?_; rintro e w8 ⟨rfl, rfl⟩)
          go_ret2
          refine ⟨F, _, ⟨hB7H.out, hF7H.out, hC7H.out⟩, rfl, .inr ⟨g, ?_, by omega, fun hk => hsFH.out g rfl hk⟩⟩
          have hl2 : (out.map u8v).length = out.length := List.length_map ..
          rw [hooH.out]
          refine ⟨g, out.length, cur, rfl, rfl, hg2, Nat.le_refl _, by omega, by omega, ?_⟩
          rw [Nat.mul_one] at hg6
          exact hg6
      · have hr2 : (r1 != 0) = true := by simpa using hr1
        go_wp2_with fail
        go_ret2
        exact ⟨F, _, ⟨hB7H.out, hF7H.out, hC7H.out⟩, rfl, .inl ⟨by rw [ho2H.out, if_neg hr1], rfl⟩⟩
  · have cL := load_no h1 hE
    rw [if_pos hE]
    have hE1 : (S.nodeE n != 0) = true := by simpa using hE
    clear hw1 hc0
    go_enter Tryz.func12, Tryz.ntmps12
    go_wp2_with (rw [← hw1H.out]; go_at_call 26; refine cL.mono ?_; rintro e w2 ⟨rfl, hB2, hC2⟩)
    go_ret2
    exact ⟨Fs, _, ⟨hB2, fun _ h => .inl h, (hC0H.out.mono (fun _ _ h => h.elim)).trans hC2 (fun _ _ h => h)⟩, rfl, .inl ⟨rfl, rfl⟩⟩
end
end Go.Proofs.YtjngphffgdjcfaaGreatDoor
