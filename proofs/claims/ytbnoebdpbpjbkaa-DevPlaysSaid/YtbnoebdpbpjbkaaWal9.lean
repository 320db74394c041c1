/-
  The store of a device: Open.
-/
import Derived.Test.YtbnoebdpbpjbkaaWal8
import Derived.Test.YtbnoebdpbpjbkaaLaw1e
namespace Go.Proofs.Ytbnoebdpbpjbkaa
open Go.RowKit Go.Lz
section
variable {w w' : World} {p q : Nat} {D : DevS} {Fd Fs F : Nat → Prop}

theorem logged_dead (hp : w.cell? ⟨p, 0, none⟩ = some (Dp q)) (hD : DevAt Try.prog w q D Fd) (hd : D.dead = true) : Calls Try.prog 81 #[Dptr p] w fun e w' => e = .returned (.tuple #[.map none, .int .i64 50]) ∧ w = w' := by
  go_enter Try.func81, Try.ntmps81
  go_wp2_with (go_at_call 19; refine (read_dead hD hd _).mono ?_; rintro e w' ⟨rfl, rfl⟩)
  go_ret2
  exact ⟨rfl, rfl⟩

/-- The blocks of a new store. -/
def newB (s : Nat) : Nat → Prop := fun k => s ≤ k ∧ k < s + 3

/-- A new store, as it lies. -/
theorem newStore {s : Nat} (h0 : w.heap[s]? = some (.map #[] 0)) (h1 : w.heap[s + 1]? = some (.map #[] 0)) (h2 : w.heap[s + 2]? = some (.cells #[Dp q, .map (some s), .map (some (s + 1)), .int .i64 0, .int .i64 0, .bool false] 129 (0, 0)))
    (hD : DevAt Try.prog w q D Fd) (hn : 300 < D.n) (hF : ∀ k, Fd k → ¬ newB s k) : StoreIn Try.prog w (s + 2) q (WalS.new D) Fd (newB s) s (s + 1) (fun _ => none) (fun _ => none) 0 0 := by
  have hm : ∀ m, w.heap[m]? = some (.map #[] 0) → MapAt Try.prog 3 w m (fun _ => none) 0 := fun m hm => by
    obtain ⟨w0, hw0⟩ : ∃ w0 : World, w0 = { w with heap := w.heap.extract 0 m } := ⟨_, rfl⟩
    have hsz : w0.heap.size = m := by rw [hw0]; have := lt_of_heap hm; simp; omega
    have := MapAt.made (P := Try.prog) (T := 3) w0
    rw [hsz] at this
    exact this.heap (hm.trans (by rw [← hsz]; exact (heap_alloc_new w0 _).symm))
  have l2 := lt_of_heap h2
  exact ⟨h2, hD, ⟨hm s h0, fun _ _ e => (by cases e), fun _ _ => rfl, ⟨by omega, by omega⟩⟩, ⟨hm (s + 1) h1, fun _ _ e => (by cases e), fun _ _ => rfl, ⟨by omega, by omega⟩⟩, by omega, ⟨by omega, by omega⟩, fun k hk => by have := hk.2; omega, fun k hk h => hF k h hk, ⟨hn, fun _ _ e => (by cases e), fun _ _ e => (by cases e)⟩⟩

/-- What an opening hands back: a store of the device; or an error. -/
def OpenPost (w : World) (q : Nat) (D : DevS) (Fd : Nat → Prop) (e : Ending) (w' : World) : Prop :=
  (D.opened.1 = 0 ∧ ∃ p, e = .returned (.tuple #[Dptr p, .int .i64 0]) ∧ StoreAt Try.prog w' p q (WalS.new D.opened.2) (ext Fd w w') ∧ Chg Fd w w') ∨
  (D.opened.1 ≠ 0 ∧ e = .returned (.tuple #[.pointer none, .int .i64 D.opened.1]) ∧ DevAt Try.prog w' q D.opened.2 (ext Fd w w') ∧ Chg Fd w w')

theorem wopen_nil (w : World) : Calls Try.prog 44 #[.pointer none] w fun e w' => e = .returned (.tuple #[.pointer none, .int .i64 1]) ∧ w = w' := by
  go_enter Try.func44, Try.ntmps44
  go_wp2
  go_ret2
  exact ⟨rfl, rfl⟩

set_option maxRecDepth 100000 in
set_option maxHeartbeats 1000000 in
theorem wopen_any (hD : DevAt Try.prog w q D Fd) : Calls Try.prog 44 #[Dptr q] w (OpenPost w q D Fd) := by
  have hn8 := hD.ok.n
  have hmm := @run_makeMap Try.prog
  by_cases hn : D.n ≤ 300
  · have ho : D.opened = (1, D) := if_pos hn
    have hoH : Hid _ := Lib.hid ho
    have hz : D.n - 300 = 0 := by omega
    have hro := room_any w D.n (by omega)
    rw [hz] at hro
    clear ho hz
    go_enter Try.func44, Try.ntmps44
    go_wp2_with (first
      | (go_at_call 66; refine (size_any hD).mono ?_; rintro e w' ⟨rfl, rfl⟩)
      | (go_at_call 80; refine hro.mono ?_; rintro e w' ⟨rfl, rfl⟩))
    go_ret2
    unfold OpenPost
    rw [hoH.out]
    exact .inr ⟨by show (1 : Int) ≠ 0; decide, rfl, hD.mono (fun _ h => .inl h) (fun k h => h.elim (hD.lt k) (·.2)), Chg.refl _ _⟩
  · have hro := room_any w D.n (by omega)
    obtain ⟨sz, hsz⟩ : ∃ sz, sz = D.n - 300 := ⟨_, rfl⟩
    have hszH : Hid _ := Lib.hid hsz
    have hsz0 : 0 < sz := by omega
    have hsz1 : ((sz : Int) == 0) = false := by simp; omega
    rw [← hsz] at hro
    clear hsz
    have hlt := hD.lt
    go_enter Try.func44, Try.ntmps44
    go_wp2_with (first
      | (go_at_call 66; refine (size_any hD).mono ?_; rintro e w' ⟨rfl, rfl⟩)
      | (go_at_call 80; refine hro.mono ?_; rintro e w' ⟨rfl, rfl⟩))
    have hW0 : ∃ W0, W0 = (((w.alloc (.map #[] 0)).alloc (.map #[] 0)).alloc (.cells #[Dp q, .map (some w.heap.size), .map (some (w.heap.size + 1)), .int .i64 0, .int .i64 0, .bool false] 129)) := ⟨_, rfl⟩
    obtain ⟨W0, hW0⟩ := hW0
    have hb0 : Below w.heap.size w W0 := by rw [hW0]; exact ((((Below.refl _ w).alloc (Nat.le_refl _) _).alloc (by rw [World.size_alloc]; omega) _).alloc (by rw [World.size_alloc, World.size_alloc]; omega) _)
    have g0 : W0.heap[w.heap.size]? = some (.map #[] 0) := by
      rw [hW0, Below.heap_alloc _ _ _ (by rw [World.size_alloc, World.size_alloc]; omega), Below.heap_alloc _ _ _ (by rw [World.size_alloc]; omega)]
      exact heap_alloc_new w _
    have g1 : W0.heap[w.heap.size + 1]? = some (.map #[] 0) := by
      rw [hW0, Below.heap_alloc _ _ _ (by rw [World.size_alloc, World.size_alloc]; omega)]
      have := heap_alloc_new (w.alloc (.map #[] 0)) (.map #[] 0)
      rwa [World.size_alloc] at this
    have g2 : W0.heap[w.heap.size + 2]? = some (.cells #[Dp q, .map (some w.heap.size), .map (some (w.heap.size + 1)), .int .i64 0, .int .i64 0, .bool false] 129 (0, 0)) := by
      rw [hW0]
      have := heap_alloc_new ((w.alloc (.map #[] 0)).alloc (.map #[] 0)) (.cells #[Dp q, .map (some w.heap.size), .map (some (w.heap.size + 1)), .int .i64 0, .int .i64 0, .bool false] 129)
      rwa [World.size_alloc, World.size_alloc] at this
    rw [← hW0]
    clear hW0 hro
    have hD0 := hD.below hb0
    have hp0 : W0.cell? ⟨w.heap.size + 2, 0, none⟩ = some (Dp q) := cell_of g2 0
    have hpl := lt_of_heap g2
    have hpF : ¬ Fd (w.heap.size + 2) := fun h => by have := hlt _ h; omega
    have hnew : ∀ k, Fd k → ¬ newB w.heap.size k := fun k hk h => by have := hlt k hk; have := h.1; omega
    by_cases hd : D.dead = true
    · have ho : D.opened = (50, D) := by unfold DevS.opened; rw [if_neg hn, if_pos hd]
      have hoH : Hid _ := Lib.hid ho
      clear ho
      refine (logged_dead hp0 hD0 hd).mono ?_
      rintro e w' ⟨rfl, rfl⟩
      go_wp2_with fail
      go_ret2
      unfold OpenPost
      rw [hoH.out]
      exact .inr ⟨by show (50 : Int) ≠ 0; decide, rfl, hD0.mono (fun _ h => .inl h) (fun k h => h.elim (fun h => Nat.lt_of_lt_of_le (hlt k h) hb0.size) (·.2)), Chg.of_below hb0⟩
    · have hd' : D.dead = false := by simpa using hd
      refine (logged_any hp0 hpl hpF hD0 hd' (by omega)).mono ?_
      rintro e w1 ⟨m, rfl, Fl, vf, c, hD1, hm1, hFl, hC1⟩
      have hs1 := hC1.size
      have hs0 := hb0.size
      have ho : D.opened = if keysF (logFL D.now (D.n - 300) (numL D.now)) (D.n - 300) = [] then (0, D.countedN (1 + 2 * numL D.now)) else (D.countedN (1 + 2 * numL D.now)).home (logFL D.now (D.n - 300) (numL D.now)) (D.n - 300) := by
        unfold DevS.opened
        rw [if_neg hn, if_neg hd]
      have hfb : ∀ k b, logFL D.now (D.n - 300) (numL D.now) k = some b → b.length = 64 ∧ k < D.n - 300 := fun k b e => logFL_ok (fun k => hD.ok.now k) e
      have hfs : ∀ k, (logFL D.now (D.n - 300) (numL D.now) k).isSome = true → k < D.n - 300 := fun k e => by
        obtain ⟨b, hb⟩ := Option.isSome_iff_exists.1 e
        exact (hfb k b hb).2
      have hcc := hm1.count Try.underlying3 hfs
      have hDn : (D.countedN (1 + 2 * numL D.now)).n = D.n := DevS.countedN_n _ _
      generalize D.countedN (1 + 2 * numL D.now) = D' at ho hD1 hDn
      generalize logFL D.now (D.n - 300) (numL D.now) = f at ho hm1 hfb hfs hcc
      have hln := hm1.map.len (P := Try.prog) Try.underlying127
      have hlt1 := hD1.lt
      have hFlF : ∀ k, Fl k → ¬ Fd k := fun k hk h => by have := (hFl k hk).1; have := hlt k h; omega
      have hp1 : w1.cell? ⟨w.heap.size + 2, 0, none⟩ = some (Dp q) := (hC1.cell (p := ⟨w.heap.size + 2, 0, none⟩) hpl hpF).trans hp0
      have g0' := (hC1.block w.heap.size (lt_of_heap g0) (fun h => by have := hlt _ h; omega)).trans g0
      have g1' := (hC1.block (w.heap.size + 1) (lt_of_heap g1) (fun h => by have := hlt _ h; omega)).trans g1
      have g2' := (hC1.block (w.heap.size + 2) (lt_of_heap g2) hpF).trans g2
      have hC01 : Chg Fd w w1 := (Chg.of_below hb0).trans hC1 (fun _ _ h => h)
      have hoH : Hid _ := Lib.hid ho
      have hccH : Hid _ := Lib.hid hcc
      have hDnH : Hid _ := Lib.hid hDn
      clear ho hcc hDn hC1 g0 g1 g2 hp0 hD0
      by_cases hc0 : c = 0
      · subst hc0
        have hoo : D.opened = (0, D') := by rw [hoH.out, if_pos (List.length_eq_zero_iff.1 hccH.out.symm)]
        have hoH : Hid _ := Lib.hid hoo
        clear hoo
        go_wp2_with fail
        go_ret2
        unfold OpenPost
        rw [hoH.out]
        have hst := newStore g0' g1' g2' hD1 (by rw [hDnH.out]; omega) hnew
        exact .inl ⟨rfl, _, rfl, hst.at_ (fun k hk => .inl hk) (fun k hk => .inr ⟨hk.1, hst.Flt k hk⟩) (fun k hk => hk.elim (hlt1 k) (·.2)), hC01⟩
      · have hoo : D.opened = D'.home f (D.n - 300) := by rw [hoH.out, if_neg (fun e => hc0 (hccH.out.trans (by rw [e]; rfl)))]
        have hoH : Hid _ := Lib.hid hoo
        have hcI : (0 : Int) < (c : Int) := by omega
        have hcN : 0 < c := by omega
        have ch := home_any hp1 (Nat.lt_of_lt_of_le hpl hs1) hpF hD1 hm1 hFlF (n := D.n - 300) (by omega) hfb
        have hrn : (D'.home f (D.n - 300)).2.n = D.n := (D'.home_n _ _).trans hDnH.out
        obtain ⟨r, hr⟩ : ∃ r, r = D'.home f (D.n - 300) := ⟨_, rfl⟩
        rw [← hr] at ch hrn hoH
        have hrnH : Hid _ := Lib.hid hrn
        clear hr hoo hccH hrn hc0
        go_wp2_with fail
        refine ch.mono ?_
        rintro e w2 ⟨rfl, hD2, hC2⟩
        clear ch
        have hs2 := hC2.size
        have hC02 : Chg Fd w w2 := hC01.trans hC2 (fun _ _ h => h)
        by_cases hr0 : r.1 = 0
        · rw [hr0]
          have hr0H : Hid _ := Lib.hid hr0
          clear hr0
          go_wp2_with fail
          go_ret2
          unfold OpenPost
          rw [hoH.out]
          have g0'' := (hC2.block w.heap.size (lt_of_heap g0') (fun h => by have := hlt _ h; omega)).trans g0'
          have g1'' := (hC2.block (w.heap.size + 1) (lt_of_heap g1') (fun h => by have := hlt _ h; omega)).trans g1'
          have g2'' := (hC2.block (w.heap.size + 2) (lt_of_heap g2') hpF).trans g2'
          have hst := newStore g0'' g1'' g2'' hD2 (by rw [hrnH.out]; omega) (fun k hk h => hk.elim (fun h2 => hnew k h2 h) (fun h2 => by have := h2.1; have := h.2; omega))
          exact .inl ⟨hr0H.out, _, rfl, hst.at_ (fun k hk => hk.imp id (fun h => ⟨Nat.le_trans (Nat.le_trans hs0 hs1) h.1, h.2⟩)) (fun k hk => .inr ⟨hk.1, hst.Flt k hk⟩) (fun k hk => hk.elim (fun h => Nat.lt_of_lt_of_le (hlt1 k h) hs2) (·.2)), hC02⟩
        · have hr1 : (r.1 != 0) = true := by simpa using hr0
          go_wp2_with fail
          go_ret2
          unfold OpenPost
          rw [hoH.out]
          exact .inr ⟨hr0, rfl, hD2.mono (fun k hk => hk.imp id (fun h => ⟨Nat.le_trans (Nat.le_trans hs0 hs1) h.1, h.2⟩)) (fun k hk => hk.elim (fun h => Nat.lt_of_lt_of_le (hlt1 k h) hs2) (·.2)), hC02⟩
end
end Go.Proofs.Ytbnoebdpbpjbkaa
