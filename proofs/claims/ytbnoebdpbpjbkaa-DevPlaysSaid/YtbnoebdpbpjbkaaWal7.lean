/-
  The store's Sync.
-/
import Derived.Test.YtbnoebdpbpjbkaaWal5
import Derived.Test.YtbnoebdpbpjbkaaWal6
import Derived.Test.YtbnoebdpbpjbkaaWal2
namespace Go.Lz
open Go.RowKit
section
variable (D : DevS)
theorem DevS.write_n (i : Int) (b : Bytes) : (D.write i b).2.n = D.n := by
  unfold DevS.write
  split
  · rfl
  · split
    · rfl
    · split <;> rfl
theorem DevS.flush_n : D.flush.2.n = D.n := by
  unfold DevS.flush
  split
  · rfl
  · split <;> rfl
theorem DevS.writeL_n (ws : List (Int × Bytes)) : (D.writeL ws).2.n = D.n := by
  induction ws generalizing D with
  | nil => rfl
  | cons x ws ih => exact seqD_n (D.write_n _ _) fun D' h => (ih D').trans h
theorem DevS.home_n (f : Nat → Option Bytes) (n : Nat) : (D.home f n).2.n = D.n :=
  seqD_n (seqD_n (seqD_n (D.writeL_n _) fun D' h => (D'.flush_n).trans h) fun D' h => (D'.write_n _ _).trans h) fun D' h => (D'.flush_n).trans h
theorem DevS.log_n (f : Nat → Option Bytes) (n : Nat) : (D.log f n).2.n = D.n :=
  seqD_n (seqD_n (seqD_n (D.writeL_n _) fun D' h => (D'.flush_n).trans h) fun D' h => (D'.write_n _ _).trans h) fun D' h => (D'.flush_n).trans h
theorem DevS.opened_n : D.opened.2.n = D.n := by
  unfold DevS.opened
  split
  · rfl
  · split
    · rfl
    · split
      · simp
      · rw [DevS.home_n, DevS.countedN_n]
end
end Go.Lz
namespace Go.Proofs.Ytbnoebdpbpjbkaa
open Go.RowKit Go.Lz
section
variable {w w' : World} {p q : Nat} {S : WalS} {Fd Fs F : Nat → Prop} {mn mw : Nat} {vn vw : Nat → Option Value} {cn cw : Nat}

/-- The store's own numbers are written. -/
theorem _root_.Go.Lz.StoreIn.reset (h : StoreIn Try.prog w p q S Fd Fs mn mw vn vw cn cw) (hc : Chg (· = p) w w') {all lasting : Int} {dead : Bool}
    (hb : w'.heap[p]? = some (.cells #[Dp q, .map (some mn), .map (some mw), .int .i64 all, .int .i64 lasting, .bool dead] 129 (0, 0))) :
    StoreIn Try.prog w' p q { S with all := all, lasting := lasting, dead := dead } Fd Fs mn mw vn vw cn cw := by
  obtain ⟨es, cl, hmw⟩ := h.wait.map.isMap
  obtain ⟨es', cl', hmn⟩ := h.now.map.isMap
  have hk : ∀ k cs, Fs k → w.heap[k]? = some (.cells cs 5 (0, 0)) → w'.heap[k]? = some (.cells cs 5 (0, 0)) := fun k cs _ e => (hc.block k (lt_of_heap e) (fun e2 => by subst e2; exact ne_of_elem h.blk e (by decide) rfl)).trans e
  exact ⟨hb, h.dev.chg hc (fun k hk e => h.dis p h.Fp (e ▸ hk)), h.now.heap (hc.block mn h.now.map.lt (fun e => ne_of_map h.blk hmn e.symm)) hk, h.wait.heap (hc.block mw h.wait.map.lt (fun e => ne_of_map h.blk hmw e.symm)) hk, h.ne, h.Fp, fun k hk => Nat.lt_of_lt_of_le (h.Flt k hk) hc.size, h.dis, ⟨h.ok.n, h.ok.now, h.ok.wait⟩⟩

/-- What was committed is brought home: a new map. -/
theorem _root_.Go.Lz.StoreIn.newWait {m' : Nat} (h : StoreIn Try.prog w p q S Fd Fs mn mw vn vw cn cw) (hc : Chg (· = p) w w') (hm : MapAt Try.prog 3 w' m' (fun _ => none) 0) (hml : w.heap.size ≤ m') {lasting : Int}
    (hb : w'.heap[p]? = some (.cells #[Dp q, .map (some mn), .map (some m'), .int .i64 S.all, .int .i64 lasting, .bool S.dead] 129 (0, 0))) :
    StoreIn Try.prog w' p q { S with wait := fun _ => none, lasting := lasting } Fd (fun k => Fs k ∨ k = m') mn m' vn (fun _ => none) cn 0 := by
  obtain ⟨es, cl, hmn⟩ := h.now.map.isMap
  refine ⟨hb, h.dev.chg hc (fun k hk e => h.dis p h.Fp (e ▸ hk)), ?_, ⟨hm, fun _ _ e => (by cases e), fun _ _ => rfl, .inr rfl⟩, ?_, .inl h.Fp, ?_, ?_, ⟨h.ok.n, h.ok.now, fun k b e => (by cases e)⟩⟩
  · refine (h.now.mono fun k hk => Or.inl hk).heap (hc.block mn h.now.map.lt (fun e => ne_of_map h.blk hmn e.symm)) (fun k cs hk e => (hc.block k (lt_of_heap e) (fun e2 => by subst e2; exact ne_of_elem h.blk e (by decide) rfl)).trans e)
  · have := h.now.map.lt
    omega
  · intro k hk
    rcases hk with hk | rfl
    · exact Nat.lt_of_lt_of_le (h.Flt k hk) hc.size
    · exact hm.lt
  · intro k hk e
    rcases hk with hk | rfl
    · exact h.dis k hk e
    · have := h.dev.lt _ e; omega

theorem _root_.Go.Lz.StoreIn.done {S' : WalS} {Fd' Fs' : Nat → Prop} {mn' mw' : Nat} {vn' vw' : Nat → Option Value} {cn' cw' : Nat} (h' : StoreIn Try.prog w' p q S' Fd' Fs' mn' mw' vn' vw' cn' cw')
    (hd : ∀ k, Fd' k → F k ∨ w.heap.size ≤ k) (hs : ∀ k, Fs' k → F k ∨ w.heap.size ≤ k) (hl : ∀ k, F k → k < w.heap.size) (hc : Chg F w w') : StoreAt Try.prog w' p q S' (ext F w w') :=
  h'.at_ (fun k hk => (hd k hk).imp id fun h => ⟨h, h'.dev.lt k hk⟩) (fun k hk => (hs k hk).imp id fun h => ⟨h, h'.Flt k hk⟩) (fun k hk => hk.elim (fun h => Nat.lt_of_lt_of_le (hl k h) hc.size) (·.2))

theorem _root_.Go.Lz.StoreIn.home (h : StoreIn Try.prog w p q S Fd Fs mn mw vn vw cn cw) {W : World} (hW : W = ((w.setCell ⟨p, 2, none⟩ (.map (some w.heap.size))).setCell ⟨p, 4, none⟩ (.int .i64 S.all)).alloc (.map #[] 0)) :
    StoreIn Try.prog W p q { S with wait := fun _ => none, lasting := S.all } Fd (fun k => Fs k ∨ k = w.heap.size) mn w.heap.size vn (fun _ => none) cn 0 ∧ Chg (· = p) w W := by
  subst hW
  have hc : Chg (· = p) w (((w.setCell ⟨p, 2, none⟩ (.map (some w.heap.size))).setCell ⟨p, 4, none⟩ (.int .i64 S.all)).alloc (.map #[] 0)) := ((((Chg.refl _ w).own _ _)).own _ _).alloc _
  have hm := MapAt.made (P := Try.prog) (T := 3) ((w.setCell ⟨p, 2, none⟩ (.map (some w.heap.size))).setCell ⟨p, 4, none⟩ (.int .i64 S.all))
  have hsz : ((w.setCell ⟨p, 2, none⟩ (.map (some w.heap.size))).setCell ⟨p, 4, none⟩ (.int .i64 S.all)).heap.size = w.heap.size := by simp [World.setCell]
  rw [hsz] at hm
  exact ⟨h.newWait hc hm (Nat.le_refl _) ((Below.heap_alloc _ _ p (by rw [hsz]; exact lt_of_heap h.blk)).trans (heap_set_same (heap_set_same h.blk 2 _) 4 _)), hc⟩

set_option maxRecDepth 100000 in
set_option maxHeartbeats 1000000 in
theorem sync_any (h : StoreAt Try.prog w p q S F) : Calls Try.prog 43 #[Dptr p] w (WErr w p q S.sync F) := by
  obtain ⟨Fd, Fs, mn, mw, vn, vw, cn, cw, h, hd, hs, hl⟩ := h
  have c0 : w.cell? ⟨p, 0, none⟩ = some (Dp q) := cell_of h.blk 0
  have c2 : w.cell? ⟨p, 2, none⟩ = some (.map (some mw)) := cell_of h.blk 2
  have c3 : w.cell? ⟨p, 3, none⟩ = some (.int .i64 S.all) := cell_of h.blk 3
  have c4 : w.cell? ⟨p, 4, none⟩ = some (.int .i64 S.lasting) := cell_of h.blk 4
  have f5 := frozen_of h.blk 5
  have f2 := frozen_of h.blk 2
  have f4 := frozen_of h.blk 4
  have c5 : w.cell? ⟨p, 5, none⟩ = some (.bool S.dead) := cell_of h.blk 5
  have hpl := lt_of_heap h.blk
  have hFp := hs p h.Fp
  have hdie : Chg F w (w.setCell ⟨p, 5, none⟩ (.bool true)) ∧ StoreAt Try.prog (w.setCell ⟨p, 5, none⟩ (.bool true)) p q { S with dead := true } (ext F w (w.setCell ⟨p, 5, none⟩ (.bool true))) := by
    have hc : Chg (· = p) w (w.setCell ⟨p, 5, none⟩ (.bool true)) := (Chg.refl _ w).own _ _
    have hc' : Chg F w (w.setCell ⟨p, 5, none⟩ (.bool true)) := hc.mono fun j _ e => by subst e; exact hFp
    exact ⟨hc', (h.reset hc (heap_set_same h.blk 5 _)).done (fun k hk => .inl (hd k hk)) (fun k hk => .inl (hs k hk)) hl hc'⟩
  unfold WalS.sync
  cases hdS : S.dead with
  | true =>
    rw [hdS] at c5
    rw [if_pos (by simp [WalS.isDead, hdS])]
    go_enter Try.func43, Try.ntmps43
    go_wp2_with fail
    go_ret
    exact ⟨rfl, hdie.2, hdie.1⟩
  | false =>
    rw [hdS] at c5
    cases hdd : S.dev.dead with
    | true =>
      rw [if_pos (by simp [WalS.isDead, hdS, hdd])]
      have cd := dead_any h.dev
      rw [hdd] at cd
      go_enter Try.func43, Try.ntmps43
      go_wp2_with (go_at_call 20; refine cd.mono ?_; rintro e w' ⟨rfl, rfl⟩)
      go_ret
      exact ⟨rfl, hdie.2, hdie.1⟩
    | false =>
      rw [if_neg (by simp [WalS.isDead, hdS, hdd])]
      have cd := dead_any h.dev
      rw [hdd] at cd
      have hmm := @run_makeMap Try.prog
      have hlen := h.wait.map.len (P := Try.prog) Try.underlying127
      have hcw : cw = S.waitN := h.wait.count Try.underlying3 h.ok.waitB
      clear hdie
      by_cases h0 : S.waitN = 0
      · rw [if_pos h0]
        obtain rfl : cw = 0 := hcw.trans h0
        clear hcw h0
        go_enter Try.func43, Try.ntmps43
        go_wp2_with (go_at_call 20; refine cd.mono ?_; rintro e w' ⟨rfl, rfl⟩)
        go_ret
        obtain ⟨h1, hc1⟩ := h.home rfl
        have hc1' := hc1.mono (M' := F) fun j _ e => by subst e; exact hFp
        rw [hdS] at h1
        exact ⟨rfl, h1.done (fun k hk => .inl (hd k hk)) (fun k hk => hk.imp (hs k) (fun e => Nat.le_of_eq e.symm)) hl hc1', hc1'⟩
      · rw [if_neg h0]
        have hK : 0 < (keysF S.wait S.size).length := Nat.pos_of_ne_zero h0
        have hc0 : (0 : Int) < (cw : Int) := by omega
        have hc0' : 0 < cw := by omega
        have hsz : S.size ≤ 8192 := Nat.le_trans (Nat.sub_le _ _) h.dev.ok.n
        have cl := log_any c0 hpl (h.dis p h.Fp) h.dev h.wait h.dis hsz h.ok.wait hK
        have hrn : (S.dev.log S.wait S.size).2.n = S.dev.n := S.dev.log_n _ _
        obtain ⟨r, hr⟩ : ∃ r, r = S.dev.log S.wait S.size := ⟨_, rfl⟩
        rw [← hr] at cl hrn ⊢
        obtain ⟨R, hR⟩ : ∃ R, R = S.synced (seqD r fun D => D.home S.wait S.size) := ⟨_, rfl⟩
        rw [← hR]
        have hRH : Hid _ := Lib.hid hR
        clear hr hcw h0 hR
        go_enter Try.func43, Try.ntmps43
        go_wp2_with (go_at_call 20; refine cd.mono ?_; rintro e w' ⟨rfl, rfl⟩)
        refine cl.mono ?_
        rintro e w1 ⟨rfl, hD1, hC1⟩
        have h1 := h.device hD1 hC1 (fun k hk => hk.imp id (·.1)) hrn
        have hC1' := hC1.mono (M' := F) fun j _ e => hd j e
        have c0 : w1.cell? ⟨p, 0, none⟩ = some (Dp q) := cell_of h1.blk 0
        have c2 : w1.cell? ⟨p, 2, none⟩ = some (.map (some mw)) := cell_of h1.blk 2
        have c3 : w1.cell? ⟨p, 3, none⟩ = some (.int .i64 S.all) := cell_of h1.blk 3
        have c4 : w1.cell? ⟨p, 4, none⟩ = some (.int .i64 S.lasting) := cell_of h1.blk 4
        have f5 := frozen_of h1.blk 5
        have f2 := frozen_of h1.blk 2
        have f4 := frozen_of h1.blk 4
        have c5 : w1.cell? ⟨p, 5, none⟩ = some (.bool S.dead) := cell_of h1.blk 5
        have hs1 := hC1.size
        have hfail : ∀ {x : WalS} {Fd' : Nat → Prop} {W : World}, StoreIn Try.prog W p q x Fd' Fs mn mw vn vw cn cw → (∀ k, Fd' k → Fd k ∨ w.heap.size ≤ k) → Chg F w W → Chg F w (W.setCell ⟨p, 5, none⟩ (.bool true)) ∧ StoreAt Try.prog (W.setCell ⟨p, 5, none⟩ (.bool true)) p q { x with dead := true } (ext F w (W.setCell ⟨p, 5, none⟩ (.bool true))) := by
          intro x Fd' W hx hF' hcx
          have hcp : Chg (· = p) W (W.setCell ⟨p, 5, none⟩ (.bool true)) := (Chg.refl _ W).own _ _
          have hc' : Chg F w (W.setCell ⟨p, 5, none⟩ (.bool true)) := hcx.trans hcp fun j _ e => by subst e; exact hFp
          exact ⟨hc', (hx.reset hcp (heap_set_same hx.blk 5 _)).done (fun k hk => (hF' k hk).imp (hd k) id) (fun k hk => .inl (hs k hk)) hl hc'⟩
        clear cl
        by_cases hr0 : r.1 = 0
        · have ch := home_any c0 (Nat.lt_of_lt_of_le hpl hs1) (h1.dis p h1.Fp) h1.dev h1.wait h1.dis hsz h.ok.wait
          have hrn2 : (r.2.home S.wait S.size).2.n = r.2.n := r.2.home_n _ _
          rw [seqD_ok hr0] at hRH
          rw [hr0]
          simp only at ch
          obtain ⟨r2, hr2⟩ : ∃ r2, r2 = r.2.home S.wait S.size := ⟨_, rfl⟩
          rw [← hr2] at ch hrn2 hRH
          clear hr2 hr0
          go_wp2_with fail
          refine ch.mono ?_
          rintro e w2 ⟨rfl, hD2, hC2⟩
          clear ch
          have h2 := h1.device hD2 hC2 (fun k hk => hk.imp id (·.1)) hrn2
          have hF2 : ∀ k, ext (ext Fd w w1) w1 w2 k → Fd k ∨ w.heap.size ≤ k := fun k hk => hk.elim (fun h => h.imp id (·.1)) (fun h => .inr (Nat.le_trans hs1 h.1))
          have hC2' : Chg F w w2 := hC1'.trans hC2 fun j hj e => e.elim (hd j) (fun h => by have := h.1; omega)
          have hpl2 : p < w2.heap.size := lt_of_heap h2.blk
          have c3 : w2.cell? ⟨p, 3, none⟩ = some (.int .i64 S.all) := cell_of h2.blk 3
          have c2 : w2.cell? ⟨p, 2, none⟩ = some (.map (some mw)) := cell_of h2.blk 2
          have c4 : w2.cell? ⟨p, 4, none⟩ = some (.int .i64 S.lasting) := cell_of h2.blk 4
          have f5 := frozen_of h2.blk 5
          have f2 := frozen_of h2.blk 2
          have f4 := frozen_of h2.blk 4
          have c5 : w2.cell? ⟨p, 5, none⟩ = some (.bool S.dead) := cell_of h2.blk 5
          by_cases hr0 : r2.1 = 0
          · rw [hr0]
            have hr0H : Hid (r2.1 = 0) := hr0
            clear hr0
            go_wp2_with fail
            go_ret
            obtain ⟨h3, hc3⟩ := h2.home rfl
            have hs2 := hC2.size
            have hc3' : Chg F w _ := hC2'.trans hc3 fun j _ e => by subst e; exact hFp
            rw [hRH.out, show S.synced r2 = (0, { S with dev := r2.2, wait := fun _ => none, lasting := S.all }) from if_pos hr0H.out]
            exact ⟨rfl, h3.done (fun k hk => (hF2 k hk).imp (hd k) id) (fun k hk => hk.imp (hs k) (fun e => by omega)) hl hc3', hc3'⟩
          · have hr1 : (r2.1 != 0) = true := by simpa using hr0
            go_wp2_with fail
            go_ret
            have h3 := hfail h2 hF2 hC2'
            rw [hRH.out, show S.synced r2 = (r2.1, { S with dev := r2.2, dead := true }) from if_neg hr0]
            exact ⟨rfl, h3.2, h3.1⟩
        · have hr1 : (r.1 != 0) = true := by simpa using hr0
          have hr2 : (r.1 == 0) = false := by simpa using hr0
          go_wp2_with fail
          go_ret
          have h2 := hfail h1 (fun k hk => hk.imp id (·.1)) hC1'
          rw [hRH.out, seqD_fail hr0, show S.synced r = (r.1, { S with dev := r.2, dead := true }) from if_neg hr0]
          exact ⟨rfl, h2.2, h2.1⟩
end
end Go.Proofs.Ytbnoebdpbpjbkaa
