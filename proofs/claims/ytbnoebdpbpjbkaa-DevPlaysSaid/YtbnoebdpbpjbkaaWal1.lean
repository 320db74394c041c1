/-
  The store's small methods.
-/
import Derived.Test.YtbnoebdpbpjbkaaWalS
import Derived.Test.YtbnoebdpbpjbkaaLaw1b
namespace Go.Proofs.Ytbnoebdpbpjbkaa
open Go.RowKit Go.Lz

theorem room_any (w : World) (n : Nat) (hn : n ≤ 1000000) : Calls Try.prog 80 #[.int .i64 (n : Int)] w fun e w' => e = .returned (.int .i64 ((n - 300 : Nat) : Int)) ∧ w = w' := by
  go_enter Try.func80, Try.ntmps80
  by_cases h : n ≤ 300
  · have h1 : max (n : Int) 300 = 300 := by omega
    have h2 : ((n - 300 : Nat) : Int) = 0 := by omega
    rw [h2]
    go_wp2
    go_ret
    exact ⟨rfl, rfl⟩
  · have h1 : max (n : Int) 300 = n := by omega
    have h2 : ((n - 300 : Nat) : Int) = (n : Int) - 300 := by omega
    rw [h2]
    go_wp2
    go_ret
    exact ⟨rfl, rfl⟩

section
variable {w : World} {p q : Nat} {S : WalS} {Fd Fs F : Nat → Prop} {mn mw : Nat} {vn vw : Nat → Option Value} {cn cw : Nat}

theorem wsize_any (h : StoreIn Try.prog w p q S Fd Fs mn mw vn vw cn cw) : Calls Try.prog 75 #[Dptr p] w fun e w' => e = .returned (.int .i64 (S.size : Int)) ∧ w = w' := by
  have h0 : w.cell? ⟨p, 0, none⟩ = some (Dp q) := cell_of h.blk 0
  have hn : S.dev.n ≤ 1000000 := Nat.le_trans h.dev.ok.n (by omega)
  go_enter Try.func75, Try.ntmps75
  go_wp2_with (first
    | (go_at_call 66; refine (size_any h.dev).mono ?_; rintro e w' ⟨rfl, rfl⟩)
    | (go_at_call 80; refine (room_any _ _ hn).mono ?_; rintro e w' ⟨rfl, rfl⟩))
  go_ret
  exact ⟨rfl, rfl⟩

set_option maxHeartbeats 400000 in
theorem wwrong_any (h : StoreIn Try.prog w p q S Fd Fs mn mw vn vw cn cw) (i : Int) : Calls Try.prog 76 #[Dptr p, .int .i64 i] w fun e w' => e = .returned (.int .i64 (S.wrong i)) ∧ w = w' := by
  have h0 : w.cell? ⟨p, 0, none⟩ = some (Dp q) := cell_of h.blk 0
  have h5 : w.cell? ⟨p, 5, none⟩ = some (.bool S.dead) := cell_of h.blk 5
  go_enter Try.func76, Try.ntmps76
  cases hd : S.dead
  · rw [hd] at h5
    cases hdd : S.dev.dead
    · by_cases hi : i < 0
      · go_wp2_with (go_at_call 20; refine (dead_any h.dev).mono ?_; rw [hdd]; rintro e w' ⟨rfl, rfl⟩)
        go_ret
        exact ⟨by simp [WalS.wrong, WalS.isDead, hd, hdd, hi], rfl⟩
      · by_cases hj : (S.size : Int) ≤ i
        all_goals
          go_wp2_with (first
            | (go_at_call 20; refine (dead_any h.dev).mono ?_; rw [hdd]; rintro e w' ⟨rfl, rfl⟩)
            | (go_at_call 75; refine (wsize_any h).mono ?_; rintro e w' ⟨rfl, rfl⟩))
          go_ret
          exact ⟨by simp [WalS.wrong, WalS.isDead, hd, hdd, hi]; omega, rfl⟩
    · go_wp2_with (go_at_call 20; refine (dead_any h.dev).mono ?_; rw [hdd]; rintro e w' ⟨rfl, rfl⟩)
      go_ret
      exact ⟨by simp [WalS.wrong, WalS.isDead, hd, hdd], rfl⟩
  · rw [hd] at h5
    go_wp2
    go_ret
    exact ⟨by simp [WalS.wrong, WalS.isDead, hd], rfl⟩

theorem commits_any (h : StoreAt Try.prog w p q S F) : Calls Try.prog 47 #[Dptr p] w fun e w' => e = .returned (.tuple #[.int .i64 S.all, .int .i64 S.lasting]) ∧ Below w.heap.size w w' := by
  obtain ⟨Fd, Fs, mn, mw, vn, vw, cn, cw, h, hd, hs, hl⟩ := h
  have h3 : w.cell? ⟨p, 3, none⟩ = some (.int .i64 S.all) := cell_of h.blk 3
  have h4 : w.cell? ⟨p, 4, none⟩ = some (.int .i64 S.lasting) := cell_of h.blk 4
  go_enter Try.func47, Try.ntmps47
  go_wp2
  go_region_with fail
  all_goals
    go_wp2
    go_ret2
    exact ⟨rfl, (Below.refl _ w).drew⟩

/-- The transaction under way is another one: a new map. -/
theorem _root_.Go.Lz.StoreIn.newNow {w' : World} {m' : Nat} (h : StoreIn Try.prog w p q S Fd Fs mn mw vn vw cn cw) (hc : Chg (· = p) w w') (hm : MapAt Try.prog 3 w' m' (fun _ => none) 0) (hml : w.heap.size ≤ m') {all lasting : Int}
    (hb : w'.heap[p]? = some (.cells #[Dp q, .map (some m'), .map (some mw), .int .i64 all, .int .i64 lasting, .bool S.dead] 129 (0, 0))) :
    StoreIn Try.prog w' p q { S with now := fun _ => none, all := all, lasting := lasting } Fd (fun k => Fs k ∨ k = m') m' mw (fun _ => none) vw 0 cw := by
  obtain ⟨es, cl, hmw⟩ := h.wait.map.isMap
  refine ⟨hb, h.dev.chg hc (fun k hk e => h.dis p h.Fp (e ▸ hk)), ⟨hm, fun _ _ e => (by cases e), fun _ _ => rfl, .inr rfl⟩, ?_, ?_, .inl h.Fp, ?_, ?_, ⟨h.ok.n, fun k b e => (by cases e), h.ok.wait⟩⟩
  · refine (h.wait.mono fun k hk => Or.inl hk).heap (hc.block mw h.wait.map.lt (fun e => ne_of_map h.blk hmw e.symm)) (fun k cs hk e => (hc.block k (lt_of_heap e) (fun e2 => by subst e2; exact ne_of_elem h.blk e (by decide) rfl)).trans e)
  · have := h.wait.map.lt
    omega
  · intro k hk
    rcases hk with hk | rfl
    · exact Nat.lt_of_lt_of_le (h.Flt k hk) hc.size
    · exact hm.lt
  · intro k hk e
    rcases hk with hk | rfl
    · exact h.dis k hk e
    · have := h.dev.lt _ e; omega

/-- Nothing is handed back; the store is S'. -/
def WDone (w : World) (p q : Nat) (S : WalS) (F : Nat → Prop) (v : Value) (e : Ending) (w' : World) : Prop := e = .returned v ∧ StoreAt Try.prog w' p q S (ext F w w') ∧ Chg F w w'

theorem abort_any (h : StoreAt Try.prog w p q S F) : Calls Try.prog 48 #[Dptr p] w (WDone w p q S.aborted F (.tuple #[])) := by
  obtain ⟨Fd, Fs, mn, mw, vn, vw, cn, cw, h, hd, hs, hl⟩ := h
  have h1 : w.cell? ⟨p, 1, none⟩ = some (.map (some mn)) := cell_of h.blk 1
  have f1 := frozen_of h.blk 1
  have hpl := lt_of_heap h.blk
  have hmm := @run_makeMap Try.prog
  go_enter Try.func48, Try.ntmps48
  go_wp2
  go_end0
  have hc : Chg (· = p) w ((w.setCell ⟨p, 1, none⟩ (.map (some w.heap.size))).alloc (.map #[] 0)) := ((Chg.refl _ w).own _ _).alloc _
  have hm := MapAt.made (P := Try.prog) (T := 3) (w.setCell ⟨p, 1, none⟩ (.map (some w.heap.size)))
  have hsz : (w.setCell ⟨p, 1, none⟩ (.map (some w.heap.size))).heap.size = w.heap.size := by simp [World.setCell]
  rw [hsz] at hm
  have h2 := h.newNow hc hm (Nat.le_refl _) ((Below.heap_alloc _ _ p (by rw [hsz]; exact hpl)).trans (heap_set_same h.blk 1 _))
  exact ⟨rfl, h2.at_ (fun k hk => .inl (hd k hk)) (fun k hk => hk.imp (hs k) (fun e => ⟨by omega, by subst e; exact hm.lt⟩)) (fun k hk => hk.elim (fun h3 => Nat.lt_of_lt_of_le (hl k h3) hc.size) (·.2)), hc.mono fun j _ e => by subst e; exact hs _ h.Fp⟩
end
end Go.Proofs.Ytbnoebdpbpjbkaa
