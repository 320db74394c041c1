/-
  What is taken: Taken, Give, Sectors, New.
-/
import Derived.Test.YtbnoebdpbpjbkaaAl1
namespace Go.Proofs.Ytbnoebdpbpjbkaa
open Go.RowKit Go.Lz
section
variable {w : World} {p q pm : Nat} {S : WalS} {F : Nat → Prop} {at_ n : Nat}

set_option maxRecDepth 100000 in
set_option maxHeartbeats 1000000 in
theorem bit_dead (hM : MapO w pm p at_ n) (h : StoreAt Try.prog w p q S F) (hd : S.isDead = true) (i : Int) : Calls Try.prog 83 #[Dptr pm, .int .i64 i] w fun e w' => e = .returned (.tuple #[.bool false, .int .i64 50]) ∧ Below w.heap.size w w' := by
  have c0 : w.cell? ⟨pm, 0, none⟩ = some (Dptr p) := cell_of hM 0
  have c1 : w.cell? ⟨pm, 1, none⟩ = some (.int .i64 (at_ : Int)) := cell_of hM 1
  have hD := (h.below (Below.refl _ w).drew)
  go_enter Try.func83, Try.ntmps83
  go_upto_region 1 with fail
  go_region_with ((go_at_call 45; refine (wread_dead hD hd _).mono ?_; rintro e w3 ⟨rfl, rfl⟩))
  all_goals
    go_wp2_with fail
    go_ret2
    exact ⟨rfl, (Below.refl _ w).drew⟩

set_option maxRecDepth 100000 in
theorem taken_out (hM : MapO w pm p at_ n) {i : Int} (hi : i < 0 ∨ (n : Int) ≤ i) : Calls Try.prog 57 #[Dptr pm, .int .i64 i] w fun e w' => e = .returned (.tuple #[.bool false, .int .i64 1]) ∧ w = w' := by
  have c2 : w.cell? ⟨pm, 2, none⟩ = some (.int .i64 (n : Int)) := cell_of hM 2
  by_cases h0 : i < 0
  · clear hi
    go_enter Try.func57, Try.ntmps57
    go_wp2_with fail
    go_ret2
    exact ⟨rfl, rfl⟩
  · have h1 : (n : Int) ≤ i := by omega
    clear hi
    go_enter Try.func57, Try.ntmps57
    go_wp2_with fail
    go_ret2
    exact ⟨rfl, rfl⟩

set_option maxRecDepth 100000 in
theorem taken_ok (hM : MapO w pm p at_ n) (h : StoreAt Try.prog w p q S F) (hd : S.isDead = false) {i : Nat} (hi : at_ + i / 512 < S.size) (hin : i < n) (hn : n ≤ 8192) : Calls Try.prog 57 #[Dptr pm, .int .i64 (i : Int)] w (BitPost w p q S F at_ i) := by
  have c2 : w.cell? ⟨pm, 2, none⟩ = some (.int .i64 (n : Int)) := cell_of hM 2
  have hin' : (i : Int) < (n : Int) := by omega
  have cb := bit_ok hM h hd hi (by omega)
  go_enter Try.func57, Try.ntmps57
  go_wp2_with fail
  refine cb.mono ?_
  rintro e w1 ⟨j, rfl, hS, hC⟩
  go_wp2_with fail
  go_ret2
  exact ⟨j, rfl, hS, hC⟩

set_option maxRecDepth 100000 in
theorem taken_dead (hM : MapO w pm p at_ n) (h : StoreAt Try.prog w p q S F) (hd : S.isDead = true) {i : Int} (h0 : 0 ≤ i) (hin : i < (n : Int)) : Calls Try.prog 57 #[Dptr pm, .int .i64 i] w fun e w' => e = .returned (.tuple #[.bool false, .int .i64 50]) ∧ Below w.heap.size w w' := by
  have c2 : w.cell? ⟨pm, 2, none⟩ = some (.int .i64 (n : Int)) := cell_of hM 2
  go_enter Try.func57, Try.ntmps57
  go_wp2_with fail
  refine (bit_dead hM h hd i).mono ?_
  rintro e w1 ⟨rfl, hB⟩
  go_wp2_with fail
  go_ret2
  exact ⟨rfl, hB⟩

/-- The store is as it was, but for reads. -/
def Same (w : World) (p q : Nat) (S : WalS) (F : Nat → Prop) (v : Value) (e : Ending) (w' : World) : Prop := ∃ j, e = .returned v ∧ StoreAt Try.prog w' p q (S.cnt j) (ext F w w') ∧ Chg F w w'

theorem below_same {w' : World} (h : StoreAt Try.prog w p q S F) (hB : Below w.heap.size w w') : StoreAt Try.prog w' p q (S.cnt 0) (ext F w w') := wat_ext (h.below hB)

set_option maxRecDepth 100000 in
theorem give_out (hM : MapO w pm p at_ n) {i : Int} (hi : i < 0 ∨ (n : Int) ≤ i) : Calls Try.prog 55 #[Dptr pm, .int .i64 i] w fun e w' => e = .returned (.int .i64 1) ∧ w = w' := by
  go_enter Try.func55, Try.ntmps55
  go_wp2_with (go_at_call 57; refine (taken_out hM hi).mono ?_; rintro e w' ⟨rfl, rfl⟩)
  go_ret
  exact ⟨rfl, rfl⟩

set_option maxRecDepth 100000 in
theorem give_dead (hM : MapO w pm p at_ n) (h : StoreAt Try.prog w p q S F) (hd : S.isDead = true) {i : Int} (h0 : 0 ≤ i) (hin : i < (n : Int)) : Calls Try.prog 55 #[Dptr pm, .int .i64 i] w fun e w' => e = .returned (.int .i64 50) ∧ Below w.heap.size w w' := by
  go_enter Try.func55, Try.ntmps55
  go_wp2_with fail
  refine (taken_dead hM h hd h0 hin).mono ?_
  rintro e w1 ⟨rfl, hB⟩
  go_wp2_with fail
  go_ret
  exact ⟨rfl, hB⟩

set_option maxRecDepth 100000 in
theorem give_free (hM : MapO w pm p at_ n) (h : StoreAt Try.prog w p q S F) (hd : S.isDead = false) {i : Nat} (hi : at_ + i / 512 < S.size) (hin : i < n) (hn : n ≤ 8192) (hb : S.bit at_ i = false) : Calls Try.prog 55 #[Dptr pm, .int .i64 (i : Int)] w (Same w p q S F (.int .i64 1)) := by
  have ct := taken_ok hM h hd hi hin hn
  unfold BitPost at ct
  rw [hb] at ct
  go_enter Try.func55, Try.ntmps55
  go_wp2_with fail
  refine ct.mono ?_
  rintro e w1 ⟨j, rfl, hS, hC⟩
  go_wp2_with fail
  go_ret
  exact ⟨j, rfl, wat_ext hS, hC⟩

theorem _root_.Go.Lz.WalS.cnt_setBit (S : WalS) (j at_ i : Nat) (tb : Bool) : (S.cnt j).setBit at_ i tb = ((S.setBit at_ i tb).1, (S.setBit at_ i tb).2.cnt j) := by
  unfold WalS.setBit
  rw [WalS.cnt_get, WalS.cnt_write]

set_option maxRecDepth 100000 in
theorem give_ok (hM : MapO w pm p at_ n) (hpm : ¬ F pm) (h : StoreAt Try.prog w p q S F) (hd : S.isDead = false) {i : Nat} (hi : at_ + i / 512 < S.size) (hin : i < n) (hn : n ≤ 8192) (hb : S.bit at_ i = true) : Calls Try.prog 55 #[Dptr pm, .int .i64 (i : Int)] w (SetPost w p q S F at_ i false) := by
  have ct := taken_ok hM h hd hi hin hn
  unfold BitPost at ct
  rw [hb] at ct
  go_enter Try.func55, Try.ntmps55
  go_wp2_with fail
  refine ct.mono ?_
  rintro e w1 ⟨j, rfl, hS, hC⟩
  have cs := set_ok (tb := false) (hM.chg hC hpm) hpm hS (by simpa using hd) (i := i) (by simpa using hi) (by omega)
  unfold SetPost at cs
  rw [WalS.cnt_setBit] at cs
  go_wp2_with fail
  refine cs.mono ?_
  rintro e w2 ⟨j2, rfl, hS2, hC2⟩
  have hs1 := hC.size
  go_wp2_with fail
  go_ret
  rw [WalS.cnt_cnt] at hS2
  refine ⟨j + j2, rfl, hS2.mono (fun k hk => hk.imp id fun h => ⟨Nat.le_trans hs1 h.1, h.2⟩) (fun k hk => hk.elim (fun h9 => ?_) (·.2)), hC.trans hC2 (fun _ _ h => h)⟩
  have := h.lt k h9
  have := hC2.size
  omega

/-- How many sectors so many items need. -/
def _root_.Go.Lz.sectorsOf (n : Nat) : Nat := (n + 511) / 512

set_option maxRecDepth 100000 in
theorem sectors_any (w : World) (n : Int) (hn : n ≤ 1000000) : Calls Try.prog 38 #[.int .i64 n] w fun e w' => e = .returned (.int .i64 (sectorsOf n.toNat : Int)) ∧ w = w' := by
  have e : ((sectorsOf n.toNat : Nat) : Int) = (max n 0 + 511) / 512 := by unfold sectorsOf; omega
  rw [e]
  have h0 : 0 ≤ max n 0 := by omega
  have h1 : max n 0 ≤ 1000000 := by omega
  go_enter Try.func38, Try.ntmps38
  go_wp2_with fail
  go_ret
  exact ⟨by show Ending.returned (.int .i64 ((max n 0 + 512 - 1) / 512)) = _; rw [show max n 0 + 512 - 1 = max n 0 + 511 from by omega], rfl⟩

/-- A map may be made here. -/
def _root_.Go.Lz.mapFits (size : Nat) (at_ n : Int) : Bool := decide (1 ≤ n ∧ n ≤ 8192 ∧ 0 ≤ at_ ∧ at_ ≤ (size : Int) - (sectorsOf n.toNat : Int))

theorem anew_nil (w : World) (at_ n : Int) : Calls Try.prog 37 #[.pointer none, .int .i64 at_, .int .i64 n] w fun e w' => e = .returned (.tuple #[.pointer none, .int .i64 1]) ∧ w = w' := by
  go_enter Try.func37, Try.ntmps37
  go_wp2
  go_ret2
  exact ⟨rfl, rfl⟩

/-- A new map, or none. -/
def NewMap (w : World) (p : Nat) (ok : Bool) (at_ n : Int) (e : Ending) (w' : World) : Prop :=
  (ok = true ∧ e = .returned (.tuple #[Dptr w.heap.size, .int .i64 0]) ∧ w' = w.alloc (.cells #[Dptr p, .int .i64 at_, .int .i64 n] 126)) ∨
  (ok = false ∧ e = .returned (.tuple #[.pointer none, .int .i64 1]) ∧ w' = w)

set_option maxRecDepth 100000 in
set_option maxHeartbeats 1000000 in
theorem anew_any (h : StoreAt Try.prog w p q S F) (at_ n : Int) : Calls Try.prog 37 #[Dptr p, .int .i64 at_, .int .i64 n] w (NewMap w p (mapFits S.size at_ n) at_ n) := by
  have cs : Calls Try.prog 75 #[Dptr p] w fun e w' => e = .returned (.int .i64 (S.size : Int)) ∧ w = w' := by
    obtain ⟨Fd, Fs, mn, mw, vn, vw, cn, cw, h, _⟩ := h
    exact wsize_any h
  have hsz : S.size ≤ 8192 := by
    have := h.dev.ok.n
    unfold WalS.size
    omega
  by_cases h1 : n < 1
  · have hf : mapFits S.size at_ n = false := decide_eq_false (by omega)
    rw [hf]
    clear hf
    go_enter Try.func37, Try.ntmps37
    go_wp2_with fail
    go_ret2
    exact .inr ⟨rfl, rfl, rfl⟩
  by_cases h2 : 8192 < n
  · have hf : mapFits S.size at_ n = false := decide_eq_false (by omega)
    rw [hf]
    clear hf
    go_enter Try.func37, Try.ntmps37
    go_wp2_with fail
    go_ret2
    exact .inr ⟨rfl, rfl, rfl⟩
  by_cases h3 : at_ < 0
  · have hf : mapFits S.size at_ n = false := decide_eq_false (by omega)
    rw [hf]
    clear hf
    go_enter Try.func37, Try.ntmps37
    go_wp2_with fail
    go_ret2
    exact .inr ⟨rfl, rfl, rfl⟩
  have ct := sectors_any w n (by omega)
  obtain ⟨k, hk⟩ : ∃ k, k = sectorsOf n.toNat := ⟨_, rfl⟩
  have hk17 : k ≤ 16 := by rw [hk]; unfold sectorsOf; omega
  rw [← hk] at ct
  have hkH : Hid _ := Lib.hid hk
  clear hk
  by_cases h4 : (S.size : Int) - (k : Int) < at_
  · have hf : mapFits S.size at_ n = false := decide_eq_false (by rw [← hkH.out]; omega)
    rw [hf]
    clear hf
    go_enter Try.func37, Try.ntmps37
    go_wp2_with (first
      | (go_at_call 75; refine cs.mono ?_; rintro e w' ⟨rfl, rfl⟩)
      | (go_at_call 38; refine ct.mono ?_; rintro e w' ⟨rfl, rfl⟩))
    go_ret2
    exact .inr ⟨rfl, rfl, rfl⟩
  · have hf : mapFits S.size at_ n = true := decide_eq_true (by rw [← hkH.out]; omega)
    rw [hf]
    clear hf
    go_enter Try.func37, Try.ntmps37
    go_wp2_with (first
      | (go_at_call 75; refine cs.mono ?_; rintro e w' ⟨rfl, rfl⟩)
      | (go_at_call 38; refine ct.mono ?_; rintro e w' ⟨rfl, rfl⟩))
    go_ret2
    exact .inl ⟨rfl, rfl, rfl⟩
end
end Go.Proofs.Ytbnoebdpbpjbkaa
