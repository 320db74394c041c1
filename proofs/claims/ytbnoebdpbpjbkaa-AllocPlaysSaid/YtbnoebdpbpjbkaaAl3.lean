/-
  What is taken: Take, Count.
-/
import Derived.Test.YtbnoebdpbpjbkaaAl2
import Derived.Deep.CutBlock
namespace Go.Proofs.Ytbnoebdpbpjbkaa
open Go.RowKit Go.Lz
section
variable {w : World} {p q pm : Nat} {S : WalS} {F : Nat → Prop} {at_ n : Nat}

theorem idx_eq {at_ i : Nat} (h : at_ + i / 512 ≤ 1000000) : IntKind.i64.wrap ((at_ : Int) + IntKind.i64.wrap ((i : Int) / 512)) = ((at_ + i / 512 : Nat) : Int) := by
  have e : (i : Int) / 512 = ((i / 512 : Nat) : Int) := by omega
  rw [e]
  generalize i / 512 = k at h
  rw [IntKind.wrap_i64, IntKind.wrap_i64]
  omega

/-- What Take answers: the least item that is free, set; or none. -/
def TakePost (w : World) (p q : Nat) (S : WalS) (F : Nat → Prop) (at_ n : Nat) (e : Ending) (w' : World) : Prop :=
  ((∀ i, i < n → S.bit at_ i = true) ∧ Same w p q S F (.tuple #[.int .i64 0, .int .i64 60]) e w') ∨
  (∃ i, i < n ∧ S.bit at_ i = false ∧ (∀ k, k < i → S.bit at_ k = true) ∧ ∃ j, e = .returned (if (S.setBit at_ i true).1 = 0 then .tuple #[.int .i64 (i : Int), .int .i64 0] else .tuple #[.int .i64 0, .int .i64 (S.setBit at_ i true).1]) ∧ StoreAt Try.prog w' p q ((S.setBit at_ i true).2.cnt j) (ext F w w') ∧ Chg F w w')

set_option maxRecDepth 100000 in
theorem take_dead (hM : MapO w pm p at_ n) (h : StoreAt Try.prog w p q S F) (hd : S.isDead = true) (hn : 0 < n) (hn2 : n ≤ 8192) : Calls Try.prog 54 #[Dptr pm] w fun e w' => e = .returned (.tuple #[.int .i64 0, .int .i64 50]) ∧ Below w.heap.size w w' := by
  have c0 : w.cell? ⟨pm, 0, none⟩ = some (Dptr p) := cell_of hM 0
  have c1 : w.cell? ⟨pm, 1, none⟩ = some (.int .i64 (at_ : Int)) := cell_of hM 1
  have c2 : w.cell? ⟨pm, 2, none⟩ = some (.int .i64 (n : Int)) := cell_of hM 2
  have hD := (h.below (Below.refl _ w).drew)
  have hn' : (0 : Int) < (n : Int) := by omega
  go_enter Try.func54, Try.ntmps54
  go_wp2_with fail
  go_loopg [13] 0 (fun _ iv wr => iv = .int .i64 0 ∧ wr = w)
  case atStart => exact ⟨rfl, rfl⟩
  case round =>
    obtain ⟨rfl, rfl⟩ := hrel
    go_wp2_with fail
    go_region_with ((go_at_call 45; refine (wread_dead hD hd _).mono ?_; rintro e w3 ⟨rfl, rfl⟩))
    all_goals
      go_wp2_with fail
      go_ret2
      exact ⟨rfl, (Below.refl _ _).drew⟩

set_option maxRecDepth 100000 in
set_option maxHeartbeats 2000000 in
theorem take_ok (hM : MapO w pm p at_ n) (hpm : ¬ F pm) (h : StoreAt Try.prog w p q S F) (hd : S.isDead = false) (hn : n ≤ 8192) (hsz : at_ + sectorsOf n ≤ S.size) : Calls Try.prog 54 #[Dptr pm] w (TakePost w p q S F at_ n) := by
  have c0 : w.cell? ⟨pm, 0, none⟩ = some (Dptr p) := cell_of hM 0
  have c1 : w.cell? ⟨pm, 1, none⟩ = some (.int .i64 (at_ : Int)) := cell_of hM 1
  have c2 : w.cell? ⟨pm, 2, none⟩ = some (.int .i64 (n : Int)) := cell_of hM 2
  have hs8 : S.size ≤ 8192 := by
    have := h.dev.ok.n
    unfold WalS.size
    omega
  have hpl := lt_of_heap hM
  have hlt := h.lt
  have hlen : ∀ k, (S.get k).length = 64 := fun k => h.ok.get_len h.dev.ok k
  have hlenH : Hid _ := Lib.hid hlen
  have hsec : ∀ i, i < n → at_ + i / 512 < S.size := fun i hi => by unfold sectorsOf at hsz; omega
  have hsecH : Hid _ := Lib.hid hsec
  clear hlen hsec hsz
  go_enter Try.func54, Try.ntmps54
  go_wp2_with fail
  go_loopg [4, 5, 6, 7, 13] n (fun g bv _ _ _ iv wr => ∃ (i j : Nat), i + g = n ∧ iv = .int .i64 (i : Int) ∧ (∀ k, k < i → S.bit at_ k = true) ∧ (i % 512 ≠ 0 → ∃ gb, Dat 5 wr (· = gb) bv (S.get (at_ + i / 512)) ∧ w.heap.size ≤ gb) ∧ StoreAt Try.prog wr p q (S.cnt j) F ∧ Chg F w wr)
  case atStart => exact ⟨0, 0, by omega, rfl, fun k hk => by omega, fun h => absurd rfl h, h, Chg.refl _ _⟩
  case round =>
    obtain ⟨i, j, hid, rfl, hall, hb, hS, hC⟩ := hrel
    have hid' : Hid (i + gk = n) := hid
    have hsr := hC.size
    have hMr := hM.chg hC hpm
    have d0 : wr.cell? ⟨pm, 0, none⟩ = some (Dptr p) := cell_of hMr 0
    have d1 : wr.cell? ⟨pm, 1, none⟩ = some (.int .i64 (at_ : Int)) := cell_of hMr 1
    by_cases hi : i < n
    · have hi' : (i : Int) < (n : Int) := by omega
      have hi8 : i < 8192 := by omega
      have hallH : Hid _ := Lib.hid hall
      have hbH : Hid _ := Lib.hid hb
      clear hid hall hb
      have hD := hS.below (Below.refl _ wr).drew
      have hb3 := hsecH.out i hi
      have cr := wread_ok hD (i := IntKind.i64.wrap ((at_ : Int) + IntKind.i64.wrap ((i : Int) / 512))) (k := at_ + i / 512) (idx_eq (by omega)) (by simpa using hd) (by simpa using hsecH.out i hi)
      rw [WalS.cnt_get] at cr
      go_upto_if 18 with fail
      obtain ⟨b18, hb18⟩ : ∃ b18, b18 = ((i : Int) % 512 == 0) := ⟨_, rfl⟩
      rw [← hb18]
      have hb18H : Hid _ := Lib.hid hb18
      clear hb18 hb3
      go_cut [4, 6, 7] from 19 to 37 (fun v _ _ wx => ∃ gb j', Dat 5 wx (· = gb) v (S.get (at_ + i / 512)) ∧ w.heap.size ≤ gb ∧ StoreAt Try.prog wx p q (S.cnt j') F ∧ Chg F w wx)
      case first =>
        cases b18 with
        | true =>
          go_wp2_with fail
          go_region_with ((go_at_call 45; refine cr.mono ?_; rintro e w3 ⟨v3, g3, j3, rfl, hv3, hg3, hS3, hC3⟩))
          all_goals
            go_wp2_with fail
            go_meet
            case rel => exact ⟨g3, j + j3, hv3, Nat.le_trans hsr hg3, by rw [WalS.cnt_cnt] at hS3; exact hS3, hC.trans ((Chg.refl _ wr).drew.trans hC3 (fun _ _ h => h)) (fun _ _ h => h)⟩
        | false =>
          obtain ⟨gb, hb1, hb2⟩ := hbH.out (fun hm => by
            have h9 := hb18H.out
            rw [show (i : Int) % 512 = 0 from by omega] at h9
            cases h9)
          go_wp2_with fail
          go_meet
          case rel => exact ⟨gb, j, hb1, hb2, hS, hC⟩
      case rest =>
        obtain ⟨gb, j', hv, hgb, hS2, hC2⟩ := hcut
        obtain ⟨gg, cap, cur, rfl, rfl, k1, k2, k3, k4, k5⟩ := id hv
        have hl := hlenH.out (at_ + i / 512)
        have hk64 : i % 512 / 8 < (S.get (at_ + i / 512)).length := by rw [hl]; omega
        obtain ⟨x, hx⟩ : ∃ x, x = (S.get (at_ + i / 512)).getD (i % 512 / 8) 0 := ⟨_, rfl⟩
        have cx : wc.cell? ⟨gg, i % 512 / 8, none⟩ = some (.int .u8 (x.toNat : Int)) := by
          obtain ⟨g', hg', hb⟩ := hv.buf
          obtain rfl : g' = gg := hg'
          exact hb.cells (i % 512 / 8) (u8v x) (by rw [hx]; simp [List.getD, hk64])
        have hx256 := x.toNat_lt
        have hbit : S.bit at_ i = (x.toNat / 2 ^ (i % 8) % 2 == 1) := by
          unfold WalS.bit bitB
          rw [show i % 512 % 8 = i % 8 from by omega, ← hx]
        have hb2 := and1_div x.toNat (i % 8) hx256
        obtain ⟨xn, hxn⟩ : ∃ xn, xn = x.toNat := ⟨_, rfl⟩
        rw [← hxn] at cx hx256 hbit hb2
        rw [hl] at k2 ⊢
        have hvH : Hid (Dat 5 wc (· = gg) (.slice (some ⟨gg, 0, none⟩) (S.get (at_ + i / 512)).length cap) (S.get (at_ + i / 512))) := hv
        have hlH : Hid _ := Lib.hid hl
        have hMc := hM.chg hC2 hpm
        clear hx hk64 hxn hv k5 hl hD cr hbH hS hC d0 d1 hMr hsr
        cases hbt : S.bit at_ i with
        | true =>
          have h1 : xn / 2 ^ (i % 8) % 2 = 1 := by rw [hbt] at hbit; simpa using hbit.symm
          rw [h1] at hb2
          have hbtH : Hid _ := Lib.hid hbt
          clear hbit h1 hbt
          go_wp2_with fail
          go_roundg (gk - 1)
          case measure => have := hid'.out; omega
          case rel =>
            refine ⟨i + 1, j', by have := hid'.out; omega, by go_num, fun k hk => ?_, fun hne => ⟨gg, ?_, hgb⟩, hS2, hC2⟩
            · by_cases e : k = i
              · subst e; exact hbtH.out
              · exact hallH.out k (by omega)
            · rw [show (i + 1) / 512 = i / 512 from by omega]
              have := hvH.out
              rw [hlH.out] at this
              exact this
        | false =>
          have h1 : xn / 2 ^ (i % 8) % 2 = 0 := by
            rw [hbt] at hbit
            have : ¬ xn / 2 ^ (i % 8) % 2 = 1 := fun h => by rw [h] at hbit; cases hbit
            omega
          rw [h1] at hb2
          have hbtH : Hid _ := Lib.hid hbt
          have cs := set_ok (tb := true) hMc hpm hS2 (by simpa using hd) (i := i) (by simpa using hsecH.out i hi) hi8
          unfold SetPost at cs
          rw [WalS.cnt_setBit] at cs
          have hsc := hC2.size
          have hin := hi
          obtain ⟨r, hr⟩ : ∃ r, r = S.setBit at_ i true := ⟨_, rfl⟩
          rw [← hr] at cs
          have hrH : Hid _ := Lib.hid hr
          clear hbit h1 hbt hr
          go_wp2_with fail
          refine cs.mono ?_
          rintro e w2 ⟨j2, rfl, hS3, hC3⟩
          rw [WalS.cnt_cnt] at hS3
          have hS4 : StoreAt Try.prog w2 p q (r.2.cnt (j' + j2)) (ext F w w2) := hS3.mono (fun k hk => hk.imp id fun h => ⟨Nat.le_trans hsc h.1, h.2⟩) (fun k hk => hk.elim (fun h9 => by have := hlt k h9; have := hC3.size; omega) (·.2))
          have hC4 : Chg F w w2 := hC2.trans hC3 (fun _ _ h => h)
          clear cs hS3 hC3
          by_cases hr0 : r.1 = 0
          · rw [hr0]
            have hr0H : Hid _ := Lib.hid hr0
            clear hr0
            go_wp2_with fail
            go_ret2
            refine .inr ⟨i, hin, hbtH.out, hallH.out, j' + j2, ?_, by rw [← hrH.out]; exact hS4, hC4⟩
            rw [← hrH.out, if_pos hr0H.out]
            rfl
          · have hr1 : (r.1 != 0) = true := by simpa using hr0
            go_wp2_with fail
            go_ret2
            refine .inr ⟨i, hin, hbtH.out, hallH.out, j' + j2, ?_, by rw [← hrH.out]; exact hS4, hC4⟩
            rw [← hrH.out, if_neg hr0]
            rfl
    · obtain rfl : i = n := by omega
      have hallH : Hid _ := Lib.hid hall
      clear hid hall hb
      go_wp2_with fail
      go_ret2
      exact .inl ⟨hallH.out, j, rfl, wat_ext hS, hC⟩

/-- How many of the first m items are taken. -/
def _root_.Go.Lz.WalS.countB (S : WalS) (at_ m : Nat) : Nat := ((List.range m).filter fun i => S.bit at_ i).length
theorem _root_.Go.Lz.WalS.countB_succ (S : WalS) (at_ m : Nat) : S.countB at_ (m + 1) = S.countB at_ m + (if S.bit at_ m then 1 else 0) := by
  unfold WalS.countB
  rw [List.range_succ, List.filter_append, List.length_append]
  congr 1
  by_cases h : S.bit at_ m = true <;> simp [h]
theorem _root_.Go.Lz.WalS.countB_le (S : WalS) (at_ m : Nat) : S.countB at_ m ≤ m := by
  have := List.length_filter_le (fun i => S.bit at_ i) (List.range m)
  rwa [List.length_range] at this

set_option maxRecDepth 100000 in
theorem count_dead (hM : MapO w pm p at_ n) (h : StoreAt Try.prog w p q S F) (hd : S.isDead = true) (hn : 0 < n) : Calls Try.prog 56 #[Dptr pm] w fun e w' => e = .returned (.tuple #[.int .i64 0, .int .i64 50]) ∧ Below w.heap.size w w' := by
  have c0 : w.cell? ⟨pm, 0, none⟩ = some (Dptr p) := cell_of hM 0
  have c1 : w.cell? ⟨pm, 1, none⟩ = some (.int .i64 (at_ : Int)) := cell_of hM 1
  have c2 : w.cell? ⟨pm, 2, none⟩ = some (.int .i64 (n : Int)) := cell_of hM 2
  have hD := (h.below (Below.refl _ w).drew)
  have hn' : (0 : Int) < (n : Int) := by omega
  go_enter Try.func56, Try.ntmps56
  go_wp2_with fail
  go_loopg [5] 0 (fun _ iv wr => iv = .int .i64 0 ∧ wr = w)
  case atStart => exact ⟨rfl, rfl⟩
  case round =>
    obtain ⟨rfl, rfl⟩ := hrel
    go_wp2_with fail
    go_region_with ((go_at_call 45; refine (wread_dead hD hd _).mono ?_; rintro e w3 ⟨rfl, rfl⟩))
    all_goals
      go_wp2_with fail
      go_ret2
      exact ⟨rfl, (Below.refl _ _).drew⟩

set_option maxRecDepth 100000 in
set_option maxHeartbeats 2000000 in
theorem count_ok (hM : MapO w pm p at_ n) (hpm : ¬ F pm) (h : StoreAt Try.prog w p q S F) (hd : S.isDead = false) (hn : n ≤ 8192) (hsz : at_ + sectorsOf n ≤ S.size) : Calls Try.prog 56 #[Dptr pm] w (Same w p q S F (.tuple #[.int .i64 (S.countB at_ n : Int), .int .i64 0])) := by
  have c0 : w.cell? ⟨pm, 0, none⟩ = some (Dptr p) := cell_of hM 0
  have c1 : w.cell? ⟨pm, 1, none⟩ = some (.int .i64 (at_ : Int)) := cell_of hM 1
  have c2 : w.cell? ⟨pm, 2, none⟩ = some (.int .i64 (n : Int)) := cell_of hM 2
  have hs8 : S.size ≤ 8192 := by
    have := h.dev.ok.n
    unfold WalS.size
    omega
  have hpl := lt_of_heap hM
  have hlt := h.lt
  have hlen : ∀ k, (S.get k).length = 64 := fun k => h.ok.get_len h.dev.ok k
  have hlenH : Hid _ := Lib.hid hlen
  have hsec : ∀ i, i < n → at_ + i / 512 < S.size := fun i hi => by unfold sectorsOf at hsz; omega
  have hsecH : Hid _ := Lib.hid hsec
  clear hlen hsec hsz
  go_enter Try.func56, Try.ntmps56
  go_wp2_with fail
  go_loopg [4, 5, 6, 7, 8] ((n + 511) / 512) (fun g cv iv _ _ _ wr => ∃ (t j : Nat), t + g = (n + 511) / 512 ∧ iv = .int .i64 ((512 * t : Nat) : Int) ∧ cv = .int .i64 (S.countB at_ (min n (512 * t)) : Int) ∧ StoreAt Try.prog wr p q (S.cnt j) F ∧ Chg F w wr)
  case atStart => exact ⟨0, 0, by omega, rfl, by simp [WalS.countB], h, Chg.refl _ _⟩
  case round =>
    obtain ⟨t, j, htd, rfl, rfl, hS, hC⟩ := hrel
    obtain ⟨wo, rfl⟩ : ∃ wo : World, wo = wr := ⟨_, rfl⟩
    have htd' : Hid (t + gk = (n + 511) / 512) := htd
    have hMr := hM.chg hC hpm
    have d0 : wo.cell? ⟨pm, 0, none⟩ = some (Dptr p) := cell_of hMr 0
    have d1 : wo.cell? ⟨pm, 1, none⟩ = some (.int .i64 (at_ : Int)) := cell_of hMr 1
    have d2 : wo.cell? ⟨pm, 2, none⟩ = some (.int .i64 (n : Int)) := cell_of hMr 2
    have hsr := hC.size
    obtain ⟨i, hi⟩ : ∃ i, i = 512 * t := ⟨_, rfl⟩
    rw [← hi]
    have hiH : Hid _ := Lib.hid hi
    by_cases hin : i < n
    · have hin' : (i : Int) < (n : Int) := by omega
      have hi8 : i < 8192 := by omega
      have hb3 := hsecH.out i hin
      have hD := hS.below (Below.refl _ wo).drew
      have cr := wread_ok hD (i := IntKind.i64.wrap ((at_ : Int) + IntKind.i64.wrap ((i : Int) / 512))) (k := at_ + i / 512) (idx_eq (by omega)) (by simpa using hd) (by simpa using hb3)
      rw [WalS.cnt_get] at cr
      have hcl := S.countB_le at_ (min n i)
      obtain ⟨c, hc⟩ : ∃ c, c = S.countB at_ (min n i) := ⟨_, rfl⟩
      rw [← hc]
      have hcH : Hid _ := Lib.hid hc
      clear htd hi hb3 hc
      go_upto_region 5 with fail
      go_cut [6, 7, 17] from 18 to 31 (fun v ev _ wx => ev = .int .i64 0 ∧ ∃ gb j', Dat 5 wx (· = gb) v (S.get (at_ + i / 512)) ∧ w.heap.size ≤ gb ∧ StoreAt Try.prog wx p q (S.cnt j') F ∧ Chg F w wx)
      case first =>
        go_region_with ((go_at_call 45; refine cr.mono ?_; rintro e w3 ⟨v3, g3, j3, rfl, hv3, hg3, hS3, hC3⟩))
        all_goals
          go_wp2_with fail
          go_meet
          case rel => exact ⟨rfl, g3, j + j3, hv3, Nat.le_trans hsr hg3, by rw [WalS.cnt_cnt] at hS3; exact hS3, hC.trans ((Chg.refl _ wo).drew.trans hC3 (fun _ _ h => h)) (fun _ _ h => h)⟩
      case rest =>
        obtain ⟨rfl, gb, j', hv, hgb, hS2, hC2⟩ := hcut
        obtain ⟨gg, cap, cur, rfl, rfl, k1, k2, k3, k4, k5⟩ := id hv
        have hl := hlenH.out (at_ + i / 512)
        have hMc := hM.chg hC2 hpm
        have e2 : wc.cell? ⟨pm, 2, none⟩ = some (.int .i64 (n : Int)) := cell_of hMc 2
        rw [hl] at k2 ⊢
        have hlH : Hid _ := Lib.hid hl
        obtain ⟨M, hM'⟩ : ∃ M, M = min n (i + 512) := ⟨_, rfl⟩
        have hMI : min (n : Int) ((i : Int) + 512) = (M : Int) := by omega
        have hM8 : M ≤ 8704 := by omega
        have hiM : i ≤ M := by omega
        have hMi : M ≤ i + 512 := by omega
        have hMn : M ≤ n := by omega
        have hMH : Hid _ := Lib.hid hM'
        have hvH : Hid (Dat 5 wc (· = gg) (.slice (some ⟨gg, 0, none⟩) (S.get (at_ + i / 512)).length cap) (S.get (at_ + i / 512))) := hv
        clear hl k5 hv hM' hMc hMr hD cr d0 d1 d2 hS hC
        obtain ⟨g0, rfl⟩ : ∃ g0 : Nat, g0 = gk := ⟨_, rfl⟩
        go_wp2_with fail
        go_loopg [4, 8] (M - i) (fun g cv kv wx => ∃ k : Nat, k + g = M ∧ i ≤ k ∧ wx = wc ∧ kv = .int .i64 (k : Int) ∧ cv = .int .i64 (S.countB at_ k : Int))
        case atStart => exact ⟨i, by omega, Nat.le_refl _, rfl, rfl, by rw [hcH.out, show min n i = i from by omega]⟩
        case round =>
          obtain ⟨k, hkd, hik, rfl, rfl, rfl⟩ := hrel
          have hkd' : Hid (k + gk = M) := hkd
          have hckl := S.countB_le at_ k
          by_cases hk : k < M
          · have hk' : (k : Int) < (M : Int) := by omega
            have hlk := hlH.out
            have hq : k / 512 = i / 512 := by have := hiH.out; omega
            have hk64 : k % 512 / 8 < (S.get (at_ + i / 512)).length := by rw [hlk]; omega
            obtain ⟨x, hx⟩ : ∃ x, x = (S.get (at_ + i / 512)).getD (k % 512 / 8) 0 := ⟨_, rfl⟩
            have cx : wr.cell? ⟨gg, k % 512 / 8, none⟩ = some (.int .u8 (x.toNat : Int)) := by
              obtain ⟨g', hg', hb⟩ := hvH.out.buf
              obtain rfl : g' = gg := hg'
              exact hb.cells (k % 512 / 8) (u8v x) (by rw [hx]; simp [List.getD, hk64])
            have hx256 := x.toNat_lt
            have hbit : S.bit at_ k = (x.toNat / 2 ^ (k % 8) % 2 == 1) := by
              unfold WalS.bit bitB
              rw [show k % 512 % 8 = k % 8 from by omega, hq, ← hx]
            have hb2 := and1_div x.toNat (k % 8) hx256
            obtain ⟨xn, hxn⟩ : ∃ xn, xn = x.toNat := ⟨_, rfl⟩
            rw [← hxn] at cx hx256 hbit hb2
            have hsucc := S.countB_succ at_ k
            obtain ⟨y, hy⟩ : ∃ y, y = xn / 2 ^ (k % 8) % 2 := ⟨_, rfl⟩
            have hy2 : y < 2 := by omega
            rw [← hy] at hb2 hbit
            have hyb : S.countB at_ (k + 1) = S.countB at_ k + y := by
              rw [hsucc, hbit]
              have : y = 0 ∨ y = 1 := by omega
              rcases this with h | h <;> simp [h]
            have hybH : Hid _ := Lib.hid hyb
            generalize S.countB at_ k = c0' at hckl hybH ⊢
            clear hx hk64 hxn hkd hlk hq hsucc hbit hy hyb
            go_wp2_with fail
            go_roundg (gk - 1)
            case measure => have := hkd'.out; omega
            case rel => exact ⟨k + 1, by have := hkd'.out; omega, by omega, rfl, by go_num, by rw [hybH.out]; go_num⟩
          · obtain rfl : k = M := by omega
            clear hkd
            go_wp2_with fail
            go_roundg (g0 - 1)
            case measure => have := htd'.out; have := hiH.out; omega
            case rel =>
              exact ⟨t + 1, j', by have := htd'.out; have := hiH.out; omega, by have := hiH.out; rw [this]; go_num, by rw [hMH.out, hiH.out, show min n (512 * t + 512) = min n (512 * (t + 1)) from by omega], hS2, hC2⟩
    · have hin' : ¬ (i : Int) < (n : Int) := by omega
      have hE : min n i = n := by omega
      rw [hE]
      clear htd hi hE
      go_wp2_with fail
      go_ret2
      exact ⟨j, rfl, wat_ext hS, hC⟩
end
end Go.Proofs.Ytbnoebdpbpjbkaa
