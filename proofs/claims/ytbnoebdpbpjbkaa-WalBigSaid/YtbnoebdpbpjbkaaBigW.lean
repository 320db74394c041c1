/-
  WalBig, walked: it answers true at every number, every list, aborted or not.
-/
import Derived.Test.YtbnoebdpbpjbkaaLaw4d
import Derived.Test.YtbnoebdpbpjbkaaDeadW
import Derived.Test.YtbnoebdpbpjbkaaBits
import Derived.Test.YtbnoebdpbpjbkaaMods
namespace Go.Lz
open Go.RowKit

/-- A transaction of the first sectors, i of them, 128 at most. -/
def bigNow (i : Nat) (k : Nat) : Option Bytes := if k < min i 128 then some (bytesOf ((k : Int) + 1) 64) else none
/-- What is there at the end. -/
def bigH (m : Nat) (ab : Bool) (i : Nat) (k : Nat) : Bytes := if i ≠ 0 ∧ k < m ∧ ab = false then bytesOf ((k : Int) + 1) 64 else zero64

theorem Rec.write_big {S : WalS} {n c d : Nat} {h : Nat → Nat → Bytes} (r : Rec S n c d h) {k : Nat} {b : Bytes} (hk : k < n) (hb : b.length = 64) (hm : (S.now k).isSome = false) (hN : 128 ≤ (keysF S.now n).length) : S.write (k : Int) b = (5, S) := by
  obtain ⟨g0, hl, _⟩ := r.ex
  exact hl.write_big (by rw [r.size]; exact hk) hb hm (by unfold WalS.nowN; rw [r.size]; exact hN)

theorem bigNow_upd {i : Nat} (hi : i < 128) : upd (bigNow i) i (some (bytesOf ((i : Int) + 1) 64)) = bigNow (i + 1) := by
  funext k
  by_cases e : k = i
  · subst e
    rw [upd_same]
    unfold bigNow
    rw [if_pos (by omega)]
  · rw [upd_other _ e]
    unfold bigNow
    by_cases h : k < min i 128
    · rw [if_pos h, if_pos (by omega)]
    · rw [if_neg h, if_neg (by omega)]

theorem bigNow_full {i : Nat} (hi : 128 ≤ i) : bigNow (i + 1) = bigNow i := by
  funext k
  unfold bigNow
  rw [show min (i + 1) 128 = min i 128 from by omega]

theorem bigNow_some {i k : Nat} : (bigNow i k).isSome = decide (k < min i 128) := by
  unfold bigNow
  by_cases h : k < min i 128 <;> simp [h]

theorem bigNow_keys {i : Nat} (hi : 128 ≤ i) : 128 ≤ (keysF (bigNow i) 200).length := by
  have e : (fun k => (bigNow i k).isSome) = fun k => decide (k < 128) := by
    funext k
    rw [bigNow_some, show min i 128 = 128 from by omega]
  unfold keysF
  rw [e]
  decide +kernel

section
variable {S : WalS} {i : Nat} {h : Nat → Nat → Bytes}
theorem bigWrite (r : Rec S 200 0 0 h) (hn : S.now = bigNow i) (hw : Well S.dev) (hi : i < 200) :
    ∃ S', S.write (i : Int) (bytesOf ((i : Int) + 1) 64) = (if i < 128 then 0 else 5, S') ∧ Rec S' 200 0 0 h ∧ S'.now = bigNow (i + 1) ∧ Well S'.dev := by
  by_cases h128 : i < 128
  · obtain ⟨e1, r1⟩ := r.write (k := i) (b := bytesOf ((i : Int) + 1) 64) hi (bytesOf_length _ _) (.inr (Nat.lt_of_le_of_lt (keysF_supp (m := i) (fun k hk => by
      rw [hn, bigNow_some] at hk
      have := of_decide_eq_true hk
      omega) 200) h128))
    refine ⟨_, by rw [e1, if_pos h128], r1, ?_, hw⟩
    show upd S.now i _ = _
    rw [hn, bigNow_upd h128]
  · refine ⟨S, ?_, r, by rw [hn, bigNow_full (by omega)], hw⟩
    rw [r.write_big hi (bytesOf_length _ _) (by rw [hn, bigNow_some]; exact decide_eq_false (by omega)) (by rw [hn]; exact bigNow_keys (by omega)), if_neg h128]

/-- Two writes of a sector that is there: as it was. -/
theorem bigTwice (r : Rec S 200 0 0 h) {n : Nat} (hn : S.now = bigNow n) (hw : Well S.dev) {k : Nat} (hk : k < min n 128) :
    ∃ S1 S2, S.write (k : Int) (bytesOf (300 + (k : Int)) 64) = (0, S1) ∧ S1.write (k : Int) (bytesOf ((k : Int) + 1) 64) = (0, S2) ∧ Rec S2 200 0 0 h ∧ S2.now = bigNow n ∧ Well S2.dev := by
  have hs : (S.now k).isSome = true := by rw [hn, bigNow_some]; exact decide_eq_true hk
  obtain ⟨e1, r1⟩ := r.write (k := k) (b := bytesOf (300 + (k : Int)) 64) (by omega) (bytesOf_length _ _) (.inl hs)
  obtain ⟨e2, r2⟩ := r1.write (k := k) (b := bytesOf ((k : Int) + 1) 64) (by omega) (bytesOf_length _ _) (.inl (by show (upd S.now k _ k).isSome = true; rw [upd_same]; rfl))
  refine ⟨_, _, e1, e2, r2, ?_, hw⟩
  show upd (upd S.now k _) k _ = _
  funext j
  by_cases e : j = k
  · subst e
    rw [upd_same]
    unfold bigNow
    rw [if_pos hk]
  · rw [upd_other _ e, upd_other _ e, hn]

/-- Committed and synced. -/
theorem bigEnd {m : Nat} {ab : Bool} (r : Rec S 200 0 0 (bigH m ab)) (hn : ∀ k, k < 200 → S.now k = if k < m ∧ ab = false then some (bytesOf ((k : Int) + 1) 64) else none) (hw : Well S.dev) :
    ∃ S1 S2, S.commit = (0, S1) ∧ S1.sync = (0, S2) ∧ Rec S2 200 1 1 (bigH m ab) ∧ S2.now = (fun _ => none) := by
  rcases r.commit (by omega) (bigH m ab) (fun i hi => rfl) (fun k hk => by
    show bigH m ab 1 k = (S.now k).getD (bigH m ab 0 k)
    rw [hn k hk]
    unfold bigH
    by_cases hc : k < m ∧ ab = false
    · rw [if_pos ⟨by decide, hc⟩, if_pos hc]; rfl
    · rw [if_neg (fun h => hc h.2), if_neg hc]; rfl) with ⟨e2, ⟨d2, hd2, r2⟩, n2, w2⟩ | ⟨_, _, _, _, _, _, _, _, hx⟩
  · rcases r2.sync with ⟨e3, r3, n3, l3, _, w3⟩ | ⟨_, _, _, _, _, _, _, _, hx⟩
    · exact ⟨_, _, Prod.ext e2 rfl, Prod.ext e3 rfl, r3, by rw [n3, n2]⟩
    · exact absurd (w2 hw) hx
  · exact absurd hw hx
end
end Go.Lz
namespace Go.Proofs.Ytbnoebdpbpjbkaa
open Go.RowKit Go.Lz

set_option maxRecDepth 100000 in
set_option maxHeartbeats 1000000 in
theorem walBig_any {w : World} {G : Nat → Prop} {v : Value} {l : List Int} (n : Int) (hv : IntsAt w G v l) (ab : Bool) :
    Calls Try.prog 11 #[.int .i64 n, v, .bool ab] w fun e w' => e = .returned (.bool true) ∧ Below w.heap.size w w' := by
  obtain ⟨a, n1, cp, rfl, hl, hn1, hcs⟩ := hv
  have hb := and65535
  go_enter Try.func11, Try.ntmps11
  go_wp2_with fail
  refine (lw4Open_any w 500 (by omega) (by omega)).mono ?_
  rintro e w1 ⟨p, q, rfl, hO1⟩
  obtain ⟨N, hN, hN2⟩ := mod_in n 200 (by omega) (by omega)
  have hN200 : N < 200 := by omega
  obtain ⟨m, hm⟩ : ∃ m, m = min N 128 := ⟨_, rfl⟩
  obtain ⟨_, r0, w0, n0⟩ := new_rec (n := 500) (by omega) (by omega) (bigH m ab) (fun k _ => by simp [bigH])
  have n0' : (newS 500).now = bigNow 0 := by
    rw [n0]
    funext k
    simp [bigNow]
  generalize newS 500 = S0 at r0 w0 n0' hO1
  clear n0 hN2
  go_upto_block 0 with fail
  clear hN
  go_cut [9, 10] from 27 to 50 (fun _ _ wr => ∃ S, Rec S 200 0 0 (bigH m ab) ∧ S.now = bigNow N ∧ Well S.dev ∧ Own w wr (TStore p q S) noLocals)
  case first =>
    have n0H : Hid _ := Lib.hid n0'
    clear n0'
    go_wp2_with fail
    go_loopg [9] N (fun g iv wr => ∃ (i : Nat) (S : WalS), i + g = N ∧ iv = .int .i64 (i : Int) ∧ Rec S 200 0 0 (bigH m ab) ∧ S.now = bigNow i ∧ Well S.dev ∧ Own w wr (TStore p q S) noLocals)
    case atStart => exact ⟨0, _, by omega, rfl, r0, n0H.out, w0, hO1⟩
    case round =>
      obtain ⟨i, S, hid, rfl, hr, hnow, hw, hO⟩ := hrel
      have hid' : Hid (i + gk = N) := hid
      by_cases hi : i < N
      · have hi' : (i : Int) < (N : Int) := by omega
        obtain ⟨S1, e1, r1, n1', w1'⟩ := bigWrite hr hnow hw (by omega)
        have n1H : Hid _ := Lib.hid n1'
        clear hid hnow n1'
        go_wp2_with fail
        refine (sector_any _ _).mono ?_
        rintro e wa ⟨va, ga, rfl, hva, hga, hBa⟩
        have hOa := hO.below (keepsStore _ _ _) hBa
        have cw := write4 hOa hva.src (i : Int)
        rw [e1] at cw
        clear e1
        by_cases h128 : i < 128
        · rw [if_pos h128] at cw
          have h128' : (i : Int) < 128 := by omega
          go_wp2_with fail
          refine cw.mono ?_
          rintro e wb ⟨rfl, hOb, hsb⟩
          go_wp2_with fail
          go_roundg (gk - 1)
          case measure => have := hid'.out; omega
          case rel => exact ⟨i + 1, _, by have := hid'.out; omega, by go_num, r1, n1H.out, w1', hOb⟩
        · rw [if_neg h128] at cw
          have h128' : (128 : Int) ≤ (i : Int) := by omega
          go_wp2_with fail
          refine cw.mono ?_
          rintro e wb ⟨rfl, hOb, hsb⟩
          go_wp2_with fail
          go_roundg (gk - 1)
          case measure => have := hid'.out; omega
          case rel => exact ⟨i + 1, _, by have := hid'.out; omega, by go_num, r1, n1H.out, w1', hOb⟩
      · obtain rfl : i = N := by omega
        clear hid
        go_wp2_with fail
        go_meet
        case rel => exact ⟨S, hr, hnow, hw, hO⟩
  case rest =>
    obtain ⟨S1, hr1, hn1', hw1, hO1'⟩ := hcut
    clear hO1 r0 w0 n0'
    have hnH : Hid _ := Lib.hid hn1'
    have hmH : Hid _ := Lib.hid hm
    have hmle : m ≤ 128 := by omega
    have hmN : 0 < N → 0 < m := by omega
    have hmin : min (N : Int) 128 = (m : Int) := by omega
    clear hn1' hm
    go_upto_block 2 with fail
    go_cut [11, 12] from 51 to 88 (fun _ _ wr => ∃ S, Rec S 200 0 0 (bigH m ab) ∧ S.now = bigNow N ∧ Well S.dev ∧ Own w wr (TStore p q S) noLocals)
    case first =>
      go_wp2_with fail
      go_loopg [11] 10 (fun g iv wr => ∃ (j : Nat) (S : WalS), j + g = 10 ∧ iv = .int .i64 (j : Int) ∧ Rec S 200 0 0 (bigH m ab) ∧ S.now = bigNow N ∧ Well S.dev ∧ Own w wr (TStore p q S) noLocals)
      case atStart => exact ⟨0, _, rfl, rfl, hr1, hnH.out, hw1, hO1'⟩
      case round =>
        obtain ⟨j, S, hjd, rfl, hr, hnow, hw, hO⟩ := hrel
        have hjd' : Hid (j + gk = 10) := hjd
        by_cases hin : j < n1 ∧ j < 10 ∧ 0 < N
        · obtain ⟨hjn, hj10, hN0⟩ := hin
          rcases hcs with h0 | ⟨b, off, rfl, _, hbl, hc⟩
          · omega
          obtain ⟨x, hx⟩ : ∃ x, x = l.getD j 0 := ⟨_, rfl⟩
          have hcx : wr.cell? ⟨b, off + j, none⟩ = some (.int .i64 x) := by rw [hx]; exact (hO.base.cell (p := ⟨b, off + j, none⟩) hbl).trans (hc j hjn)
          have hjn' : (j : Int) < (n1 : Int) := by omega
          have hj10' : (j : Int) < 10 := by omega
          have hN0' : (0 : Int) < (N : Int) := by omega
          have hm0 : 0 < m := hmN hN0
          have hm0' : (0 : Int) < (m : Int) := by omega
          obtain ⟨K, hK⟩ : ∃ K : Nat, x % 65536 % (m : Int) = (K : Int) := ⟨(x % 65536 % (m : Int)).toNat, by have := Int.emod_nonneg (x % 65536) (show (m : Int) ≠ 0 by omega); omega⟩
          have hKm : K < m := by have := Int.emod_lt_of_pos (x % 65536) hm0'; omega
          have htm : (x % 65536).tmod (m : Int) = (K : Int) := by rw [Int.tmod_eq_emod_of_nonneg (by omega), hK]
          obtain ⟨S1, S2, e1, e2, r2, n2, w2⟩ := bigTwice hr hnow hw (k := K) (by have := hmH.out; omega)
          have n2H : Hid _ := Lib.hid n2
          have hx0 : 0 ≤ x % 65536 := by omega
          clear hx hc hjd hnow n2
          go_wp2_with fail
          refine (sector_any _ _).mono ?_
          rintro e wa ⟨va, ga, rfl, hva, hga, hBa⟩
          have hOa := hO.below (keepsStore _ _ _) hBa
          have cw := write4 hOa hva.src (K : Int)
          rw [e1] at cw
          go_wp2_with fail
          refine cw.mono ?_
          rintro e wb ⟨rfl, hOb, hsb⟩
          go_wp2_with fail
          refine (sector_any _ _).mono ?_
          rintro e wc2 ⟨vc, gc, rfl, hvc, hgc, hBc⟩
          have hOc := hOb.below (keepsStore _ _ _) hBc
          have cw2 := write4 hOc hvc.src (K : Int)
          simp only [e2] at cw2
          go_wp2_with fail
          refine cw2.mono ?_
          rintro e wd ⟨rfl, hOd, hsd⟩
          go_wp2_with fail
          go_roundg (gk - 1)
          case measure => have := hjd'.out; omega
          case rel => exact ⟨j + 1, _, by have := hjd'.out; omega, by go_num, r2, n2H.out, w2, hOd⟩
        · by_cases h1 : j < n1
          · have h1' : (j : Int) < (n1 : Int) := by omega
            by_cases h2 : j < 10
            · obtain rfl : N = 0 := by omega
              have h2' : (j : Int) < 10 := by omega
              clear hjd hin
              go_wp2_with fail
              go_meet
              case rel => exact ⟨S, hr, hnow, hw, hO⟩
            · have h2' : ¬ (j : Int) < 10 := by omega
              clear hjd hin
              go_wp2_with fail
              go_meet
              case rel => exact ⟨S, hr, hnow, hw, hO⟩
          · have h1' : ¬ (j : Int) < (n1 : Int) := by omega
            clear hjd hin
            go_wp2_with fail
            go_meet
            case rel => exact ⟨S, hr, hnow, hw, hO⟩
    case rest =>
      obtain ⟨S2, hr2, hn2, hw2, hO2⟩ := hcut
      clear hr1 hw1 hO1' hcs hnH
      have hend : ∀ S, Rec S 200 0 0 (bigH m ab) → Well S.dev → (S.now = if ab = true then (fun _ => none) else bigNow N) → ∃ S1 S2, S.commit = (0, S1) ∧ S1.sync = (0, S2) ∧ Rec S2 200 1 1 (bigH m ab) ∧ S2.now = (fun _ => none) := fun S r hw hn => bigEnd r (fun k hk => by
        rw [hn]
        cases ab with
        | true => simp
        | false => simp [bigNow, hmH.out]) hw
      have hendH : Hid _ := Lib.hid hend
      have hn2H : Hid _ := Lib.hid hn2
      clear hend hn2
      go_upto_if 89 with fail
      go_cut [] from 90 to 91 (fun wr => ∃ S, Rec S 200 0 0 (bigH m ab) ∧ Well S.dev ∧ Hid (S.now = if ab = true then (fun _ => none) else bigNow N) ∧ Own w wr (TStore p q S) noLocals)
      case first =>
        cases ab with
        | true =>
          go_wp2_with fail
          refine (abort4 hO2).mono ?_
          rintro e wa ⟨rfl, hOa, hsa⟩
          go_wp2_with fail
          go_meet
          case rel => exact ⟨_, hr2.aborted, hw2, rfl, hOa⟩
        | false =>
          go_wp2_with fail
          go_meet
          case rel => exact ⟨_, hr2, hw2, hn2H.out, hO2⟩
      case rest =>
        obtain ⟨S3, hr3, hw3, hn3, hO3⟩ := hcut
        obtain ⟨S4, S5, e4, e5, r5, n5⟩ := hendH.out S3 hr3 hw3 hn3.out
        have n5H : Hid _ := Lib.hid n5
        clear hO2 hr2 hw2 hn2H hendH n5
        have cc := commit4 hO3
        rw [e4] at cc
        go_wp2_with fail
        refine cc.mono ?_
        rintro e w4 ⟨rfl, hO4, hs4⟩
        have cs := sync4 hO4
        simp only [e5] at cs
        go_wp2_with fail
        refine cs.mono ?_
        rintro e w5 ⟨rfl, hO5, hs5⟩
        clear cc cs e4 e5 hO3 hO4 hr3 hw3 hn3
        go_wp2_with fail
        go_loopg [13] 200 (fun g iv wr => ∃ (i : Nat) (S : WalS), i + g = 200 ∧ iv = .int .i64 (i : Int) ∧ Rec S 200 1 1 (bigH m ab) ∧ S.now = (fun _ => none) ∧ Own w wr (TStore p q S) noLocals)
        case atStart => exact ⟨0, _, rfl, rfl, r5, n5H.out, hO5⟩
        case round =>
          obtain ⟨i, S, hid, rfl, hr, hnow, hO⟩ := hrel
          have hid' : Hid (i + gk = 200) := hid
          by_cases hi : i < 200
          · have hi' : (i : Int) < 200 := by omega
            have hmk : ∀ W : World, (Instr.makeSlice 28 (.int .i64 64) (.int .i64 64)).run Try.prog W = .ok (.slice (some ⟨W.heap.size, 0, none⟩) 64 64) (W.alloc (.cells cells64 5)) := fun _ => by kernel_rfl
            have hget : S.get i = bigH m ab 1 i := by
              rw [hr.get hi]
              show (S.now i).getD _ = _
              rw [hnow]
              rfl
            have cr := read4_ok hO (i := (i : Int)) (k := i) rfl (hr.wrong hi) hget
            have hra := hr.asked i
            have hna : (S.asked i).now = fun _ => none := by rw [WalS.asked_now, hnow]
            have hnaH : Hid _ := Lib.hid hna
            clear hid hget hna hnow
            go_wp2_with fail
            refine cr.mono ?_
            rintro e w6 ⟨v6, g6, o6, rfl, hb6, hg6, hO6, hs6⟩
            clear cr
            have hO7 := hO6.below (keepsStore _ _ _) ((Below.refl _ w6).alloc (Nat.le_refl _) (.cells cells64 5))
            have hbz : Buf 5 (w6.alloc (.cells cells64 5)) g6 v6 (bigH m ab 1 i) := hb6.buf (hO7.loc (upd_same _ _ _))
            have hL : noLocals g6 = none := rfl
            by_cases him : i < m
            · have him' : (i : Int) < (m : Int) := by omega
              cases ab with
              | false =>
                have hE : bigH m false 1 i = bytesOf ((i : Int) + 1) 64 := by unfold bigH; rw [if_pos ⟨by decide, him, rfl⟩]
                rw [hE] at hbz
                go_wp2_with fail
                refine (sector_any _ _).mono ?_
                rintro e wa ⟨va, ga, rfl, hva, hga, hBa⟩
                have hOa := hO7.below (keepsStore _ _ _) hBa
                have q2 := run_string hva
                have q1 := run_string (hbz.chg (M := fun _ => False) (Chg.of_below hBa) (fun h => h))
                have hbe := beq_yes (rfl : bytesOf ((i : Int) + 1) 64 = bytesOf ((i : Int) + 1) 64)
                go_wp2_with fail
                go_roundg (gk - 1)
                case measure => have := hid'.out; omega
                case rel => exact ⟨i + 1, _, by have := hid'.out; omega, by go_num, hra, hnaH.out, hOa.drop hL⟩
              | true =>
                have hE : bigH m true 1 i = zero64 := by unfold bigH; rw [if_neg (by simp)]
                rw [hE] at hbz
                have q2 := run_string (buf_zero w6)
                have q1 := run_string hbz
                have hbe := beq_yes (rfl : zero64 = zero64)
                go_wp2_with fail
                go_roundg (gk - 1)
                case measure => have := hid'.out; omega
                case rel => exact ⟨i + 1, _, by have := hid'.out; omega, by go_num, hra, hnaH.out, hO7.drop hL⟩
            · have him' : ¬ (i : Int) < (m : Int) := by omega
              have hE : bigH m ab 1 i = zero64 := by unfold bigH; rw [if_neg (fun h => him h.2.1)]
              rw [hE] at hbz
              have q2 := run_string (buf_zero w6)
              have q1 := run_string hbz
              have hbe := beq_yes (rfl : zero64 = zero64)
              go_wp2_with fail
              go_roundg (gk - 1)
              case measure => have := hid'.out; omega
              case rel => exact ⟨i + 1, _, by have := hid'.out; omega, by go_num, hra, hnaH.out, hO7.drop hL⟩
          · have hi' : ¬ (i : Int) < 200 := by omega
            clear hid
            go_wp2_with fail
            refine (awake4_any _).mono ?_
            rintro e wz ⟨rfl, hBz⟩
            go_wp2_with fail
            go_ret
            exact ⟨rfl, hO.base.trans (hBz.mono hO.size)⟩
end Go.Proofs.Ytbnoebdpbpjbkaa
