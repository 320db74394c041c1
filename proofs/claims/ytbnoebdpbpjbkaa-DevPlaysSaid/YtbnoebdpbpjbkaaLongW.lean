/-
  WalLong, walked: it answers true at every number, every size, every list.
-/
import Derived.Test.YtbnoebdpbpjbkaaLaw4d
import Derived.Test.YtbnoebdpbpjbkaaDeadW
import Derived.Test.YtbnoebdpbpjbkaaBits
import Derived.Test.YtbnoebdpbpjbkaaMods
namespace Go.Lz
open Go.RowKit

/-- Sectors of kinds: below 64 as f says. -/
def kinds64 (f : Nat → Int) (k : Nat) : Bytes := if k < 64 then wantB (f k) else zero64

/-- Between two calls of WalLong: i transactions committed; now and committed together are of the kinds f. -/
structure LongP (S : WalS) (i : Nat) (f : Nat → Int) : Prop where
  ex : ∃ h d, Rec S 100 i d h ∧ ∀ k, k < 100 → over S.now (h i) k = kinds64 f k
  supp : ∀ k, (S.now k).isSome = true → k < 64
  well : Well S.dev

@[simp] theorem upd_upd {α : Type} (f : Nat → α) (k : Nat) (a b : α) : upd (upd f k a) k b = upd f k b := by
  funext j
  by_cases e : j = k
  · subst e; simp
  · simp [upd_other _ e]

theorem longWrite {S : WalS} {i : Nat} {f : Nat → Int} (P : LongP S i f) {k : Nat} {x : Int} (hk : k < 64) (hx : 0 < x) :
    ∃ S', S.write (k : Int) (bytesOf x 64) = (0, S') ∧ LongP S' i (upd f k x) := by
  obtain ⟨h, d, r, hc⟩ := P.ex
  obtain ⟨e1, r1⟩ := r.write (k := k) (b := bytesOf x 64) (by omega) (bytesOf_length _ _) (.inr (Nat.lt_of_le_of_lt (keysF_supp P.supp 100) (by omega)))
  refine ⟨_, e1, ⟨h, d, r1, fun j hj => ?_⟩, fun j hj => ?_, P.well⟩
  · show (upd S.now k (some (bytesOf x 64)) j).getD (h i j) = kinds64 (upd f k x) j
    by_cases e : j = k
    · subst e
      rw [upd_same]
      unfold kinds64 wantB
      rw [if_pos hk, upd_same, if_pos hx]
      rfl
    · rw [upd_other _ e]
      have : kinds64 (upd f k x) j = kinds64 f j := by unfold kinds64; rw [upd_other _ e]
      rw [this]
      exact hc j hj
  · by_cases e : j = k
    · omega
    · simp only [upd_other _ e] at hj
      exact P.supp j hj

theorem longCommit {S : WalS} {i : Nat} {f : Nat → Int} (P : LongP S i f) (hi : i < 1000) : ∃ S', S.commit = (0, S') ∧ LongP S' (i + 1) f ∧ S'.now = fun _ => none := by
  obtain ⟨h, d, r, hc⟩ := P.ex
  rcases r.commit (by omega) (fun j => if j ≤ i then h j else over S.now (h i)) (fun j hj => if_pos hj) (fun k _ => congrFun (if_neg (by omega)) k) with ⟨e2, ⟨d2, hd2, r2⟩, n2, w2⟩ | ⟨_, _, _, _, _, _, _, _, hx⟩
  · refine ⟨_, Prod.ext e2 rfl, ⟨⟨_, d2, r2, fun k hk => ?_⟩, fun k hk => by (rw [n2] at hk; cases hk), w2 P.well⟩, n2⟩
    rw [n2]
    show (if i + 1 ≤ i then h (i + 1) else over S.now (h i)) k = _
    rw [if_neg (by omega)]
    exact hc k hk
  · exact absurd P.well hx
/-- All lasts. -/
theorem longEnd {S : WalS} {i : Nat} {f : Nat → Int} (P : LongP S i f) (hn : S.now = fun _ => none) (l : List Int) :
    ∃ S' D, S.sync = (0, S') ∧ D = S'.dev.crashed false l ∧ D.opened.1 = 0 ∧ Rec (WalS.new D.opened.2) 100 0 0 (fun _ => kinds64 f) := by
  obtain ⟨h, d, r, hc⟩ := P.ex
  rcases r.sync with ⟨e3, r3, n3, l3, _, w3⟩ | ⟨_, _, _, _, _, _, _, _, hx⟩
  · obtain ⟨ho, r5, w5⟩ := r3.reopen (h' := fun _ => kinds64 f) false l (fun k hk => by
      have := hc k hk
      rw [hn] at this
      exact this.symm)
    exact ⟨_, _, Prod.ext e3 rfl, rfl, ho, r5⟩
  · exact absurd P.well hx
end Go.Lz
namespace Go.Proofs.Ytbnoebdpbpjbkaa
open Go.RowKit Go.Lz

set_option maxRecDepth 100000 in
set_option maxHeartbeats 1000000 in
theorem walLong_any {w : World} {G : Nat → Prop} {v : Value} {l : List Int} (n size : Int) (hv : IntsAt w G v l) :
    Calls Try.prog 8 #[.int .i64 n, .int .i64 size, v] w fun e w' => e = .returned (.bool true) ∧ Below w.heap.size w w' := by
  obtain ⟨a, n1, cp, rfl, hl, hn1, hcs⟩ := id hv
  have hb31 := and31
  have hb63 := and63
  have hal : ∀ W : World, (Instr.alloc 67 true (.tuple #[])).run Try.prog W = .ok (.pointer (some ⟨W.heap.size, 0, none⟩)) (W.alloc (.cells (arrOf 64 (fun _ => 0)) 67)) := fun _ => by kernel_rfl
  go_enter Try.func8, Try.ntmps8
  go_wp2_with fail
  refine (lw4Open_any w 400 (by omega) (by omega)).mono ?_
  rintro e w1 ⟨p, q, rfl, hO1⟩
  obtain ⟨N, hN, hN2⟩ := mod_in n 300 (by omega) (by omega)
  have hN300 : N < 300 := by omega
  obtain ⟨Z, hZ⟩ : ∃ Z : Nat, size % 32 = (Z : Int) := ⟨(size % 32).toNat, by omega⟩
  have hZ32 : Z < 32 := by omega
  have hP0 : LongP (newS 400) 0 (fun _ => 0) ∧ (newS 400).now = fun _ => none := by
    obtain ⟨_, r0, w0, n0⟩ := new_rec (n := 400) (by omega) (by omega) (fun _ _ => zero64) (fun k _ => rfl)
    refine ⟨⟨⟨_, 0, r0, fun k hk => ?_⟩, fun k hk => by (rw [n0] at hk; cases hk), w0⟩, n0⟩
    rw [n0]
    show zero64 = kinds64 _ k
    unfold kinds64 wantB
    split <;> simp
  generalize newS 400 = S0 at hP0 hO1
  obtain ⟨B, hB⟩ : ∃ B, B = w1.heap.size := ⟨_, rfl⟩
  have hA1 : (w1.alloc (.cells (arrOf 64 (fun _ => 0)) 67)).heap[w1.heap.size]? = some (.cells (arrOf 64 (fun _ => 0)) 67) := heap_alloc_new w1 _
  have hO2 := hO1.local_ (keepsStore p q S0) ((Below.refl _ w1).alloc (Nat.le_refl _) _) (Nat.le_refl _) hA1
  rw [← hB] at hO2
  have hL0 : noLocals B = none := rfl
  go_upto_block 0 with fail
  rw [← hB]
  clear hN hZ hN2 hA1 hO1 hB
  go_cut [10, 11, 12] from 32 to 64 (fun _ _ _ wr => ∃ S f, LongP S N f ∧ S.now = (fun _ => none) ∧ Own w wr (TStore p q S) (upd noLocals B (some (.cells (arrOf 64 f) 67))))
  case first =>
    have hP0H : Hid _ := Lib.hid hP0.2
    have hP0' := hP0.1
    clear hP0
    go_wp2_with fail
    go_loopg [10] N (fun g iv wr => ∃ (i : Nat) (S : WalS) (f : Nat → Int), i + g = N ∧ iv = .int .i64 (i : Int) ∧ LongP S i f ∧ S.now = (fun _ => none) ∧ Own w wr (TStore p q S) (upd noLocals B (some (.cells (arrOf 64 f) 67))))
    case atStart => exact ⟨0, _, _, by omega, rfl, hP0', hP0H.out, hO2⟩
    case round =>
      obtain ⟨i, S, f, hid, rfl, hP, hnow, hO⟩ := hrel
      obtain ⟨wo, rfl⟩ : ∃ wo : World, wo = wr := ⟨_, rfl⟩
      have hid' : Hid (i + gk = N) := hid
      by_cases hi : i < N
      · have hi' : (i : Int) < (N : Int) := by omega
        clear hid hnow
        go_upto_block 2 with fail
        go_cut [11, 12] from 37 to 61 (fun _ _ wr => ∃ S f, LongP S i f ∧ Own w wr (TStore p q S) (upd noLocals B (some (.cells (arrOf 64 f) 67))))
        case first =>
          go_wp2_with fail
          go_loopg [11, 12] (Z + 1) (fun g iv _ wr => ∃ (k : Nat) (S : WalS) (f : Nat → Int), k + g = Z + 1 ∧ iv = .int .i64 (k : Int) ∧ LongP S i f ∧ Own w wr (TStore p q S) (upd noLocals B (some (.cells (arrOf 64 f) 67))))
          case atStart => exact ⟨0, S, f, by omega, rfl, hP, hO⟩
          case round =>
            obtain ⟨k, S2, f2, hkd, rfl, hP2, hO2⟩ := hrel
            have hkd' : Hid (k + gk = Z + 1) := hkd
            by_cases hk : k < Z + 1
            · have hk' : (k : Int) < (Z : Int) + 1 := by omega
              obtain ⟨K, hK⟩ : ∃ K : Nat, ((i : Int) * 7 + (k : Int)) % 64 = (K : Int) := ⟨(((i : Int) * 7 + (k : Int)) % 64).toNat, by omega⟩
              have hK64 : K < 64 := by omega
              have hK64' : (K : Int) < 64 := by omega
              have hK0 : (0 : Int) ≤ (K : Int) := by omega
              obtain ⟨S3, e3, hP3⟩ := longWrite hP2 (k := K) (x := (i : Int) + (k : Int) + 1) hK64 (by omega)
              clear hkd
              go_wp2_with fail
              refine (sector_any _ _).mono ?_
              rintro e wa ⟨va, ga, rfl, hva, hga, hBa⟩
              have hOa := hO2.below (keepsStore _ _ _) hBa
              have cw := write4 hOa hva.src (K : Int)
              rw [e3] at cw
              go_wp2_with fail
              refine cw.mono ?_
              rintro e wb ⟨rfl, hOb, hsb⟩
              have hAb : ArrAt 67 wb B 64 f2 := hOb.loc (upd_same _ _ _)
              have c1 := hAb.cell hK64
              have f1 := hAb.frozen K
              clear cw e3 hva hBa hOa
              go_wp2_with fail
              have hOc := hOb.set (keepsStore _ _ _) (upd_same _ _ _) ((Chg.refl (· = B) wb).own K (.int .i64 ((i : Int) + (k : Int) + 1))) (hAb.set K ((i : Int) + (k : Int) + 1))
              rw [upd_upd] at hOc
              go_roundg (gk - 1)
              case measure => have := hkd'.out; omega
              case rel => exact ⟨k + 1, S3, _, by have := hkd'.out; omega, by go_num, hP3, hOc⟩
            · have hk' : ¬ (k : Int) < (Z : Int) + 1 := by omega
              clear hkd
              go_wp2_with fail
              go_meet
              case rel => exact ⟨S2, f2, hP2, hO2⟩
        case rest =>
          obtain ⟨S2, f2, hP2, hO2⟩ := hcut
          obtain ⟨S3, e3, hP3, n3⟩ := longCommit hP2 (by omega)
          have n3H : Hid _ := Lib.hid n3
          have cc := commit4 hO2
          rw [e3] at cc
          clear n3 e3 hO
          go_wp2_with fail
          refine cc.mono ?_
          rintro e wb ⟨rfl, hOb, hsb⟩
          go_wp2_with fail
          go_roundg (gk - 1)
          case measure => have := hid'.out; omega
          case rel => exact ⟨i + 1, S3, f2, by have := hid'.out; omega, by go_num, hP3, n3H.out, hOb⟩
      · obtain rfl : i = N := by omega
        clear hid
        go_wp2_with fail
        go_meet
        case rel => exact ⟨S, f, hP, hnow, hO⟩
  case rest =>
    obtain ⟨S, f, hP, hnow, hO⟩ := hcut
    obtain ⟨S2, D, e2, hD, ho, r5⟩ := longEnd hP hnow l
    clear hO2 hP0 hnow
    have cs := sync4 hO
    rw [e2] at cs
    go_wp2_with fail
    refine cs.mono ?_
    rintro e w2 ⟨rfl, hO2, hs2⟩
    have cr := crash1 (toDev hO2) false hv
    rw [← hD] at cr
    clear hD cs e2
    go_wp2_with fail
    refine cr.mono ?_
    rintro e w3 ⟨rfl, hO3, hs3⟩
    go_wp2_with fail
    refine (open1_ok hO3 ho).mono ?_
    rintro e w4 ⟨p4, rfl, hO4, hs4⟩
    clear hO hO2 hO3 cr ho hP
    have n5 : (WalS.new D.opened.2).now = fun _ => none := rfl
    generalize WalS.new D.opened.2 = S5 at r5 hO4 n5
    have n5H : Hid _ := Lib.hid n5
    clear n5
    go_wp2_with fail
    go_loopg [15] 64 (fun g iv wr => ∃ (i : Nat) (S : WalS), i + g = 64 ∧ iv = .int .i64 (i : Int) ∧ Rec S 100 0 0 (fun _ => kinds64 f) ∧ S.now = (fun _ => none) ∧ Own w wr (TStore p4 q S) (upd noLocals B (some (.cells (arrOf 64 f) 67))))
    case atStart => exact ⟨0, _, rfl, rfl, r5, n5H.out, hO4⟩
    case round =>
      obtain ⟨i, S, hid, rfl, hr, hnow, hO⟩ := hrel
      have hid' : Hid (i + gk = 64) := hid
      by_cases hi : i < 64
      · have hi' : (i : Int) < 64 := by omega
        have hmk : ∀ W : World, (Instr.makeSlice 28 (.int .i64 64) (.int .i64 64)).run Try.prog W = .ok (.slice (some ⟨W.heap.size, 0, none⟩) 64 64) (W.alloc (.cells cells64 5)) := fun _ => by kernel_rfl
        have hget : S.get i = wantB (f i) := by
          rw [hr.get (by omega)]
          show (S.now i).getD _ = _
          rw [hnow]
          show kinds64 f i = _
          unfold kinds64
          rw [if_pos hi]
        have cr := read4_ok hO (i := (i : Int)) (k := i) rfl (hr.wrong (by omega)) hget
        have hra := hr.asked i
        have hna : (S.asked i).now = fun _ => none := by rw [WalS.asked_now, hnow]
        have hnaH : Hid _ := Lib.hid hna
        have hBw := hO.loc_lt (upd_same _ _ _)
        clear hid hget hna hnow
        go_wp2_with fail
        refine cr.mono ?_
        rintro e w6 ⟨v6, g6, o6, rfl, hb6, hg6, hO6, hs6⟩
        clear cr
        have hO7 := hO6.below (keepsStore _ _ _) ((Below.refl _ w6).alloc (Nat.le_refl _) (.cells cells64 5))
        have hbz : Buf 5 (w6.alloc (.cells cells64 5)) g6 v6 (wantB (f i)) := hb6.buf (hO7.loc (upd_same _ _ _))
        have hL : (upd noLocals B (some (.cells (arrOf 64 f) 67))) g6 = none := hO.none_ hg6
        have hA6 : ArrAt 67 w6 B 64 f := hO6.loc (by rw [upd_other _ (by omega), upd_same])
        have hA7 : ArrAt 67 (w6.alloc (.cells cells64 5)) B 64 f := hO7.loc (by rw [upd_other _ (by omega), upd_same])
        have c1 := hA6.cell hi
        have hB6 : B < w6.heap.size := by omega
        by_cases hx : 0 < f i
        · have hE : wantB (f i) = bytesOf (f i) 64 := by unfold wantB; rw [if_pos hx]
          rw [hE] at hbz
          clear hE
          go_wp2_with fail
          refine (sector_any _ _).mono ?_
          rintro e wa ⟨va, ga, rfl, hva, hga, hBa⟩
          have hOa := hO7.below (keepsStore _ _ _) hBa
          have q2 := run_string hva
          have q1 := run_string (hbz.chg (M := fun _ => False) (Chg.of_below hBa) (fun h => h))
          have hbe := beq_yes (rfl : bytesOf (f i) 64 = bytesOf (f i) 64)
          go_wp2_with fail
          go_roundg (gk - 1)
          case measure => have := hid'.out; omega
          case rel => exact ⟨i + 1, _, by have := hid'.out; omega, by go_num, hra, hnaH.out, hOa.drop hL⟩
        · have hE : wantB (f i) = zero64 := by unfold wantB; rw [if_neg hx]
          rw [hE] at hbz
          clear hE
          have q2 := run_string (buf_zero w6)
          have q1 := run_string hbz
          have hbe := beq_yes (rfl : zero64 = zero64)
          go_wp2_with fail
          go_roundg (gk - 1)
          case measure => have := hid'.out; omega
          case rel => exact ⟨i + 1, _, by have := hid'.out; omega, by go_num, hra, hnaH.out, hO7.drop hL⟩
      · have hi' : ¬ (i : Int) < 64 := by omega
        clear hid
        go_wp2_with fail
        refine (awake4_any _).mono ?_
        rintro e wz ⟨rfl, hBz⟩
        go_wp2_with fail
        go_ret
        exact ⟨rfl, hO.base.trans (hBz.mono hO.size)⟩
end Go.Proofs.Ytbnoebdpbpjbkaa
