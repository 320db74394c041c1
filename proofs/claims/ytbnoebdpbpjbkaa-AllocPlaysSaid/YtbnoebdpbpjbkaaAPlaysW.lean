/-
  AllocPlays, walked: it answers true at every number and every script.
-/
import Derived.Test.YtbnoebdpbpjbkaaAlB
import Derived.Test.YtbnoebdpbpjbkaaMods
import Derived.Test.YtbnoebdpbpjbkaaPlaysW
import Derived.Deep.CutBlock
import Derived.Deep.LoopGhost
namespace Go.Proofs.Ytbnoebdpbpjbkaa
open Go.RowKit Go.Lz

/-- The map, and two arrays of bools. -/
def apL (pm A p n : Nat) (f g : Nat → Bool) : Locals := upd (upd (upd noLocals pm (some (mapObj p 5 n))) A (some (.cells (boolsV 61 f) 98 (0, 0)))) (A + 1) (some (.cells (boolsV 61 g) 98 (0, 0)))
section
variable {pm A p n : Nat} {f g h : Nat → Bool}
theorem apL_m (hA : pm < A) : apL pm A p n f g pm = some (mapObj p 5 n) := by
  unfold apL
  rw [upd_other _ (by omega), upd_other _ (by omega), upd_same]
theorem apL_f : apL pm A p n f g A = some (.cells (boolsV 61 f) 98 (0, 0)) := by
  unfold apL
  rw [upd_other _ (by omega), upd_same]
theorem apL_g : apL pm A p n f g (A + 1) = some (.cells (boolsV 61 g) 98 (0, 0)) := upd_same _ _ _
theorem apL_setf : upd (apL pm A p n f g) A (some (.cells (boolsV 61 h) 98 (0, 0))) = apL pm A p n h g := by
  unfold apL
  rw [upd_comm (by omega), upd_upd]
theorem apL_setg : upd (apL pm A p n f g) (A + 1) (some (.cells (boolsV 61 h) 98 (0, 0))) = apL pm A p n f h := by
  unfold apL
  rw [upd_upd]
end

theorem zero_arr61 : ∀ W : World, (Instr.alloc 98 true (.tuple #[])).run Try.prog W = .ok (.pointer (some ⟨W.heap.size, 0, none⟩)) (W.alloc (.cells (boolsV 61 (fun _ => false)) 98)) := fun _ => by kernel_rfl

theorem lit64 : (#[.int .u8 0, .int .u8 0, .int .u8 0, .int .u8 0, .int .u8 0, .int .u8 0, .int .u8 0, .int .u8 0, .int .u8 0, .int .u8 0, .int .u8 0, .int .u8 0, .int .u8 0, .int .u8 0, .int .u8 0, .int .u8 0, .int .u8 0, .int .u8 0, .int .u8 0, .int .u8 0, .int .u8 0, .int .u8 0, .int .u8 0, .int .u8 0, .int .u8 0, .int .u8 0, .int .u8 0, .int .u8 0, .int .u8 0, .int .u8 0, .int .u8 0, .int .u8 0, .int .u8 0, .int .u8 0, .int .u8 0, .int .u8 0, .int .u8 0, .int .u8 0, .int .u8 0, .int .u8 0, .int .u8 0, .int .u8 0, .int .u8 0, .int .u8 0, .int .u8 0, .int .u8 0, .int .u8 0, .int .u8 0, .int .u8 0, .int .u8 0, .int .u8 0, .int .u8 0, .int .u8 0, .int .u8 0, .int .u8 0, .int .u8 0, .int .u8 0, .int .u8 0, .int .u8 0, .int .u8 0, .int .u8 0, .int .u8 0, .int .u8 0, .int .u8 0] : Array Value) = bytesV zero64 := by kernel_rfl
theorem lit61 : (#[.bool false, .bool false, .bool false, .bool false, .bool false, .bool false, .bool false, .bool false, .bool false, .bool false, .bool false, .bool false, .bool false, .bool false, .bool false, .bool false, .bool false, .bool false, .bool false, .bool false, .bool false, .bool false, .bool false, .bool false, .bool false, .bool false, .bool false, .bool false, .bool false, .bool false, .bool false, .bool false, .bool false, .bool false, .bool false, .bool false, .bool false, .bool false, .bool false, .bool false, .bool false, .bool false, .bool false, .bool false, .bool false, .bool false, .bool false, .bool false, .bool false, .bool false, .bool false, .bool false, .bool false, .bool false, .bool false, .bool false, .bool false, .bool false, .bool false, .bool false, .bool false] : Array Value) = boolsV 61 (fun _ => false) := by kernel_rfl

set_option maxRecDepth 100000 in
set_option maxHeartbeats 4000000 in
theorem allocPlays_any {w : World} {v : Value} {l : List (Int × Int)} (n : Int) (hv : PairsAt w v l) : Calls Try.prog 15 #[.int .i64 n, v] w fun e w' => e = .returned (.bool true) ∧ Below w.heap.size w w' := by
  obtain ⟨a, n1, cp, rfl, hl, hn1, hcs⟩ := hv
  obtain ⟨N0, hN0, hN0l⟩ := mod_in n 60 (by omega) (by omega)
  obtain ⟨N, hN⟩ : ∃ N, N = N0 + 1 := ⟨_, rfl⟩
  have hN1 : 1 ≤ N := by omega
  have hN60 : N ≤ 60 := by omega
  have cm := made_any w 5 N hN1 (by omega) (by unfold sectorsOf; omega)
  have eN : wrap64 ((N0 : Int) + 1) = (N : Int) := by unfold wrap64; omega
  have eNH : Hid _ := Lib.hid eN
  have hal := zero_arr61
  clear hN hN0l eN
  go_enter Try.func15, Try.ntmps15
  go_upto_region 2 with fail
  rw [eNH.out]
  clear hN0 eNH
  go_wp2_with fail
  refine cm.mono ?_
  rintro e w1 ⟨p, q, pm, rfl, hO1, A1⟩
  have hL : upd noLocals pm (some (mapObj p 5 N)) pm = some (mapObj p 5 N) := upd_same _ _ _
  have hpm := hO1.loc_lt hL
  clear hL cm
  go_wp2_with fail
  refine (awake5_any _).mono ?_
  rintro e w2 ⟨rfl, hB2⟩
  have hO2 := hO1.below (keepsStore _ _ _) hB2
  have hs2 := hB2.size
  clear hO1 hB2
  go_upto_block 0 with fail
  have hz := lit61
  simp only [hz]
  clear hz hal
  obtain ⟨A, hA⟩ : ∃ A, A = w2.heap.size := ⟨_, rfl⟩
  have hO3 := hO2.local_ (keepsStore p q (newS 400)) ((Below.refl _ w2).alloc (Nat.le_refl _) (.cells (boolsV 61 fun _ => false) 98)) (Nat.le_refl _) (heap_alloc_new w2 _)
  have hO4 := hO3.local_ (keepsStore p q (newS 400)) ((Below.refl _ _).alloc (Nat.le_refl _) (.cells (boolsV 61 fun _ => false) 98)) (Nat.le_refl _) (heap_alloc_new _ _)
  simp only [World.size_alloc] at hO4
  rw [← hA] at hO4 hs2 ⊢
  have hO5 : Own w ((w2.alloc (.cells (boolsV 61 fun _ => false) 98)).alloc (.cells (boolsV 61 fun _ => false) 98)) (TStore p q (newS 400)) (apL pm A p N (fun _ => false) (fun _ => false)) := hO4
  generalize (w2.alloc (.cells (boolsV 61 fun _ => false) 98)).alloc (.cells (boolsV 61 fun _ => false) 98) = w5 at hO5 ⊢
  have hpA : pm < A := by omega
  generalize newS 400 = S0 at A1 hO5
  clear hO2 hO3 hO4 hs2 hA hpm
  go_wp2_with fail
  go_loopg [9] 80 (fun g iv wr => ∃ (j cc : Nat) (S : WalS) (done is : Nat → Bool), j + g = 80 ∧ iv = .int .i64 (j : Int) ∧ cc ≤ j ∧ AM S 100 5 N cc done is ∧ (∀ i, N ≤ i → is i = false) ∧ (∀ i, N ≤ i → done i = false) ∧ Own w wr (TStore p q S) (apL pm A p N is done))
  case atStart => exact ⟨0, 0, _, _, _, rfl, rfl, Nat.le_refl _, A1, fun _ _ => rfl, fun _ _ => rfl, hO5⟩
  case round =>
    clear A1 hO5
    obtain ⟨j, cc, S, done, is, hjd, rfl, hcc, AA, hz1, hz2, hO⟩ := hrel
    have hjd' : Hid (j + gk = 80) := hjd
    by_cases hin : j < n1 ∧ j < 80
    · obtain ⟨hjn, hj80⟩ := hin
      rcases hcs with h0 | ⟨b, off, rfl, hbl, hc⟩
      · omega
      obtain ⟨o, ho⟩ : ∃ o, o = l.getD j (0, 0) := ⟨_, rfl⟩
      obtain ⟨c0, c1⟩ := hc j hjn
      have d0 := (hO.base.cell (p := ⟨b, off + j * 2, none⟩) hbl).trans c0
      have d1 := (hO.base.cell (p := ⟨b, off + j * 2 + 1, none⟩) hbl).trans c1
      rw [← ho] at d0 d1
      obtain ⟨kind, k⟩ := o
      have hjn' : (j : Int) < (n1 : Int) := by omega
      have hj80' : (j : Int) < 80 := by omega
      obtain ⟨gin, hgin⟩ : ∃ gin : Bool, gin = decide (0 ≤ k ∧ k < (N : Int)) := ⟨_, rfl⟩
      have hz1H : Hid _ := Lib.hid hz1
      have hz2H : Hid _ := Lib.hid hz2
      clear ho hc hjd c0 c1 hz1 hz2
      simp only at d0 d1
      go_upto_region 10 with fail
      go_cut [11] from 56 to 62 (fun bv wx => bv = .bool gin ∧ wx = wr)
      case first =>
        by_cases k0 : 0 ≤ k
        · by_cases k1 : k < (N : Int)
          · rw [decide_eq_true ⟨k0, k1⟩] at hgin
            subst hgin
            go_wp2_with fail
            go_meet
            case rel => exact ⟨rfl, rfl⟩
          · rw [decide_eq_false (by omega)] at hgin
            subst hgin
            go_wp2_with fail
            go_meet
            case rel => exact ⟨rfl, rfl⟩
        · rw [decide_eq_false (by omega)] at hgin
          subst hgin
          go_wp2_with fail
          go_meet
          case rel => exact ⟨rfl, rfl⟩
      case rest =>
        obtain ⟨rfl, rfl⟩ := hcut
        have hginH : Hid _ := Lib.hid hgin
        clear hgin
        go_upto_block 2 with fail
        clear d0 d1
        go_cut [12, 13, 14, 15, 16, 17] from 68 to 173 (fun _ _ _ _ _ _ wx => ∃ (cc' : Nat) (S' : WalS) (done' is' : Nat → Bool), cc' ≤ j + 1 ∧ AM S' 100 5 N cc' done' is' ∧ (∀ i, N ≤ i → is' i = false) ∧ (∀ i, N ≤ i → done' i = false) ∧ Own w wx (TStore p q S') (apL pm A p N is' done'))
        case first =>
          by_cases k0 : kind = 0
          · as_aux_lemma =>
              have t0 : (kind == 0) = true := by simpa using k0
              clear k0
              go_upto_block 3 with fail
              go_cut [12] from 73 to 82 (fun wv wx => ∃ want : Nat, wv = .int .i64 (want : Int) ∧ want ≤ N ∧ (∀ i, i < want → is i = true) ∧ (want < N → is want = false) ∧ wx = wc)
              case first =>
                go_wp2_with fail
                go_loopg [12] N (fun g iv wr => ∃ i : Nat, i + g = N ∧ iv = .int .i64 (i : Int) ∧ (∀ t, t < i → is t = true) ∧ wr = wc)
                case atStart => exact ⟨0, by omega, rfl, fun t ht => by omega, rfl⟩
                case round =>
                  obtain ⟨i, hid, rfl, hall, rfl⟩ := hrel
                  have hid' : Hid (i + gk = N) := hid
                  have hallH : Hid _ := Lib.hid hall
                  by_cases hi : i < N
                  · have hi' : (i : Int) < (N : Int) := by omega
                    have hi61 : i < 61 := by omega
                    have cell := hO.vec_cell apL_f hi61
                    clear hid hall
                    cases hb : is i with
                    | true =>
                      rw [hb] at cell
                      have hbH : Hid _ := Lib.hid hb
                      clear hb
                      go_wp2_with fail
                      go_roundg (gk - 1)
                      case measure => have := hid'.out; omega
                      case rel => exact ⟨i + 1, by have := hid'.out; omega, by go_num, fun t ht => by
                        by_cases e : t = i
                        · subst e; exact hbH.out
                        · exact hallH.out t (by omega), rfl⟩
                    | false =>
                      rw [hb] at cell
                      have hbH : Hid _ := Lib.hid hb
                      clear hb
                      go_wp2_with fail
                      go_meet
                      case rel => exact ⟨i, rfl, by omega, hallH.out, fun _ => hbH.out, rfl⟩
                  · obtain rfl : i = N := by omega
                    clear hid hall
                    go_wp2_with fail
                    go_meet
                    case rel => exact ⟨_, rfl, Nat.le_refl _, hallH.out, fun h => absurd h (Nat.lt_irrefl _), rfl⟩
              case rest =>
                obtain ⟨want, rfl, hwN, hall, hnot, rfl⟩ := hcut
                by_cases hw : want < N
                · have hw' : (want : Int) < (N : Int) := by omega
                  have hwn : ((want : Int) == (N : Int)) = false := by rw [beq_eq_false_iff_ne]; omega
                  have ct := take5_at hO (apL_m hpA) AA hw (hnot hw) hall
                  clear hall hnot
                  go_wp2_with fail
                  refine ct.mono ?_
                  rintro e w6 ⟨S6, rfl, hO6, A6, hs6⟩
                  have cell := hO6.vec_cell apL_f (show want < 61 by omega)
                  have hfr := hO6.vec_frozen apL_f want
                  have hO7 := hO6.put (keepsStore _ _ _) apL_f want (.bool true)
                  rw [boolsV_set, apL_setf] at hO7
                  clear ct
                  go_wp2_with fail
                  go_meet
                  case rel =>
                    refine ⟨cc, S6, done, _, by omega, A6, fun i hi => ?_, hz2H.out, hO7⟩
                    rw [upd_other _ (by omega)]
                    exact hz1H.out i hi
                · obtain rfl : want = N := by omega
                  have hw' : ¬ (want : Int) < (want : Int) := by omega
                  have ct := take5_full hO (apL_m hpA) AA hall
                  clear hall hnot hw hwN
                  go_wp2_with fail
                  refine ct.mono ?_
                  rintro e w6 ⟨S6, rfl, hO6, A6, hs6⟩
                  clear ct
                  go_wp2_with fail
                  go_meet
                  case rel => exact ⟨cc, S6, done, is, by omega, A6, hz1H.out, hz2H.out, hO6⟩
          by_cases k1 : kind = 1
          · as_aux_lemma =>
              have t1 : (kind == 1) = true := by simpa using k1
              have t0 : (kind == 0) = false := by simp; omega
              clear k0 k1
              cases gin with
              | false =>
                have hk := of_decide_eq_false hginH.out.symm
                have ct := give5_out hO (apL_m hpA) (i := k) (by omega)
                clear hk
                go_wp2_with fail
                refine ct.mono ?_
                rintro e w6 ⟨rfl, rfl⟩
                clear ct
                go_wp2_with fail
                go_meet
                case rel => exact ⟨cc, S, done, is, by omega, AA, hz1H.out, hz2H.out, hO⟩
              | true =>
                have hk := of_decide_eq_true hginH.out.symm
                obtain ⟨m, rfl⟩ : ∃ m : Nat, k = (m : Int) := ⟨k.toNat, by omega⟩
                have hm : m < N := by omega
                have hmm : max (min (m : Int) 60) 0 = (m : Int) := by omega
                have hmH : Hid _ := Lib.hid hm
                clear hk
                cases hb : is m with
                | true =>
                  have ct := give5_ok hO (apL_m hpA) AA hm hb
                  have hbH : Hid _ := Lib.hid hb
                  clear hb hm
                  go_wp2_with fail
                  refine ct.mono ?_
                  rintro e w6 ⟨S6, rfl, hO6, A6, hs6⟩
                  have cell := hO6.vec_cell apL_f (show m < 61 by have := hmH.out; omega)
                  rw [hbH.out] at cell
                  have hfr := hO6.vec_frozen apL_f m
                  have hO7 := hO6.put (keepsStore _ _ _) apL_f m (.bool false)
                  rw [boolsV_set, apL_setf] at hO7
                  clear ct
                  go_wp2_with fail
                  go_meet
                  case rel =>
                    refine ⟨cc, S6, done, _, by omega, A6, fun i hi => ?_, hz2H.out, hO7⟩
                    rw [upd_other _ (by have := hmH.out; omega)]
                    exact hz1H.out i hi
                | false =>
                  have ct := give5_free hO (apL_m hpA) AA hm hb
                  have hbH : Hid _ := Lib.hid hb
                  clear hb hm
                  go_wp2_with fail
                  refine ct.mono ?_
                  rintro e w6 ⟨S6, rfl, hO6, A6, hs6⟩
                  have cell := hO6.vec_cell apL_f (show m < 61 by have := hmH.out; omega)
                  rw [hbH.out] at cell
                  clear ct
                  go_wp2_with fail
                  go_meet
                  case rel => exact ⟨cc, S6, done, is, by omega, A6, hz1H.out, hz2H.out, hO6⟩
          by_cases k2 : kind = 2
          · as_aux_lemma =>
              have t2 : (kind == 2) = true := by simpa using k2
              have t1 : (kind == 1) = false := by simp; omega
              have t0 : (kind == 0) = false := by simp; omega
              clear k0 k1 k2
              cases gin with
              | false =>
                have hk := of_decide_eq_false hginH.out.symm
                have ct := taken5_out hO (apL_m hpA) (i := k) (by omega)
                clear hk
                go_wp2_with fail
                refine ct.mono ?_
                rintro e w6 ⟨rfl, rfl⟩
                clear ct
                go_wp2_with fail
                go_meet
                case rel => exact ⟨cc, S, done, is, by omega, AA, hz1H.out, hz2H.out, hO⟩
              | true =>
                have hk := of_decide_eq_true hginH.out.symm
                obtain ⟨m, rfl⟩ : ∃ m : Nat, k = (m : Int) := ⟨k.toNat, by omega⟩
                have hm : m < N := by omega
                have hm61 : m < 61 := by omega
                have ct := taken5_ok hO (apL_m hpA) AA hm
                obtain ⟨bm, hbm⟩ : ∃ bm, bm = is m := ⟨_, rfl⟩
                rw [← hbm] at ct
                have hbmH : Hid _ := Lib.hid hbm
                clear hk hbm hm
                go_wp2_with fail
                refine ct.mono ?_
                rintro e w6 ⟨S6, rfl, hO6, A6, hs6⟩
                have cell := hO6.vec_cell apL_f hm61
                rw [← hbmH.out] at cell
                clear ct
                cases bm
                all_goals
                  go_wp2_with fail
                  go_meet
                  case rel => exact ⟨cc, S6, done, is, by omega, A6, hz1H.out, hz2H.out, hO6⟩
          by_cases k3 : kind = 3
          · as_aux_lemma =>
              have t3 : (kind == 3) = true := by simpa using k3
              have t2 : (kind == 2) = false := by simp; omega
              have t1 : (kind == 1) = false := by simp; omega
              have t0 : (kind == 0) = false := by simp; omega
              have hccH : Hid _ := Lib.hid hcc
              clear k0 k1 k2 k3
              go_wp2_with fail
              refine (commit5 hO AA (by omega)).mono ?_
              rintro e w6 ⟨S6, rfl, hO6, A6, hs6⟩
              go_upto_region 36 with fail
              go_step
              refine wpList_load_row rfl 98 _ rfl A rfl _ (boolsV 61 is) (0, 0) _ (hO6.loc apL_f) Try.underlying98 rfl (by rw [vec_size]; kernel_rfl) ?_
              refine wpList_store_row rfl 98 _ _ rfl (A + 1) (boolsV 61 is) rfl rfl _ _ (hO6.loc apL_g) (by rw [vec_size]; kernel_rfl) (by rw [vec_size, vec_size]) (vec_one _ _ (fun _ => rfl)) ?_
              have hO7 := hO6.set (o' := .cells (boolsV 61 is) 98 (0, 0)) (keepsStore _ _ _) apL_g ((Chg.refl _ w6).ownRow _) (setRow_heap w6 (A + 1) _ _ _ _ (hO6.loc apL_g))
              rw [apL_setg] at hO7
              go_wp2_with fail
              go_meet
              case rel => exact ⟨cc + 1, S6, is, is, by have := hccH.out; omega, A6, hz1H.out, hz1H.out, hO7⟩
          · as_aux_lemma =>
              have t3 : (kind == 3) = false := by simp; omega
              have t2 : (kind == 2) = false := by simp; omega
              have t1 : (kind == 1) = false := by simp; omega
              have t0 : (kind == 0) = false := by simp; omega
              clear k0 k1 k2 k3
              go_wp2_with fail
              refine (abort5 hO AA).mono ?_
              rintro e w6 ⟨S6, rfl, hO6, A6, hs6⟩
              go_upto_region 13 with fail
              go_step
              refine wpList_load_row rfl 98 _ rfl (A + 1) rfl _ (boolsV 61 done) (0, 0) _ (hO6.loc apL_g) Try.underlying98 rfl (by rw [vec_size]; kernel_rfl) ?_
              refine wpList_store_row rfl 98 _ _ rfl A (boolsV 61 done) rfl rfl _ _ (hO6.loc apL_f) (by rw [vec_size]; kernel_rfl) (by rw [vec_size, vec_size]) (vec_one _ _ (fun _ => rfl)) ?_
              have hO7 := hO6.set (o' := .cells (boolsV 61 done) 98 (0, 0)) (keepsStore _ _ _) apL_f ((Chg.refl _ w6).ownRow _) (setRow_heap w6 A _ _ _ _ (hO6.loc apL_f))
              rw [apL_setf] at hO7
              go_frame
              go_wp2_with fail
              go_meet
              case rel => exact ⟨cc, S6, done, done, by omega, A6, hz2H.out, hz2H.out, hO7⟩
        case rest =>
          obtain ⟨cc', S', done', is', hcc', AA', hz1', hz2', hO'⟩ := hcut
          clear hO AA
          go_upto_block 5 with fail
          have hz64 := lit64
          simp only [hz64]
          clear hz64
          have hO3 := hO'.local_ (b := wc.heap.size) (keepsStore p q S') ((Below.refl _ wc).alloc (Nat.le_refl _) (.cells (bytesV zero64) 102)) (Nat.le_refl _) (heap_alloc_new wc _)
          obtain ⟨B, hB⟩ : ∃ B, B = wc.heap.size := ⟨_, rfl⟩
          have hAl := hO'.loc_lt apL_g
          have hLB : apL pm A p N is' done' B = none := hO'.none_ (by omega)
          rw [← hB] at hO3 hAl ⊢
          generalize wc.alloc (.cells (bytesV zero64) 102) = w7 at hO3 ⊢
          clear hO' hB
          go_cut [18, 20] from 174 to 194 (fun cv _ wx => cv = .int .i64 (cntI is' N : Int) ∧ ∃ bb : Bytes, bb.length = 64 ∧ (∀ t, t < 512 → bitB bb t = is' t) ∧ Own w wx (TStore p q S') (upd (apL pm A p N is' done') B (some (.cells (bytesV bb) 102 (0, 0)))))
          case first =>
            go_wp2_with fail
            go_loopg [18, 20] N (fun g cv iv wr => ∃ (i : Nat) (bb : Bytes), i + g = N ∧ iv = .int .i64 (i : Int) ∧ cv = .int .i64 (cntI is' i : Int) ∧ bb.length = 64 ∧ (∀ t, t < 512 → bitB bb t = (decide (t < i) && is' t)) ∧ Own w wr (TStore p q S') (upd (apL pm A p N is' done') B (some (.cells (bytesV bb) 102 (0, 0)))))
            case atStart => exact ⟨0, zero64, by omega, rfl, rfl, rfl, fun t ht => by rw [zero_bits t ht]; simp, hO3⟩
            case round =>
              obtain ⟨i, bb, hid, rfl, rfl, hbl, hbits, hO⟩ := hrel
              have hid' : Hid (i + gk = N) := hid
              have hbitsH : Hid _ := Lib.hid hbits
              have hblH : Hid _ := Lib.hid hbl
              have hcs' := cntI_succ is' i
              have hcl := cntI_le is' i
              by_cases hi : i < N
              · have hi' : (i : Int) < (N : Int) := by omega
                have hi61 : i < 61 := by omega
                have hlA : (upd (apL pm A p N is' done') B (some (.cells (bytesV bb) 102 (0, 0)))) A = some (.cells (boolsV 61 is') 98 (0, 0)) := by rw [upd_other _ (show A ≠ B by omega)]; exact apL_f
                have cell := hO.vec_cell hlA hi61
                clear hid hbits
                cases hb : is' i with
                | true =>
                  rw [hb] at cell hcs'
                  simp only [if_true] at hcs'
                  have hi8 : i / 8 < 64 := by omega
                  have hloc : (upd (apL pm A p N is' done') B (some (.cells (bytesV bb) 102 (0, 0)))) B = some (.cells (bytesV bb) 102 (0, 0)) := upd_same _ _ _
                  have cb : wr.cell? ⟨B, i / 8, none⟩ = some (.int .u8 ((bb.getD (i / 8) 0).toNat : Int)) := by
                    rw [cell_of (hO.loc hloc)]
                    have : i / 8 < bb.length := by omega
                    simp [bytesV, u8v, List.getD, this]
                  have fb : wr.frozen? ⟨B, i / 8, none⟩ = false := frozen_of (hO.loc hloc) _
                  have ob := or_byte bb i
                  have hO8 := hO.put (keepsStore _ _ _) hloc (i / 8) (u8v (UInt8.ofNat (setN (bb.getD (i / 8) 0).toNat (i % 8) true)))
                  rw [bytesV_set, upd_upd] at hO8
                  have hb8 : (bb.getD (i / 8) 0).toNat < 256 := UInt8.toNat_lt _
                  have hset : bb.set (i / 8) (UInt8.ofNat (setN (bb.getD (i / 8) 0).toNat (i % 8) true)) = setB bb i true := rfl
                  rw [hset] at hO8
                  rw [ob] at hO8
                  clear hset ob hbl
                  obtain ⟨x, hx⟩ : ∃ x, x = (bb.getD (i / 8) 0).toNat := ⟨_, rfl⟩
                  rw [← hx] at cb hb8 hO8
                  have hbH : Hid _ := Lib.hid hb
                  have hcsH : Hid _ := Lib.hid hcs'
                  clear hx hb hcs'
                  go_upto_region 44 with fail
                  go_region
                  all_goals
                    go_wp2_with fail
                    go_roundg (gk - 1)
                    case measure => have := hid'.out; omega
                    case rel =>
                      refine ⟨i + 1, setB bb i true, by have := hid'.out; omega, by go_num, by rw [hcsH.out]; go_num, by rw [setB_length]; exact hblH.out, fun t ht => ?_, hO8.below (keepsStore _ _ _) (Below.refl _ _).drew⟩
                      by_cases e : t = i
                      · subst e
                        rw [bitB_set_same (by rw [hblH.out]; omega), hbH.out]
                        simp
                      · rw [bitB_set_other (by rw [hblH.out]; omega) e, hbitsH.out t ht]
                        congr 1
                        exact decide_eq_decide.2 (by omega)
                | false =>
                  rw [hb] at cell hcs'
                  have hbH : Hid _ := Lib.hid hb
                  have hcsH : Hid _ := Lib.hid hcs'
                  clear hb hcs'
                  go_wp2_with fail
                  go_roundg (gk - 1)
                  case measure => have := hid'.out; omega
                  case rel =>
                    refine ⟨i + 1, bb, by have := hid'.out; omega, by go_num, by rw [hcsH.out]; rfl, hblH.out, fun t ht => ?_, hO⟩
                    rw [hbitsH.out t ht]
                    by_cases e : t = i
                    · subst e; simp [hbH.out]
                    · congr 1
                      exact decide_eq_decide.2 (by omega)
              · obtain rfl : i = N := by omega
                clear hid hbits
                go_wp2_with fail
                go_meet
                case rel =>
                  refine ⟨rfl, bb, hblH.out, fun t ht => ?_, hO⟩
                  rw [hbitsH.out t ht]
                  by_cases e : t < i
                  · simp [e]
                  · rw [hz1' t (by omega)]
                    simp
          case rest =>
            obtain ⟨rfl, bb, hbl, hbits, hO⟩ := hcut
            have hLm : (upd (apL pm A p N is' done') B (some (.cells (bytesV bb) 102 (0, 0)))) pm = some (mapObj p 5 N) := by rw [upd_other _ (show pm ≠ B by omega)]; exact apL_m hpA
            have hLBb : (upd (apL pm A p N is' done') B (some (.cells (bytesV bb) 102 (0, 0)))) B = some (.cells (bytesV bb) 102 (0, 0)) := upd_same _ _ _
            have hbitsH : Hid _ := Lib.hid hbits
            have hblH : Hid _ := Lib.hid hbl
            have hsec1 : sectorsOf N = 1 := by unfold sectorsOf; omega
            have hsecH : Hid _ := Lib.hid hsec1
            clear hbits hbl hsec1 hO3
            go_wp2_with fail
            refine (count5 hO hLm AA').mono ?_
            rintro e w8 ⟨S8, rfl, hO8, A8, hs8⟩
            obtain ⟨gg, K8, _⟩ := A8.ex
            have hget : S8.get 5 = bb := by
              refine bitB_ext (K8.len 5) hblH.out fun t ht => ?_
              rw [hbitsH.out t ht, ← A8.bit t (by rw [hsecH.out]; omega)]
              unfold WalS.bit
              rw [show 5 + t / 512 = 5 from by omega, show t % 512 = t from by omega]
            have hwr := K8.wrong (k := 5) (by omega)
            clear K8 AA'
            go_wp2_with fail
            refine (read4_ok hO8 (k := 5) rfl hwr hget).mono ?_
            rintro e w9 ⟨v9, g9, o9, rfl, hb9, hg9, hO9, hs9⟩
            have q1 := run_string ((hb9.buf (hO9.loc (upd_same _ _ _))).chg (M := fun _ => False) (w' := w9.drew) (Chg.of_below (Below.refl _ w9).drew) (fun h => h))
            have hlB9 : (upd (upd (apL pm A p N is' done') B (some (.cells (bytesV bb) 102 (0, 0)))) g9 (some o9)) B = some (.cells (bytesV bb) 102 (0, 0)) := by
              have := hO8.loc_lt hLBb
              rw [upd_other _ (by omega)]
              exact hLBb
            have q2 := run_string_g ((bytesV_buf (hO9.loc hlB9) (by rw [hblH.out]; omega)).chg (M := fun _ => False) (w' := w9.drew) (Chg.of_below (Below.refl _ w9).drew) (fun h => h))
            rw [hblH.out] at q2
            have hO10 := hO9.drop (hO8.none_ hg9)
            have hO11 := hO10.drop hLB
            have A11 : AM (S8.asked 5) 100 5 N cc' done' is' := by
              obtain ⟨j5, e5⟩ := S8.asked_cnt 5
              rw [e5]
              exact A8.cnt j5
            clear hget hwr hO8 hO9 hO10 hO hb9
            go_upto_region 47 with fail
            refine wp_region_quiet (C := fun W => W = w9.drew) (by kernel_rfl) (by kernel_rfl) rfl ?_
            repeat (any_goals (first | go_big_quiet_step (fail) | quiet_step (fail)))
            refine wpQuiet_nil ?_
            rintro _ rfl
            have hO12 := hO11.below (keepsStore _ _ _) (Below.refl _ _).drew
            clear q1 q2
            go_wp2_with fail
            go_roundg (gk - 1)
            case measure => have := hjd'.out; omega
            case rel => exact ⟨j + 1, cc', _, done', is', by have := hjd'.out; omega, by go_num, hcc', A11, hz1', hz2', hO12⟩
    · by_cases hjn : j < n1
      · have hjn' : (j : Int) < (n1 : Int) := by omega
        have hj80' : ¬ (j : Int) < 80 := by omega
        have hB := hO.base
        clear hjd hin
        go_wp2_with fail
        go_ret
        exact ⟨rfl, hB⟩
      · have hjn' : ¬ (j : Int) < (n1 : Int) := by omega
        have hB := hO.base
        clear hjd hin
        go_wp2_with fail
        go_ret
        exact ⟨rfl, hB⟩
end Go.Proofs.Ytbnoebdpbpjbkaa
