/-
  DevApart, walked: it answers true at every two lists.
-/
import Derived.Test.YtbnoebdpbpjbkaaApartP
import Derived.Test.YtbnoebdpbpjbkaaBits
import Derived.Test.YtbnoebdpbpjbkaaArr
import Derived.Deep.LoopGhost
import Derived.Deep.CutBlock
import Derived.Deep.RegionHeld
namespace Go.Proofs.Ytbnoebdpbpjbkaa
open Go.RowKit Go.Lz

set_option maxRecDepth 100000 in
set_option maxHeartbeats 1000000 in
theorem devApart_any {w : World} {v1 v2 : Value} {a b : List Int} (h1 : IntsAt w (fun _ => True) v1 a) (h2 : IntsAt w (fun _ => True) v2 b) :
    Calls Try.prog 5 #[v1, v2] w fun e w' => e = .returned (.bool true) ∧ Below w.heap.size w w' := by
  have h1' := h1.here
  obtain ⟨a1, n1, c1, rfl, hl1, hn1, hcs1⟩ := id h1
  obtain ⟨a2, n2, c2, rfl, hl2, hn2, hcs2⟩ := id h2
  have hcv := run_bytes
  have hb7 := and7
  obtain ⟨f8, hb8⟩ : ∃ f8 : Int → Int, ∀ x, bits BinOp.and IntKind.i64 x 8 = f8 x := ⟨_, fun _ => rfl⟩
  clear h1 h2
  go_enter Try.func5, Try.ntmps5
  go_wp2_with fail
  refine (new_ok w 8 (by omega)).mono ?_
  rintro e w1 ⟨p, rfl, hD1, hB1⟩
  have hs1 := hB1.size
  go_upto_block 0 with fail
  go_cut [7] from 26 to 54 (fun _ wr => ∃ S F, DevAt Try.prog wr p S F ∧ (∀ k, F k → w.heap.size ≤ k) ∧ Below w.heap.size w wr ∧ S.n = 8)
  case first =>
    go_wp2_with fail
    go_loopg [7] 20 (fun d iv wr => ∃ (j : Nat) (S : DevS) (F : Nat → Prop), j + d = 20 ∧ iv = .int .i64 (j : Int) ∧ DevAt Try.prog wr p S F ∧ (∀ k, F k → w.heap.size ≤ k) ∧ Below w.heap.size w wr ∧ S.n = 8)
    case atStart => exact ⟨0, _, _, rfl, rfl, hD1, fun j hj => hj.1, hB1, rfl⟩
    case round =>
      obtain ⟨j, S, F, hjd, rfl, hD, hF, hB, hSn⟩ := hrel
      have hjd' : Hid (j + gk = 20) := hjd
      by_cases hin : j < n1 ∧ j < 20
      · obtain ⟨hjn, hj20⟩ := hin
        rcases hcs1 with h0 | ⟨bk, off, rfl, _, hbl, hc⟩
        · omega
        obtain ⟨x, hx⟩ : ∃ x, x = a.getD j 0 := ⟨_, rfl⟩
        have hcx : ∀ W : World, Below w.heap.size w W → W.cell? ⟨bk, off + j, none⟩ = some (.int .i64 x) := fun W hW => by rw [hx, hW.cell (p := ⟨bk, off + j, none⟩) hbl]; exact hc j hjn
        have hcx' : Hid (∀ W : World, Below w.heap.size w W → W.cell? ⟨bk, off + j, none⟩ = some (.int .i64 x)) := hcx
        have hcr := hcx wr hB
        have hbr : bk < wr.heap.size := Nat.lt_of_lt_of_le hbl hB.size
        have hjn' : (j : Int) < (n1 : Int) := by omega
        have hj20' : (j : Int) < 20 := by omega
        clear hx hc hjd hcx
        go_upto_region 7 with fail
        go_cut [] from 26 to 54 (fun wx => ∃ S F, DevAt Try.prog wx p S F ∧ (∀ k, F k → w.heap.size ≤ k) ∧ Below w.heap.size w wx ∧ S.n = 8)
        case first =>
          go_region_held (fun W => W.cell? ⟨bk, off + j, none⟩ = some (.int .i64 x)) (first | exact hcx'.out _ hB.drew | exact hcx'.out _ hB4 | exact hcx'.out _ hBw | exact hcx'.out _ (hBw.alloc hBw.size _).drew | exact hcx'.out _ (hBw.drew.alloc hBw.size _)) (first
            | (go_at_call 23; refine (bytes_any _ 64 _ (by omega) (by omega)).mono ?_; rintro e wa ⟨rfl, hBa⟩; have hBa' := undrew hBa; have hBw := hB.trans (hBa'.mono hB.size); have hDx := (hD.below hBa').chg (M := fun _ => False) (bytes_chg wa (bytesOf (IntKind.i64.wrap ((j : Int) + 1)) 64) _) (fun _ _ h => h))
            | (go_at_call 22; refine (write_any hDx (bytes64 wa _).src _).mono ?_; rintro e w4 ⟨rfl, hD4, hC4⟩; have hB5 : Below w.heap.size w (wa.alloc (bobj wa (bytesOf (IntKind.i64.wrap ((j : Int) + 1)) 64))).drew := (hBw.alloc hBw.size _).drew; have hB4 := hB5.trans (hC4.belowB hB5.size (fun q hq h => by have := hF q h; omega))))
          all_goals
            go_wp2_with fail
            go_meet
            case rel => exact ⟨_, _, hD4, ext_ge hF hB5.size, hB4, by rw [DevS.write_n]; exact hSn⟩
        case rest =>
          obtain ⟨S2, F2, hD2, hF2, hB2, hSn2⟩ := hcut
          have hcr2 := hcx'.out wc hB2
          clear hcr hD hF hB hSn
          cases h8 : (f8 x == 8) with
          | true =>
            go_wp2_with fail
            refine (flush_any hD2).mono ?_
            rintro e w3 ⟨rfl, hD3, hC3⟩
            go_wp2_with fail
            go_roundg (gk - 1)
            case measure => have := hjd'.out; omega
            case rel => exact ⟨j + 1, _, _, by have := hjd'.out; omega, by go_num, hD3, ext_ge hF2 hB2.size, hB2.trans (hC3.belowB hB2.size (fun q hq h => by have := hF2 q h; omega)), by rw [DevS.flush_n]; exact hSn2⟩
          | false =>
            go_wp2_with fail
            go_roundg (gk - 1)
            case measure => have := hjd'.out; omega
            case rel => exact ⟨j + 1, _, _, by have := hjd'.out; omega, by go_num, hD2, hF2, hB2, hSn2⟩
      · by_cases hjn : j < n1
        · have hjn' : (j : Int) < (n1 : Int) := by omega
          have hj20' : ¬ (j : Int) < 20 := by omega
          clear hjd hin
          go_wp2_with fail
          go_meet
          case rel => exact ⟨S, F, hD, hF, hB, hSn⟩
        · have hjn' : ¬ (j : Int) < (n1 : Int) := by omega
          clear hjd hin
          go_wp2_with fail
          go_meet
          case rel => exact ⟨S, F, hD, hF, hB, hSn⟩
  case rest =>
    obtain ⟨S, F, hD, hF, hB, hSn⟩ := hcut
    clear hcs1 hD1 hB1 hs1
    go_wp2_with fail
    refine (copy_any hD).mono ?_
    rintro e w2 ⟨c, rfl, hc2, hB2⟩
    have hd2 := hD.below hB2
    have hap2 := shared_apart hB2 hD.lt
    go_wp2_with fail
    refine (copy_any hd2).mono ?_
    rintro e w3 ⟨v, rfl, hv3, hB3⟩
    have hT : Trio w3 w.heap.size p c v S S F (shared F wc w2) (shared F w2 w3) :=
      ⟨hd2.below hB3, hc2.below hB3, hv3, hap2.below hd2.lt hB3, (shared_apart2 hB3 hc2.lt).symm, shared_apart hB3 hd2.lt, hF, shared_ge hF hB.size, shared_ge hF (Nat.le_trans hB.size hB2.size)⟩
    have hBB := (hB.trans (hB2.mono hB.size)).trans (hB3.mono (Nat.le_trans hB.size hB2.size))
    obtain ⟨Fv, hFv⟩ : ∃ Fv, Fv = shared F w2 w3 := ⟨_, rfl⟩
    rw [← hFv] at hT
    clear hD hc2 hB2 hd2 hap2 hv3 hB3 hF hFv hB
    go_upto_block 2 with fail
    go_cut [10] from 65 to 93 (fun _ wr => ∃ S' Fc, Trio wr w.heap.size p c v S S' F Fc Fv ∧ Below w.heap.size w wr)
    case first =>
      go_wp2_with fail
      go_loopg [10] 20 (fun d iv wr => ∃ (j : Nat) (S' : DevS) (Fc : Nat → Prop), j + d = 20 ∧ iv = .int .i64 (j : Int) ∧ Trio wr w.heap.size p c v S S' F Fc Fv ∧ Below w.heap.size w wr)
      case atStart => exact ⟨0, _, _, rfl, rfl, hT, hBB⟩
      case round =>
        obtain ⟨j, S', Fc, hjd, rfl, hD, hB⟩ := hrel
        have hjd' : Hid (j + gk = 20) := hjd
        by_cases hin : j < n2 ∧ j < 20
        · obtain ⟨hjn, hj20⟩ := hin
          rcases hcs2 with h0 | ⟨bk, off, rfl, _, hbl, hc⟩
          · omega
          obtain ⟨x, hx⟩ : ∃ x, x = b.getD j 0 := ⟨_, rfl⟩
          have hcx : ∀ W : World, Below w.heap.size w W → W.cell? ⟨bk, off + j, none⟩ = some (.int .i64 x) := fun W hW => by rw [hx, hW.cell (p := ⟨bk, off + j, none⟩) hbl]; exact hc j hjn
          have hcx' : Hid (∀ W : World, Below w.heap.size w W → W.cell? ⟨bk, off + j, none⟩ = some (.int .i64 x)) := hcx
          have hcr := hcx wr hB
          have hbr : bk < wr.heap.size := Nat.lt_of_lt_of_le hbl hB.size
          have hjn' : (j : Int) < (n2 : Int) := by omega
          have hj20' : (j : Int) < 20 := by omega
          clear hx hc hjd hcx
          go_upto_region 16 with fail
          go_cut [] from 65 to 93 (fun wx => ∃ S' Fc, Trio wx w.heap.size p c v S S' F Fc Fv ∧ Below w.heap.size w wx)
          case first =>
            go_region_held (fun W => W.cell? ⟨bk, off + j, none⟩ = some (.int .i64 x)) (first | exact hcx'.out _ hB.drew | exact hcx'.out _ hB4 | exact hcx'.out _ hBw | exact hcx'.out _ (hBw.alloc hBw.size _).drew | exact hcx'.out _ (hBw.drew.alloc hBw.size _)) (first
              | (go_at_call 23; refine (bytes_any _ 64 _ (by omega) (by omega)).mono ?_; rintro e wa ⟨rfl, hBa⟩; have hBa' := undrew hBa; have hBw := hB.trans (hBa'.mono hB.size); have hDx := hD.below (w' := (wa.alloc (bobj wa (bytesOf (IntKind.i64.wrap (50 + (j : Int))) 64))).drew) (hBa'.alloc hBa'.size _).drew)
              | (go_at_call 22; refine (write_own hDx.hc (bytes64 wa _).src _).mono ?_; rintro e w4 ⟨rfl, hD4, hC4⟩; have hB5 : Below w.heap.size w (wa.alloc (bobj wa (bytesOf (IntKind.i64.wrap (50 + (j : Int))) 64))).drew := (hBw.alloc hBw.size _).drew; have hB4 := hB5.trans (hC4.belowB hB5.size (fun q hq h => by have := hD.gc q h.1; omega))))
            all_goals
              go_wp2_with fail
              go_meet
              case rel => exact ⟨_, _, hDx.step hB5.size hD4 hC4, hB4⟩
          case rest =>
            obtain ⟨S2, F2, hD2, hB2⟩ := hcut
            have hcr2 := hcx'.out wc hB2
            clear hcr hD hB
            cases h8 : (f8 x == 8) with
            | true =>
              go_wp2_with fail
              refine (flush_own hD2.hc).mono ?_
              rintro e w3 ⟨rfl, hD3, hC3⟩
              go_wp2_with fail
              go_roundg (gk - 1)
              case measure => have := hjd'.out; omega
              case rel => exact ⟨j + 1, _, _, by have := hjd'.out; omega, by go_num, hD2.step hB2.size hD3 hC3, hB2.trans (hC3.belowB hB2.size (fun q hq h => by have := hD2.gc q h.1; omega))⟩
            | false =>
              go_wp2_with fail
              go_roundg (gk - 1)
              case measure => have := hjd'.out; omega
              case rel => exact ⟨j + 1, _, _, by have := hjd'.out; omega, by go_num, hD2, hB2⟩
        · by_cases hjn : j < n2
          · have hjn' : (j : Int) < (n2 : Int) := by omega
            have hj20' : ¬ (j : Int) < 20 := by omega
            clear hjd hin
            go_wp2_with fail
            go_meet
            case rel => exact ⟨S', Fc, hD, hB⟩
          · have hjn' : ¬ (j : Int) < (n2 : Int) := by omega
            clear hjd hin
            go_wp2_with fail
            go_meet
            case rel => exact ⟨S', Fc, hD, hB⟩
    case rest =>
      obtain ⟨S', Fc, hD, hB⟩ := hcut
      clear hT hBB hcs2
      have hnil : IntsAt wc (fun _ => False) (.slice none 0 0) [] := ⟨none, 0, 0, rfl, rfl, by omega, .inl rfl⟩
      go_wp2_with fail
      refine (crash_own hD.hc false hnil (fun _ h => h.elim)).mono ?_
      rintro e w4 ⟨rfl, hc4, hC4⟩
      have hT4 := hD.step hB.size hc4 hC4
      have hB4 := hB.trans (hC4.belowB hB.size (fun q hq h => by have := hD.gc q h.1; omega))
      obtain ⟨hd4, _, hv4, _, _, hdv4, hgd, _, hgv⟩ := hT4
      clear hD hB hC4 hc4 hnil
      go_wp2_with fail
      refine (waiting_any hd4).mono ?_
      rintro e w5 ⟨x5, rfl, hx5, hB5⟩
      obtain ⟨a5, n5, c5, rfl, hl5, _⟩ := hx5
      go_wp2_with fail
      refine (waiting_any (hv4.below hB5)).mono ?_
      rintro e w6 ⟨x6, rfl, hx6, hB6⟩
      obtain ⟨a6, n6, c6, rfl, hl6, _⟩ := hx6
      obtain rfl : n5 = n6 := hl5.symm.trans hl6
      have hB46 := hB5.trans (hB6.mono hB5.size)
      have hd6 := hd4.below hB46
      have hv6 := hv4.below hB46
      have hdv6 := hdv4.below hd4.lt hB46
      have hB6' := hB4.trans (hB46.mono hB4.size)
      clear hd4 hv4 hdv4 hB46 hB5 hB6 hB4 hl5 hl6
      have ha6 := h1'.chg (M := fun _ => False) (Chg.of_below hB6') (fun _ _ _ h => h)
      go_wp2_with fail
      refine (crash_own hd6 true ha6 (fun k hk h => by have := hgd k h; omega)).mono ?_
      rintro e w7 ⟨rfl, hd7, hC7⟩
      have hv7 := hv6.apart hdv6.symm hC7
      have hdv7 := hdv6.symm.step hv6.lt hC7 (G' := ext F w6 w7) ext_new
      have hB7 := hB6'.trans (hC7.belowB hB6'.size (fun q hq h => by have := hgd q h.1; omega))
      have hgd7 := ext_ge (w' := w7) hgd hB6'.size
      obtain ⟨Fd, hFd⟩ : ∃ Fd, Fd = ext F w6 w7 := ⟨_, rfl⟩
      rw [← hFd] at hd7 hdv7 hgd7
      have ha7 := h1'.chg (M := fun _ => False) (Chg.of_below hB7) (fun _ _ _ h => h)
      clear hd6 hv6 hC7 hB6' hdv6 hFd ha6
      go_wp2_with fail
      refine (crash_own hv7 true ha7 (fun k hk h => by have := hgv k h; omega)).mono ?_
      rintro e w8 ⟨rfl, hv8, hC8⟩
      have hd8 := hd7.apart hdv7.symm hC8
      have hdv8 := hdv7.symm.step hd7.lt hC8 (G' := ext Fv w7 w8) ext_new
      have hB8 := hB7.trans (hC8.belowB hB7.size (fun q hq h => by have := hgv q h.1; omega))
      have hgv8 := ext_ge (w' := w8) hgv hB7.size
      obtain ⟨Fw, hFw⟩ : ∃ Fw, Fw = ext Fv w7 w8 := ⟨_, rfl⟩
      rw [← hFw] at hv8 hdv8 hgv8
      clear hv7 hd7 hC8 hB7 hdv7 hFw ha7 h1'
      obtain ⟨S8, hS8⟩ : ∃ S8, S8 = S.crashed true a := ⟨_, rfl⟩
      have hd0 : S8.dead = false := by rw [hS8]; rfl
      have hn0 : S8.n = 8 := by rw [hS8]; exact hSn
      rw [← hS8] at hd8 hv8
      clear hS8
      go_upto_block 4 with fail
      go_cut [11] from 109 to 137 (fun _ wr => Below w.heap.size w wr)
      case first =>
        go_wp2_with fail
        go_loopg [11] 8 (fun d iv wr => ∃ (k : Nat) (S1 S2 : DevS), k + d = 8 ∧ iv = .int .i64 (k : Int) ∧ DevAt Try.prog wr p S1 Fd ∧ DevAt Try.prog wr v S2 Fw ∧ Apart wr Fd Fw ∧ Below w.heap.size w wr ∧ S1.now = S8.now ∧ S2.now = S8.now ∧ S1.dead = false ∧ S2.dead = false ∧ S1.n = 8 ∧ S2.n = 8)
        case atStart => exact ⟨0, _, _, rfl, rfl, hd8, hv8, hdv8, hB8, rfl, rfl, hd0, hd0, hn0, hn0⟩
        case round =>
          obtain ⟨k, S1, S2, hjd, rfl, hd, hv, hdv, hB, e1, e2, hdd1, hdd2, hn1', hn2'⟩ := hrel
          have hjd' : Hid (k + gk = 8) := hjd
          by_cases hk : k < 8
          · have hk8 : (k : Int) < 8 := by omega
            have hnow1 : S1.now k = S8.now k := by rw [e1]
            have hnow2 : S2.now k = S8.now k := by rw [e2]
            clear hjd
            go_wp2_with fail
            refine (read_goodO hd hdd1 (by rw [hn1']; exact hk) hnow1).mono ?_
            rintro e w9 ⟨x9, g9, rfl, hx9, hg9, hd9, hC9⟩
            have hv9 := hv.apart hdv.symm hC9
            have hdv9 := hdv.keep hd.lt hC9
            have hB9 := hB.trans (hC9.belowB hB.size (fun q hq h => by have := hgd7 q h.1; omega))
            go_wp2_with fail
            refine (read_goodO hv9 hdd2 (by rw [hn2']; exact hk) hnow2).mono ?_
            rintro e w10 ⟨x10, g10, rfl, hx10, hg10, hv10, hC10⟩
            have hd10 := hd9.apart hdv9 hC10
            have hdv10 := hdv9.keep hd9.lt hC10
            have hB10 := hB9.trans (hC10.belowB hB9.size (fun q hq h => by have := hgv8 q h.1; omega))
            have hx9' := hx9.chg hC10 (fun h => by have := hv.lt g9 h.1; omega)
            have q1 := run_string hx9'
            have q2 := run_string hx10
            clear hx9 hx10 hx9' hC10 hC9 hdv9 hv9 hd9 hB9 hg9 hg10 hnow1 hnow2 hd hv hdv hB
            go_wp2_with fail
            go_roundg (gk - 1)
            case measure => have := hjd'.out; omega
            case rel => exact ⟨k + 1, _, _, by have := hjd'.out; omega, by go_num, hd10, hv10, hdv10, hB10, e1, e2, hdd1, hdd2, hn1', hn2'⟩
          · have hk8 : ¬ (k : Int) < 8 := by omega
            clear hjd
            go_wp2_with fail
            go_meet
            case rel => exact hB
      case rest =>
        have hB := hcut
        clear hd8 hv8 hdv8 hB8
        go_wp2_with fail
        refine (awake1_any _).mono ?_
        rintro e w6 ⟨rfl, hB6⟩
        go_wp2_with fail
        go_ret
        exact ⟨rfl, hB.trans (hB6.mono hB.size)⟩
end Go.Proofs.Ytbnoebdpbpjbkaa
