/-
  DevFuses, walked: it answers true at every list and every fuse.
-/
import Derived.Test.YtbnoebdpbpjbkaaLaw1d
import Derived.Test.YtbnoebdpbpjbkaaBits
import Derived.Deep.LoopGhost
namespace Go.Proofs.Ytbnoebdpbpjbkaa
open Go.RowKit Go.Lz

theorem write_goodI {S : DevS} {i : Int} {b : Bytes} (hd : S.dead = false) (h0 : 0 ≤ i) (hk : i < S.n) (hf : S.fuse ≠ 0) (hb : b.length = 64) : S.write i b = (0, S.burned.put i.toNat b) := by
  obtain ⟨k, rfl⟩ := Int.eq_ofNat_of_zero_le h0
  exact write_good hd (by omega) hf hb

theorem read_goodI {w : World} {p : Nat} {S : DevS} {F : Nat → Prop} (h : DevAt Try.prog w p S F) (hd : S.dead = false) {i : Int} (h0 : 0 ≤ i) (hk : i < S.n) : Calls Try.prog 19 #[Dptr p, .int .i64 i] w (ReadGood w p S F (S.now i.toNat)) := by
  obtain ⟨k, rfl⟩ := Int.eq_ofNat_of_zero_le h0
  exact read_good h hd (by omega) rfl

theorem read_dead {w : World} {p : Nat} {S : DevS} {F : Nat → Prop} (h : DevAt Try.prog w p S F) (hd : S.dead = true) (i : Int) : Calls Try.prog 19 #[Dptr p, .int .i64 i] w fun e w' => e = .returned (.tuple #[.slice none 0 0, .int .i64 50]) ∧ w = w' := by
  obtain ⟨lv, m, vs, vf, c, hD⟩ := h
  have hw : S.wrong i = 50 := by simp [DevS.wrong, hd]
  have := read_bad hD i (by rw [hw]; decide)
  rwa [hw] at this

/-- Between two rounds of DevFuses: d rounds at most are to come. -/
def FuseRel (B p d : Nat) (lv iv : Value) (w0 wr : World) : Prop :=
  ∃ (j : Nat) (lft : Int) (S : DevS) (F : Nat → Prop), j + d = 60 ∧ lv = .int .i64 lft ∧ iv = .int .i64 (j : Int) ∧ DevAt Try.prog wr p S F ∧ (∀ k, F k → B ≤ k) ∧ Below B w0 wr ∧ S.n = 8 ∧ 0 ≤ lft ∧ lft ≤ 31 ∧
    ((S.dead = false ∧ S.fuse = lft) ∨ (S.dead = true ∧ lft = 0))

set_option maxRecDepth 100000 in
set_option maxHeartbeats 1000000 in
theorem devFuses_any {w : World} {G : Nat → Prop} {v : Value} {l : List Int} (hv : IntsAt w G v l) (k : Int) :
    Calls Try.prog 3 #[v, .int .i64 k] w fun e w' => e = .returned (.bool true) ∧ Below w.heap.size w w' := by
  obtain ⟨a, n, cp, rfl, hl, hn, hcs⟩ := id hv
  have hcv := run_bytes
  have hb31 := and31
  have hb7 := and7
  have hb3 := and3
  go_enter Try.func3, Try.ntmps3
  go_wp2_with fail
  refine (new_ok w 8 (by omega)).mono ?_
  rintro e w1 ⟨p, rfl, hD1, hB1⟩
  go_wp2_with fail
  refine (fuse_any hD1 (k % 32) (by omega)).mono ?_
  rintro e w2 ⟨rfl, hD2, hC2⟩
  go_wp2_with fail
  go_loopg [7, 8] 60 (fun d lv iv wr => FuseRel w.heap.size p d lv iv w wr)
  case atStart =>
    refine ⟨0, k % 32, _, _, rfl, rfl, rfl, hD2, fun j hj => hj.1, hB1.trans (hC2.belowB hB1.size (fun j hj e => by subst e; have := (hD1.Fp).1; omega)), rfl, by omega, by omega, .inl ⟨rfl, ?_⟩⟩
    simp only [DevS.fused]
    omega
  case round =>
    obtain ⟨j, lft, S, F, hjd, rfl, rfl, hD, hF, hB, hSn, hl0, hl1, hst⟩ := hrel
    have hjd' : Hid (j + gk = 60) := hjd
    by_cases hin : j < n ∧ j < 60
    · obtain ⟨hjn, hj60⟩ := hin
      rcases hcs with h0 | ⟨b, off, rfl, _, hbl, hc⟩
      · omega
      obtain ⟨x, hx⟩ : ∃ x, x = l.getD j 0 := ⟨_, rfl⟩
      have hcx : ∀ W : World, Below w.heap.size w W → W.cell? ⟨b, off + j, none⟩ = some (.int .i64 x) := fun W hW => by rw [hx, hW.cell (p := ⟨b, off + j, none⟩) hbl]; exact hc j hjn
      have hcx' : Hid (∀ W : World, Below w.heap.size w W → W.cell? ⟨b, off + j, none⟩ = some (.int .i64 x)) := hcx
      have hjn' : (j : Int) < (n : Int) := by omega
      have hj60' : (j : Int) < 60 := by omega
      clear hx hcx hc hjd
      rcases hst with ⟨hd, hf⟩ | ⟨hd, rfl⟩
      · have hd' : S.counted.dead = false := hd
        have hi8 : 0 ≤ (j : Int) % 8 ∧ (j : Int) % 8 < 8 := by omega
        go_wp2_with fail
        refine (read_goodI hD hd hi8.1 (by rw [hSn]; exact hi8.2)).mono ?_
        rintro e w3 ⟨y, gy, rfl, hy, hgy, hD3, hC3⟩
        have hB3 : Below w.heap.size w w3 := hB.trans (hC3.belowB hB.size (fun q hq h => by have := hF q h; omega))
        clear hy hgy
        go_wp2_with fail
        refine (dead_any hD3).mono ?_
        rintro e w' ⟨rfl, rfl⟩
        rw [hd']
        by_cases hl : lft = 0
        · have hf0 : S.counted.fuse = 0 := by show S.fuse = 0; rw [hf, hl]
          subst hl
          have hf0' : Hid (S.counted.fuse = 0) := hf0
          clear hf0 hf
          have hcw := hcx'.out w3 hB3
          by_cases hk3 : x % 4 = 0
          · go_wp2_with fail
            have hfl : (S.counted).flush = (50, S.counted.killed) := by simp [DevS.flush, hd', hf0'.out]
            refine (flush_any hD3).mono ?_
            rw [hfl]
            rintro e w4 ⟨rfl, hD4, hC4⟩
            have hB4 : Below w.heap.size w w4 := hB3.trans (hC4.belowB hB3.size (fun q hq h => by have := hF q h; omega))
            have hF4 : ∀ q, ext F w3 w4 q → w.heap.size ≤ q := fun q hq => hq.elim (hF q) (fun h => Nat.le_trans hB3.size h.1)
            go_wp2_with fail
            refine (dead_any hD4).mono ?_
            rintro e w' ⟨rfl, rfl⟩
            have hd4 : (S.counted.killed).dead = true := by rfl
            rw [hd4]
            go_wp2_with fail
            go_roundg (gk - 1)
            case measure => have := hjd'.out; omega
            case rel => exact ⟨j + 1, 0, _, _, by have := hjd'.out; omega, by rfl, by go_num, hD4, hF4, hB4, hSn, by omega, by omega, .inr ⟨rfl, rfl⟩⟩
          · have hbw : b < w3.heap.size := Nat.lt_of_lt_of_le hbl hB3.size
            have hwr : (S.counted).write (x % 8) (bytesOf (j : Int) 64) = (50, S.counted.killed) := by simp [DevS.write, DevS.wrong, hd', hf0'.out, show S.counted.n = 8 from hSn]; omega
            go_wp2_with fail
            go_region_with (first
              | (go_at_call 23; refine (bytes_any _ 64 _ (by omega) (by omega)).mono ?_; rintro e wa ⟨rfl, hBa⟩; have hBa' := undrew hBa; have hBw := hB3.trans (hBa'.mono hB3.size); have hcw2 := hcx'.out wa hBw; have hba : b < wa.heap.size := Nat.lt_of_lt_of_le hbl hBw.size; have hDx := (hD3.below hBa').chg (M := fun _ => False) (bytes_chg wa (bytesOf (j : Int) 64) _) (fun _ _ h => h))
              | (go_at_call 22; refine (write_any hDx (bytes64 wa _).src _).mono ?_; rw [hwr]; rintro e w4 ⟨rfl, hD4, hC4⟩))
            all_goals
              have hB5 : Below w.heap.size w (wa.alloc (bobj wa (bytesOf (j : Int) 64))).drew := (hBw.alloc hBw.size _).drew
              have hB4 : Below w.heap.size w w4 := hB5.trans (hC4.belowB hB5.size (fun q hq h => by have := hF q h; omega))
              have hF4 : ∀ q, ext F (wa.alloc (bobj wa (bytesOf (j : Int) 64))).drew w4 q → w.heap.size ≤ q := fun q hq => hq.elim (hF q) (fun h => Nat.le_trans hB5.size h.1)
              go_wp2_with fail
              refine (dead_any hD4).mono ?_
              rintro e w' ⟨rfl, rfl⟩
              have hd4 : (S.counted.killed).dead = true := by rfl
              rw [hd4]
              go_wp2_with fail
              go_roundg (gk - 1)
              case measure => have := hjd'.out; omega
              case rel => exact ⟨j + 1, 0, _, _, by have := hjd'.out; omega, by rfl, by go_num, hD4, hF4, hB4, hSn, by omega, by omega, .inr ⟨rfl, rfl⟩⟩
        · have hf0 : Hid (S.counted.fuse = lft) := hf
          clear hf
          have hl1' : 0 < lft := by omega
          have hcw := hcx'.out w3 hB3
          by_cases hk3 : x % 4 = 0
          · go_wp2_with fail
            have hfl : (S.counted).flush = (0, S.counted.burned.flushed) := by simp [DevS.flush, hd', hf0.out, hl]
            refine (flush_any hD3).mono ?_
            rw [hfl]
            rintro e w4 ⟨rfl, hD4, hC4⟩
            have hB4 : Below w.heap.size w w4 := hB3.trans (hC4.belowB hB3.size (fun q hq h => by have := hF q h; omega))
            have hF4 : ∀ q, ext F w3 w4 q → w.heap.size ≤ q := fun q hq => hq.elim (hF q) (fun h => Nat.le_trans hB3.size h.1)
            go_wp2_with fail
            go_roundg (gk - 1)
            case measure => have := hjd'.out; omega
            case rel => exact ⟨j + 1, lft - 1, _, _, by have := hjd'.out; omega, by rfl, by go_num, hD4, hF4, hB4, hSn, by omega, by omega, .inl ⟨hd', by show max (S.counted.fuse - 1) (-1) = _; rw [hf0.out]; omega⟩⟩
          · have hbw : b < w3.heap.size := Nat.lt_of_lt_of_le hbl hB3.size
            have hwr : (S.counted).write (x % 8) (bytesOf (j : Int) 64) = (0, S.counted.burned.put (x % 8).toNat (bytesOf (j : Int) 64)) := by exact write_goodI hd' (by omega) (by rw [show S.counted.n = 8 from hSn]; omega) (by rw [hf0.out]; omega) (by simp)
            go_wp2_with fail
            go_region_with (first
              | (go_at_call 23; refine (bytes_any _ 64 _ (by omega) (by omega)).mono ?_; rintro e wa ⟨rfl, hBa⟩; have hBa' := undrew hBa; have hBw := hB3.trans (hBa'.mono hB3.size); have hcw2 := hcx'.out wa hBw; have hba : b < wa.heap.size := Nat.lt_of_lt_of_le hbl hBw.size; have hDx := (hD3.below hBa').chg (M := fun _ => False) (bytes_chg wa (bytesOf (j : Int) 64) _) (fun _ _ h => h))
              | (go_at_call 22; refine (write_any hDx (bytes64 wa _).src _).mono ?_; rw [hwr]; rintro e w4 ⟨rfl, hD4, hC4⟩))
            all_goals
              have hB5 : Below w.heap.size w (wa.alloc (bobj wa (bytesOf (j : Int) 64))).drew := (hBw.alloc hBw.size _).drew
              have hB4 : Below w.heap.size w w4 := hB5.trans (hC4.belowB hB5.size (fun q hq h => by have := hF q h; omega))
              have hF4 : ∀ q, ext F (wa.alloc (bobj wa (bytesOf (j : Int) 64))).drew w4 q → w.heap.size ≤ q := fun q hq => hq.elim (hF q) (fun h => Nat.le_trans hB5.size h.1)
              go_wp2_with fail
              go_roundg (gk - 1)
              case measure => have := hjd'.out; omega
              case rel => exact ⟨j + 1, lft - 1, _, _, by have := hjd'.out; omega, by rfl, by go_num, hD4, hF4, hB4, hSn, by omega, by omega, .inl ⟨hd', by show max (S.counted.fuse - 1) (-1) = _; rw [hf0.out]; omega⟩⟩
      · go_wp2_with fail
        refine (read_dead hD hd _).mono ?_
        rintro e w' ⟨rfl, rfl⟩
        go_wp2_with fail
        refine (dead_any hD).mono ?_
        rintro e w' ⟨rfl, rfl⟩
        rw [hd]
        have hcw := hcx'.out wr hB
        by_cases hk3 : x % 4 = 0
        · go_wp2_with fail
          have hfl : (S).flush = (50, S) := by simp [DevS.flush, hd]
          refine (flush_any hD).mono ?_
          rw [hfl]
          rintro e w4 ⟨rfl, hD4, hC4⟩
          have hB4 : Below w.heap.size w w4 := hB.trans (hC4.belowB hB.size (fun q hq h => by have := hF q h; omega))
          have hF4 : ∀ q, ext F wr w4 q → w.heap.size ≤ q := fun q hq => hq.elim (hF q) (fun h => Nat.le_trans hB.size h.1)
          go_wp2_with fail
          refine (dead_any hD4).mono ?_
          rintro e w' ⟨rfl, rfl⟩
          have hd4 : (S).dead = true := by exact hd
          rw [hd4]
          go_wp2_with fail
          go_roundg (gk - 1)
          case measure => have := hjd'.out; omega
          case rel => exact ⟨j + 1, 0, _, _, by have := hjd'.out; omega, by rfl, by go_num, hD4, hF4, hB4, hSn, by omega, by omega, .inr ⟨hd, rfl⟩⟩
        · have hbw : b < wr.heap.size := Nat.lt_of_lt_of_le hbl hB.size
          have hwr : (S).write (x % 8) (bytesOf (j : Int) 64) = (50, S) := by simp [DevS.write, DevS.wrong, hd]
          go_wp2_with fail
          go_region_with (first
            | (go_at_call 23; refine (bytes_any _ 64 _ (by omega) (by omega)).mono ?_; rintro e wa ⟨rfl, hBa⟩; have hBa' := undrew hBa; have hBw := hB.trans (hBa'.mono hB.size); have hcw2 := hcx'.out wa hBw; have hba : b < wa.heap.size := Nat.lt_of_lt_of_le hbl hBw.size; have hDx := (hD.below hBa').chg (M := fun _ => False) (bytes_chg wa (bytesOf (j : Int) 64) _) (fun _ _ h => h))
            | (go_at_call 22; refine (write_any hDx (bytes64 wa _).src _).mono ?_; rw [hwr]; rintro e w4 ⟨rfl, hD4, hC4⟩))
          all_goals
            have hB5 : Below w.heap.size w (wa.alloc (bobj wa (bytesOf (j : Int) 64))).drew := (hBw.alloc hBw.size _).drew
            have hB4 : Below w.heap.size w w4 := hB5.trans (hC4.belowB hB5.size (fun q hq h => by have := hF q h; omega))
            have hF4 : ∀ q, ext F (wa.alloc (bobj wa (bytesOf (j : Int) 64))).drew w4 q → w.heap.size ≤ q := fun q hq => hq.elim (hF q) (fun h => Nat.le_trans hB5.size h.1)
            go_wp2_with fail
            refine (dead_any hD4).mono ?_
            rintro e w' ⟨rfl, rfl⟩
            have hd4 : (S).dead = true := by exact hd
            rw [hd4]
            go_wp2_with fail
            go_roundg (gk - 1)
            case measure => have := hjd'.out; omega
            case rel => exact ⟨j + 1, 0, _, _, by have := hjd'.out; omega, by rfl, by go_num, hD4, hF4, hB4, hSn, by omega, by omega, .inr ⟨hd, rfl⟩⟩
    · have hnil : IntsAt wr (fun _ => False) (.slice none 0 0) [] := ⟨none, 0, 0, rfl, rfl, by omega, .inl rfl⟩
      have hfin : ∀ w4 F', DevAt Try.prog w4 p (S.crashed true []) F' → (∀ q, F' q → w.heap.size ≤ q) → Below w.heap.size w w4 → (S.crashed true []).flush = (0, (S.crashed true []).burned.flushed) := fun _ _ _ _ _ => by simp [DevS.flush, DevS.crashed]
      by_cases hjn : j < n
      · have hj60 : ¬ (j : Int) < 60 := by omega
        have hjn' : (j : Int) < (n : Int) := by omega
        clear hjd hin hst hl0 hl1
        go_wp2_with fail
        refine (crash_any' hD true hnil (fun _ h => h.elim)).mono ?_
        rintro e w4 ⟨rfl, hD4, hC4⟩
        have hB4 : Below w.heap.size w w4 := hB.trans (hC4.belowB hB.size (fun q hq h => by have := hF q h; omega))
        have hF4 : ∀ q, ext F wr w4 q → w.heap.size ≤ q := fun q hq => hq.elim (hF q) (fun h => Nat.le_trans hB.size h.1)
        go_wp2_with fail
        refine (dead_any hD4).mono ?_
        rintro e w' ⟨rfl, rfl⟩
        rw [show (S.crashed true []).dead = false from rfl]
        go_wp2_with fail
        refine (flush_any hD4).mono ?_
        rw [hfin _ _ hD4 hF4 hB4]
        rintro e w5 ⟨rfl, hD5, hC5⟩
        have hB5 : Below w.heap.size w w5 := hB4.trans (hC5.belowB hB4.size (fun q hq h => by have := hF4 q h; omega))
        go_wp2_with fail
        refine (awake1_any _).mono ?_
        rintro e w6 ⟨rfl, hB6⟩
        go_wp2_with fail
        go_ret
        exact ⟨rfl, hB5.trans (hB6.mono hB5.size)⟩
      · have hjn' : ¬ (j : Int) < (n : Int) := by omega
        clear hjd hin hst hl0 hl1
        go_wp2_with fail
        refine (crash_any' hD true hnil (fun _ h => h.elim)).mono ?_
        rintro e w4 ⟨rfl, hD4, hC4⟩
        have hB4 : Below w.heap.size w w4 := hB.trans (hC4.belowB hB.size (fun q hq h => by have := hF q h; omega))
        have hF4 : ∀ q, ext F wr w4 q → w.heap.size ≤ q := fun q hq => hq.elim (hF q) (fun h => Nat.le_trans hB.size h.1)
        go_wp2_with fail
        refine (dead_any hD4).mono ?_
        rintro e w' ⟨rfl, rfl⟩
        rw [show (S.crashed true []).dead = false from rfl]
        go_wp2_with fail
        refine (flush_any hD4).mono ?_
        rw [hfin _ _ hD4 hF4 hB4]
        rintro e w5 ⟨rfl, hD5, hC5⟩
        have hB5 : Below w.heap.size w w5 := hB4.trans (hC5.belowB hB4.size (fun q hq h => by have := hF4 q h; omega))
        go_wp2_with fail
        refine (awake1_any _).mono ?_
        rintro e w6 ⟨rfl, hB6⟩
        go_wp2_with fail
        go_ret
        exact ⟨rfl, hB5.trans (hB6.mono hB5.size)⟩
end Go.Proofs.Ytbnoebdpbpjbkaa
