/-
  DevLasts, walked: it answers true at every two lists of sectors, every crash.
-/
import Derived.Test.YtbnoebdpbpjbkaaLastsP
import Derived.Test.YtbnoebdpbpjbkaaBits
import Derived.Deep.LoopGhost
import Derived.Deep.CutBlock
namespace Go.Proofs.Ytbnoebdpbpjbkaa
open Go.RowKit Go.Lz

/-- Between two rounds of a loop that writes. -/
def WriteRel (B p b1 b2 d : Nat) (iv : Value) (w0 wr : World) (f g f1 f2 : Nat → Int) : Prop :=
  ∃ (j : Nat) (S : DevS) (F : Nat → Prop), j + d = 30 ∧ iv = .int .i64 (j : Int) ∧ DevAt Try.prog wr p S F ∧ (∀ k, F k → B ≤ k) ∧ ¬ F b1 ∧ ¬ F b2 ∧ Below B w0 wr ∧ GoodL S f g ∧ ArrAt 37 wr b1 8 f1 ∧ ArrAt 37 wr b2 8 f2

set_option maxRecDepth 100000 in
set_option maxHeartbeats 1000000 in
theorem devLasts_any {w : World} {v1 v2 v3 : Value} {a b l : List Int} (h1 : IntsAt w (fun _ => True) v1 a) (h2 : IntsAt w (fun _ => True) v2 b) (flip : Bool) (h3 : IntsAt w (fun _ => True) v3 l) :
    Calls Try.prog 4 #[v1, v2, .bool flip, v3] w fun e w' => e = .returned (.bool true) ∧ Below w.heap.size w w' := by
  obtain ⟨a1, n1, c1, rfl, hl1, hn1, hcs1⟩ := id h1
  obtain ⟨a2, n2, c2, rfl, hl2, hn2, hcs2⟩ := id h2
  have h3' := h3.here
  obtain ⟨a3, n3, c3, rfl, hl3, hn3, hcs3⟩ := id h3
  have hcv := run_bytes
  have hb7 := and7
  clear h1 h2 h3
  go_enter Try.func4, Try.ntmps4
  go_wp2_with fail
  refine (new_ok w 8 (by omega)).mono ?_
  rintro e w1 ⟨p, rfl, hD1, hB1⟩
  have hs1 := hB1.size
  go_upto_block 0 with fail
  go_cut [13] from 34 to 60 (fun _ wr => ∃ f S F, DevAt Try.prog wr p S F ∧ (∀ k, F k → w.heap.size ≤ k) ∧ ¬ F w1.heap.size ∧ ¬ F (w1.heap.size + 1) ∧ Below w.heap.size w wr ∧ GoodL S (fun _ => 0) f ∧ ArrAt 37 wr w1.heap.size 8 f ∧ ArrAt 37 wr (w1.heap.size + 1) 8 (fun _ => 0))
  case first =>
    go_wp2_with fail
    go_loopg [13] 30 (fun d iv wr => ∃ f, WriteRel w.heap.size p w1.heap.size (w1.heap.size + 1) d iv w wr (fun _ => 0) f f (fun _ => 0))
    case atStart =>
      have hBa := ((Below.refl w1.heap.size w1).alloc (Nat.le_refl _) (.cells #[.int .i64 0, .int .i64 0, .int .i64 0, .int .i64 0, .int .i64 0, .int .i64 0, .int .i64 0, .int .i64 0] 37)).alloc (by simp) (.cells #[.int .i64 0, .int .i64 0, .int .i64 0, .int .i64 0, .int .i64 0, .int .i64 0, .int .i64 0, .int .i64 0] 37)
      refine ⟨fun _ => 0, 0, _, _, rfl, rfl, hD1.below hBa, fun j hj => hj.1, fun h => by have := h.2; omega, fun h => by have := h.2; omega, hB1.trans (hBa.mono hs1), GoodL.new, ?_, ?_⟩
      · rw [ArrAt, Below.heap_alloc _ _ _ (by simp), heap_alloc_new]; rfl
      · have := heap_alloc_new (w1.alloc (.cells #[.int .i64 0, .int .i64 0, .int .i64 0, .int .i64 0, .int .i64 0, .int .i64 0, .int .i64 0, .int .i64 0] 37)) (.cells #[.int .i64 0, .int .i64 0, .int .i64 0, .int .i64 0, .int .i64 0, .int .i64 0, .int .i64 0, .int .i64 0] 37)
        simp only [World.size_alloc] at this
        exact this
    case round =>
      obtain ⟨f, j, S, F, hjd, rfl, hD, hF, hb1, hb2, hB, hG, hA1, hA2⟩ := hrel
      have hjd' : Hid (j + gk = 30) := hjd
      by_cases hin : j < n1 ∧ j < 30
      · obtain ⟨hjn, hj30⟩ := hin
        rcases hcs1 with h0 | ⟨bk, off, rfl, _, hbl, hc⟩
        · omega
        obtain ⟨x, hx⟩ : ∃ x, x = a.getD j 0 := ⟨_, rfl⟩
        have hcx : wr.cell? ⟨bk, off + j, none⟩ = some (.int .i64 x) := by rw [hx, hB.cell (p := ⟨bk, off + j, none⟩) hbl]; exact hc j hjn
        have hjn' : (j : Int) < (n1 : Int) := by omega
        have hj30' : (j : Int) < 30 := by omega
        have hx8 : 0 ≤ x % 8 ∧ x % 8 < 8 := by omega
        obtain ⟨y, hy⟩ : ∃ y : Nat, x % 8 = (y : Int) := ⟨(x % 8).toNat, by omega⟩
        have hw := hG.write hx8.1 hx8.2 (b := bytesOf ((j : Int) + 1) 64) (by simp)
        have hG' := hG.put (k := y) (x := (j : Int) + 1) (by omega)
        rw [hy] at hx8 hw
        have hy8 : y < 8 := by omega
        rw [Int.toNat_natCast] at hw
        clear hx hc hjd hx8
        go_wp2_with fail
        refine (bytes_any _ 64 _ (by omega) (by omega)).mono ?_
        rintro e wa ⟨rfl, hBa⟩
        have hDx := (hD.below hBa).chg (M := fun _ => False) (bytes_chg wa (bytesOf ((j : Int) + 1) 64) _) (fun _ _ h => h)
        have hBx : Below wr.heap.size wr (wa.alloc (bobj wa (bytesOf ((j : Int) + 1) 64))).drew := (hBa.alloc hBa.size _).drew
        go_wp2_with fail
        refine (write_any hDx (bytes64 wa _).src _).mono ?_
        rw [hw]
        rintro e w4 ⟨rfl, hD4, hC4⟩
        have hs5 := hBx.size
        have hB5 : Below w.heap.size w (wa.alloc (bobj wa (bytesOf ((j : Int) + 1) 64))).drew := hB.trans (hBx.mono hB.size)
        have hB4 : Below w.heap.size w w4 := hB5.trans (hC4.belowB hB5.size (fun q hq h => by have := hF q h; omega))
        have hF4 : ∀ q, ext F (wa.alloc (bobj wa (bytesOf ((j : Int) + 1) 64))).drew w4 q → w.heap.size ≤ q := fun q hq => hq.elim (hF q) (fun h => Nat.le_trans hB5.size h.1)
        have hl1 := hA1.lt
        have hl2 := hA2.lt
        have hA14 := (hA1.chg (M := fun _ => False) (Chg.of_below hBx) (fun h => h)).chg hC4 hb1
        have hA24 := (hA2.chg (M := fun _ => False) (Chg.of_below hBx) (fun h => h)).chg hC4 hb2
        have c1 := hA14.cell hy8
        have f1 := hA14.frozen y
        have hF1 : ¬ ext F (wa.alloc (bobj wa (bytesOf ((j : Int) + 1) 64))).drew w4 w1.heap.size := fun h => h.elim hb1 (fun h => by omega)
        have hF2 : ¬ ext F (wa.alloc (bobj wa (bytesOf ((j : Int) + 1) 64))).drew w4 (w1.heap.size + 1) := fun h => h.elim hb2 (fun h => by omega)
        clear hl1 hl2 hs5
        go_wp2_with fail
        go_roundg (gk - 1)
        case measure => have := hjd'.out; omega
        case rel =>
          have hC6 : Chg (· = w1.heap.size) w4 (w4.setCell ⟨w1.heap.size, y, none⟩ (.int .i64 ((j : Int) + 1))) := (Chg.refl _ w4).own _ _
          exact ⟨_, j + 1, _, _, by have := hjd'.out; omega, by go_num, hD4.chg hC6 (fun k hk e => hF1 (e ▸ hk)), hF4, hF1, hF2, hB4.trans (hC6.belowB hB4.size (fun q hq e => by omega)), hG', hA14.set y _, hA24.chg hC6 (by omega)⟩
      · by_cases hjn : j < n1
        · have hjn' : (j : Int) < (n1 : Int) := by omega
          have hj30' : ¬ (j : Int) < 30 := by omega
          clear hjd hin
          go_wp2_with fail
          go_meet
          case rel => exact ⟨f, S, F, hD, hF, hb1, hb2, hB, hG, hA1, hA2⟩
        · have hjn' : ¬ (j : Int) < (n1 : Int) := by omega
          clear hjd hin
          go_wp2_with fail
          go_meet
          case rel => exact ⟨f, S, F, hD, hF, hb1, hb2, hB, hG, hA1, hA2⟩
  case rest =>
    obtain ⟨f, S, F, hD, hF, hb1, hb2, hB, hG, hA1, hA2⟩ := hcut
    clear hcs1 hl1 hn1 hB1 hD1
    go_wp2_with fail
    refine (flush_any hD).mono ?_
    rw [hG.flush]
    rintro e w2 ⟨rfl, hD2, hC2⟩
    have hB2 : Below w.heap.size w w2 := hB.trans (hC2.belowB hB.size (fun q hq h => by have := hF q h; omega))
    have hF2 : ∀ q, ext F wc w2 q → w.heap.size ≤ q := fun q hq => hq.elim (hF q) (fun h => Nat.le_trans hB.size h.1)
    have hb1' : ¬ ext F wc w2 w1.heap.size := fun h => h.elim hb1 (fun h => by have := hA1.lt; omega)
    have hb2' : ¬ ext F wc w2 (w1.heap.size + 1) := fun h => h.elim hb2 (fun h => by have := hA2.lt; omega)
    have hA12 := hA1.chg hC2 hb1
    have hA22 := hA2.chg hC2 hb2
    have hld := hA12.run_load (P := Try.prog) Try.underlying37 (by kernel_rfl)
    have hst := hA22.run_store (P := Try.prog) (T' := 37) f (by kernel_rfl)
    have hCs : Chg (· = w1.heap.size + 1) w2 (w2.setRow (w1.heap.size + 1) (arrOf 8 f)) := (Chg.refl _ w2).ownRow _
    have hA23 := hA22.setRow f
    have hA13 := hA12.chg hCs (by omega)
    have hD3 := hD2.chg hCs (fun k hk e => hb2' (e ▸ hk))
    have hB3 : Below w.heap.size w (w2.setRow (w1.heap.size + 1) (arrOf 8 f)) := hB2.trans (hCs.belowB hB2.size (fun q hq e => by omega))
    have hG2 := hG.flushed
    clear hA1 hA2 hb1 hb2 hF hD hC2 hB hG hCs hB2 hD2 hld hst
    go_upto_region 14 with fail
    go_step
    refine wpList_load_row rfl 37 _ rfl w1.heap.size rfl _ (arrOf 8 f) (0, 0) _ hA12 Try.underlying37 rfl (by rw [arrOf_size]; kernel_rfl) ?_
    refine wpList_store_row rfl 37 _ _ rfl (w1.heap.size + 1) (arrOf 8 f) rfl rfl _ _ hA22 (by rw [arrOf_size]; kernel_rfl) (by rw [arrOf_size, arrOf_size]) (arrOf_one _ _) ?_
    clear hA12 hA22
    go_upto_block 2 with fail
    go_cut [15] from 65 to 91 (fun _ wr => ∃ g S F, DevAt Try.prog wr p S F ∧ (∀ k, F k → w.heap.size ≤ k) ∧ ¬ F w1.heap.size ∧ ¬ F (w1.heap.size + 1) ∧ Below w.heap.size w wr ∧ GoodL S f g ∧ ArrAt 37 wr w1.heap.size 8 f ∧ ArrAt 37 wr (w1.heap.size + 1) 8 g)
    case first =>
      go_wp2_with fail
      go_loopg [15] 30 (fun d iv wr => ∃ g, WriteRel w.heap.size p w1.heap.size (w1.heap.size + 1) d iv w wr f g f g)
      case atStart => exact ⟨f, 0, _, _, rfl, rfl, hD3, hF2, hb1', hb2', hB3, hG2, hA13, hA23⟩
      case round =>
        obtain ⟨g, j, S, F, hjd, rfl, hD, hF, hb1, hb2, hB, hG, hA1, hA2⟩ := hrel
        have hjd' : Hid (j + gk = 30) := hjd
        by_cases hin : j < n2 ∧ j < 30
        · obtain ⟨hjn, hj30⟩ := hin
          rcases hcs2 with h0 | ⟨bk, off, rfl, _, hbl, hc⟩
          · omega
          obtain ⟨x, hx⟩ : ∃ x, x = b.getD j 0 := ⟨_, rfl⟩
          have hcx : wr.cell? ⟨bk, off + j, none⟩ = some (.int .i64 x) := by rw [hx, hB.cell (p := ⟨bk, off + j, none⟩) hbl]; exact hc j hjn
          have hjn' : (j : Int) < (n2 : Int) := by omega
          have hj30' : (j : Int) < 30 := by omega
          have hx8 : 0 ≤ x % 8 ∧ x % 8 < 8 := by omega
          obtain ⟨y, hy⟩ : ∃ y : Nat, x % 8 = (y : Int) := ⟨(x % 8).toNat, by omega⟩
          have hw := hG.write hx8.1 hx8.2 (b := bytesOf (100 + (j : Int)) 64) (by simp)
          have hG' := hG.put (k := y) (x := 100 + (j : Int)) (by omega)
          rw [hy] at hx8 hw
          have hy8 : y < 8 := by omega
          rw [Int.toNat_natCast] at hw
          clear hx hc hjd hx8
          go_wp2_with fail
          refine (bytes_any _ 64 _ (by omega) (by omega)).mono ?_
          rintro e wa ⟨rfl, hBa⟩
          have hDx := (hD.below hBa).chg (M := fun _ => False) (bytes_chg wa (bytesOf (100 + (j : Int)) 64) _) (fun _ _ h => h)
          have hBx : Below wr.heap.size wr (wa.alloc (bobj wa (bytesOf (100 + (j : Int)) 64))).drew := (hBa.alloc hBa.size _).drew
          go_wp2_with fail
          refine (write_any hDx (bytes64 wa _).src _).mono ?_
          rw [hw]
          rintro e w4 ⟨rfl, hD4, hC4⟩
          have hs5 := hBx.size
          have hB5 : Below w.heap.size w (wa.alloc (bobj wa (bytesOf (100 + (j : Int)) 64))).drew := hB.trans (hBx.mono hB.size)
          have hB4 : Below w.heap.size w w4 := hB5.trans (hC4.belowB hB5.size (fun q hq h => by have := hF q h; omega))
          have hF4 : ∀ q, ext F (wa.alloc (bobj wa (bytesOf (100 + (j : Int)) 64))).drew w4 q → w.heap.size ≤ q := fun q hq => hq.elim (hF q) (fun h => Nat.le_trans hB5.size h.1)
          have hl1 := hA1.lt
          have hl2 := hA2.lt
          have hA14 := (hA1.chg (M := fun _ => False) (Chg.of_below hBx) (fun h => h)).chg hC4 hb1
          have hA24 := (hA2.chg (M := fun _ => False) (Chg.of_below hBx) (fun h => h)).chg hC4 hb2
          have c1 := hA24.cell hy8
          have f1 := hA24.frozen y
          have hF1 : ¬ ext F (wa.alloc (bobj wa (bytesOf (100 + (j : Int)) 64))).drew w4 w1.heap.size := fun h => h.elim hb1 (fun h => by omega)
          have hF2 : ¬ ext F (wa.alloc (bobj wa (bytesOf (100 + (j : Int)) 64))).drew w4 (w1.heap.size + 1) := fun h => h.elim hb2 (fun h => by omega)
          clear hl1 hl2 hs5
          go_wp2_with fail
          go_roundg (gk - 1)
          case measure => have := hjd'.out; omega
          case rel =>
            have hC6 : Chg (· = w1.heap.size + 1) w4 (w4.setCell ⟨w1.heap.size + 1, y, none⟩ (.int .i64 (100 + (j : Int)))) := (Chg.refl _ w4).own _ _
            exact ⟨_, j + 1, _, _, by have := hjd'.out; omega, by go_num, hD4.chg hC6 (fun k hk e => hF2 (e ▸ hk)), hF4, hF1, hF2, hB4.trans (hC6.belowB hB4.size (fun q hq e => by omega)), hG', hA14.chg hC6 (by omega), hA24.set y _⟩
        · by_cases hjn : j < n2
          · have hjn' : (j : Int) < (n2 : Int) := by omega
            have hj30' : ¬ (j : Int) < 30 := by omega
            clear hjd hin
            go_wp2_with fail
            go_meet
            case rel => exact ⟨g, S, F, hD, hF, hb1, hb2, hB, hG, hA1, hA2⟩
          · have hjn' : ¬ (j : Int) < (n2 : Int) := by omega
            clear hjd hin
            go_wp2_with fail
            go_meet
            case rel => exact ⟨g, S, F, hD, hF, hb1, hb2, hB, hG, hA1, hA2⟩
    case rest =>
      obtain ⟨g, S, F, hD, hF, hb1, hb2, hB, hG, hA1, hA2⟩ := hcut
      clear hcs2 hl2 hn2 hb1' hb2' hF2 hA23 hA13 hD3 hB3 hG2 hb7
      go_wp2_with fail
      refine (crash_any' hD flip (h3'.chg (M := fun _ => False) (Chg.of_below hB) (fun _ _ _ h => h)) (fun k hk h => by have := hF k h; omega)).mono ?_
      rintro e w4 ⟨rfl, hD4, hC4⟩
      have hG4 := hG.crashed flip l
      have hA14 := hA1.chg hC4 hb1
      have hA24 := hA2.chg hC4 hb2
      have hB4 : Below w.heap.size w w4 := hB.trans (hC4.belowB hB.size (fun q hq h => by have := hF q h; omega))
      have hF4 : ∀ q, ext F wc w4 q → w.heap.size ≤ q := fun q hq => hq.elim (hF q) (fun h => Nat.le_trans hB.size h.1)
      have hb14 : ¬ ext F wc w4 w1.heap.size := fun h => h.elim hb1 (fun h => by have := hA1.lt; omega)
      have hb24 : ¬ ext F wc w4 (w1.heap.size + 1) := fun h => h.elim hb2 (fun h => by have := hA2.lt; omega)
      clear hD hF hb1 hb2 hB hG hA1 hA2 hC4
      obtain ⟨S4, hS4⟩ : ∃ S4, S4 = S.crashed flip l := ⟨_, rfl⟩
      obtain ⟨F4, hF4'⟩ : ∃ F4, F4 = ext F wc w4 := ⟨_, rfl⟩
      rw [← hS4] at hD4 hG4
      rw [← hF4'] at hD4 hF4 hb14 hb24
      clear hS4 hF4'
      go_upto_block 4 with fail
      go_cut [17] from 96 to 142 (fun _ wr => ∃ S', DevAt Try.prog wr p S' F4 ∧ Below w.heap.size w wr ∧ S'.waiting = [])
      case first =>
        go_wp2_with fail
        go_loopg [17] 8 (fun d iv wr => ∃ (k : Nat) (S' : DevS), k + d = 8 ∧ iv = .int .i64 (k : Int) ∧ DevAt Try.prog wr p S' F4 ∧ Below w.heap.size w wr ∧ GoodC S' (fun k => if (decide ((k : Int) ∈ l)) != flip then g k else f k) ∧ ArrAt 37 wr w1.heap.size 8 f ∧ ArrAt 37 wr (w1.heap.size + 1) 8 g)
        case atStart => exact ⟨0, _, rfl, rfl, hD4, hB4, hG4, hA14, hA24⟩
        case round =>
          obtain ⟨k, S', hjd, rfl, hD, hB, hG, hA1, hA2⟩ := hrel
          have hjd' : Hid (k + gk = 8) := hjd
          by_cases hk : k < 8
          · have hk8 : (k : Int) < 8 := by omega
            have c1 := hA1.cell hk
            have c2 := hA2.cell hk
            have hnow := hG.now k hk
            have hSn := hG.n
            have hd := hG.dead
            obtain ⟨inb, hinb⟩ : ∃ inb, inb = decide ((k : Int) ∈ l) := ⟨_, rfl⟩
            rw [← hinb] at hnow
            clear hjd
            go_upto_block 6 with fail
            go_cut [18, 19] from 100 to 114 (fun inv _ wx => inv = .bool inb ∧ wx = wr)
            case first =>
              go_wp2_with fail
              go_loopg [18, 19] n3 (fun d inv jv wx => ∃ j : Nat, j + d = n3 ∧ inv = .bool (decide ((k : Int) ∈ l.take j)) ∧ jv = .int .i64 (j : Int) ∧ wx = wr)
              case atStart => exact ⟨0, by omega, by simp, rfl, rfl⟩
              case round =>
                obtain ⟨j, hjd, rfl, rfl, rfl⟩ := hrel
                have hjd2 : Hid (j + gk = n3) := hjd
                by_cases hj : j < n3
                · rcases hcs3 with h0 | ⟨bk, off, rfl, _, hbl, hc⟩
                  · omega
                  obtain ⟨x, hx⟩ : ∃ x, x = l.getD j 0 := ⟨_, rfl⟩
                  have hcx : wr.cell? ⟨bk, off + j, none⟩ = some (.int .i64 x) := by rw [hx, hB.cell (p := ⟨bk, off + j, none⟩) hbl]; exact hc j hj
                  have hjn' : (j : Int) < (n3 : Int) := by omega
                  have hms := mem_take_succ (x := (k : Int)) (l := l) (j := j) (by omega)
                  rw [← hx] at hms
                  clear hx hc hjd
                  obtain ⟨q, hq⟩ : ∃ q, q = decide ((k : Int) ∈ l.take j) := ⟨_, rfl⟩
                  rw [← hq] at hms ⊢
                  clear hq
                  cases q with
                  | true =>
                    go_wp2_with fail
                    go_roundg (gk - 1)
                    case measure => have := hjd2.out; omega
                    case rel => exact ⟨j + 1, by have := hjd2.out; omega, by rw [hms]; rfl, by go_num, rfl⟩
                  | false =>
                    go_wp2_with fail
                    go_roundg (gk - 1)
                    case measure => have := hjd2.out; omega
                    case rel => exact ⟨j + 1, by have := hjd2.out; omega, by rw [hms]; by_cases e : x = (k : Int) <;> simp [e], by go_num, rfl⟩
                · have hjn' : ¬ (j : Int) < (n3 : Int) := by omega
                  clear hjd
                  have hall : l.take j = l := List.take_of_length_le (by omega)
                  go_wp2_with fail
                  go_meet
                  case rel => exact ⟨by simp [hinb], rfl⟩
            case rest =>
              obtain ⟨rfl, rfl⟩ := hcut
              clear hinb hcs3 hl3 hn3
              obtain ⟨x, hx⟩ : ∃ x, x = if inb != flip then g k else f k := ⟨_, rfl⟩
              rw [← hx] at hnow
              go_upto_if 120 with fail
              go_cut [20] from 96 to 142 (fun v wx => v = .int .i64 x ∧ wx = wc)
              case first =>
                cases hif : (inb == flip) with
                | true =>
                  have hxf : x = f k := by rw [hx]; simp [bne, hif]
                  clear hx
                  go_wp2_with fail
                  go_meet
                  case rel => exact ⟨by rw [hxf], rfl⟩
                | false =>
                  have hxf : x = g k := by rw [hx]; simp [bne, hif]
                  clear hx
                  go_wp2_with fail
                  go_meet
                  case rel => exact ⟨by rw [hxf], rfl⟩
              case rest =>
                obtain ⟨rfl, rfl⟩ := hcut
                clear hx c1 c2
                go_wp2_with fail
                refine (zero_any _).mono ?_
                rintro e wz ⟨rfl, hBz⟩
                go_upto_if 126 with fail
                go_cut [21] from 96 to 142 (fun s wx => s = .string ⟨(wantB x).toArray⟩ ∧ Below wz.heap.size wz wx)
                case first =>
                  by_cases hx0 : 0 < x
                  · have hwx : wantB x = bytesOf x 64 := by simp [wantB, hx0]
                    go_wp2_with fail
                    refine (bytes_any x 64 _ (by omega) (by omega)).mono ?_
                    rintro e wa ⟨rfl, hBa⟩
                    go_wp2_with fail
                    go_meet
                    case rel => exact ⟨by rw [hwx], hBa⟩
                  · have hwx : wantB x = zero64 := by simp [wantB, hx0]
                    go_wp2_with fail
                    go_meet
                    case rel => exact ⟨by rw [hwx], Below.refl _ _⟩
                case rest =>
                  obtain ⟨rfl, hBx⟩ := hcut
                  have hBx' := hBz.trans (hBx.mono hBz.size)
                  have hDx := hD.below hBx'
                  have hBw := hB.trans (hBx'.mono hB.size)
                  go_wp2_with fail
                  refine (read_good hDx hd (k := k) (by rw [hSn]; exact hk) hnow).mono ?_
                  rintro e w5 ⟨v, gv, rfl, hv, hgv, hD5, hC5⟩
                  have hst := run_string hv
                  have hB5 : Below w.heap.size w w5 := hBw.trans (hC5.belowB hBw.size (fun q hq h => by have := hF4 q h; omega))
                  have hA15 := (hA1.chg (M := fun _ => False) (Chg.of_below hBx') (fun h => h)).chg hC5 hb14
                  have hA25 := (hA2.chg (M := fun _ => False) (Chg.of_below hBx') (fun h => h)).chg hC5 hb24
                  have hG5 := hG.counted
                  clear hv hgv hC5 hG hA1 hA2 hD hB hBx hBz hDx hBx' hBw hnow
                  go_wp2_with fail
                  go_roundg (gk - 1)
                  case measure => have := hjd'.out; omega
                  case rel => exact ⟨k + 1, _, by have := hjd'.out; omega, by go_num, hD5, hB5, hG5, hA15, hA25⟩
          · have hk8 : ¬ (k : Int) < 8 := by omega
            clear hjd
            go_wp2_with fail
            go_meet
            case rel => exact ⟨S', hD, hB, hG.waiting⟩
      case rest =>
        obtain ⟨S', hD, hB, hw⟩ := hcut
        clear hA14 hA24 hG4 hD4 hB4 hcs3
        go_wp2_with fail
        refine (waiting_any hD).mono ?_
        rw [hw]
        rintro e w5 ⟨v, rfl, hv, hB5⟩
        obtain ⟨a5, n5, c5, rfl, hl5, _⟩ := hv
        obtain rfl : n5 = 0 := by simpa using hl5.symm
        have hB5' := hB.trans (hB5.mono hB.size)
        go_wp2_with fail
        refine (awake1_any _).mono ?_
        rintro e w6 ⟨rfl, hB6⟩
        go_wp2_with fail
        go_ret
        exact ⟨rfl, hB5'.trans (hB6.mono hB5'.size)⟩
end Go.Proofs.Ytbnoebdpbpjbkaa
