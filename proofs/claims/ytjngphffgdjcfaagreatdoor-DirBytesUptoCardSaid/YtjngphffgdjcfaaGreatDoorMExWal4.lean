/-
  The store's way home.
-/
import Derived.Test.YtjngphffgdjcfaaGreatDoorME5
import Derived.Test.YtjngphffgdjcfaaGreatDoorMExArr
import Derived.Deep.LoopGhost
import Derived.Deep.CutBlock
import Derived.Deep.RegionHeld
namespace Go.Proofs.YtjngphffgdjcfaaGreatDoor
open Go.RowKit Go.Lz

/-- A row of numbers that was made is a slice of ints. -/
theorem SortedPost.ints {w' : World} {base : Nat} {v : Value} {l : List Nat} (hrow : w'.ownsRow base 3 1 v l.length (l.map fun (k : Nat) => Value.int .i64 (k : Int))) (hl : l.length ≤ 1000000) :
    IntsAt w' (fun g => base ≤ g) v (l.map fun (k : Nat) => (k : Int)) := by
  rcases hrow.2 with ⟨rfl, h0⟩ | ⟨g, cap, cur, rfl, hg, hh, h4, h5, h6, h7⟩
  · exact ⟨none, 0, 0, rfl, by simpa using h0, by omega, .inl rfl⟩
  · refine ⟨_, _, _, rfl, by simp, by omega, .inr ⟨g, 0, rfl, by simpa using hg, lt_of_heap hh, fun j hj => ?_⟩⟩
    rw [Nat.zero_add, cell_of hh]
    have h8 : (cur.toList.take (l.length * 1))[j]? = (l.map fun (k : Nat) => Value.int .i64 (k : Int))[j]? := by rw [h7]
    rw [List.getElem?_take, if_pos (by omega)] at h8
    rw [← Array.getElem?_toList, h8]
    simp [List.getD, hj]

theorem keysF_length (f : Nat → Option Bytes) (n : Nat) : (keysF f n).length ≤ n := by
  have := List.length_filter_le (fun k => (f k).isSome) (List.range n)
  rwa [List.length_range] at this

theorem mem_keysF {f : Nat → Option Bytes} {n k : Nat} : k ∈ keysF f n ↔ k < n ∧ (f k).isSome = true := by simp [keysF]

section
variable {w : World} {p q : Nat} {D : DevS} {Fd Fl : Nat → Prop} {m c n : Nat} {f : Nat → Option Bytes} {vf : Nat → Option Value}

/-- What a device's row of calls leaves: an error's number, and the device. -/
def RowRel (w1 wr : World) (q : Nat) (D0 D : DevS) (Fd : Nat → Prop) (L : List (Int × Bytes)) (j : Nat) : Prop :=
  ∃ Fd', DevAt Tryz.prog wr q D Fd' ∧ (∀ k, Fd' k → Fd k ∨ w1.heap.size ≤ k) ∧ Chg Fd w1 wr ∧ D0.writeL (L.take j) = (0, D)

set_option maxRecDepth 100000 in
set_option maxHeartbeats 1000000 in
theorem home_any (hp : w.cell? ⟨p, 0, none⟩ = some (Dp q)) (hpl : p < w.heap.size) (hpF : ¬ Fd p) (hD : DevAt Tryz.prog w q D Fd) (hm : SecsIn Tryz.prog w m f Fl vf c) (hdis : ∀ k, Fl k → ¬ Fd k) (hn : n ≤ 8192)
    (hb : ∀ k b, f k = some b → b.length = 64 ∧ k < n) : Calls Tryz.prog 82 #[Dptr p, .map (some m)] w (ErrPost w q (D.home f n) Fd) := by
  have hkey : ∀ k, (f k).isSome = true → k < n := fun k hk => by
    obtain ⟨b, e⟩ := Option.isSome_iff_exists.1 hk
    exact (hb k b e).2
  have hkl : (keysF f n).length ≤ 8192 := Nat.le_trans (keysF_length f n) hn
  have cS := sortedB_any hm.map (hm.bound hkey) (Nat.le_trans hn (by omega)) rfl
  rw [hm.keys] at cS
  have hlt := hD.lt
  go_enter Tryz.func82, Tryz.ntmps82
  go_wp2_with (first
    | (go_at_call 98; refine (keysB_any _ _).mono ?_; rintro e w' ⟨rfl, rfl⟩)
    | (go_at_call 97; refine cS.mono ?_; rintro e w1 ⟨v, rfl, hrow, hnil, hb1⟩))
  have hB : Below w.heap.size w w1 := ((Below.refl _ w).alloc (Nat.le_refl _) _).trans (hb1.mono (by simp))
  have hI := SortedPost.ints hrow (Nat.le_trans hkl (by omega))
  obtain ⟨a1, n1, c1, rfl, hl1, hn1, hcs1⟩ := id hI
  have hnk : n1 = (keysF f n).length := by rw [← hl1, List.length_map]
  have hm1 := hm.chg (M := fun _ => False) (Chg.of_below hB) (fun _ _ h => h)
  have hD1 := hD.below hB
  have c0 : w1.cell? ⟨p, 0, none⟩ = some (Dp q) := (hB.cell hpl).trans hp
  have hs1 := hB.size
  clear hrow hnil hb1 cS hI hm hD hp
  go_wp2_with fail
  go_loopg [13] n1 (fun d jv wr => ∃ (j : Nat) (D' : DevS), j + d = n1 ∧ jv = .int .i64 (j : Int) ∧ RowRel w1 wr q D D' Fd (homeL f n) j)
  case atStart => exact ⟨0, D, by omega, rfl, Fd, hD1, fun k h => .inl h, Chg.refl _ _, rfl⟩
  case round =>
    obtain ⟨j, D', hjd, rfl, Fd', hDr, hFd, hC, hL⟩ := hrel
    have hjd' : Hid (j + gk = n1) := hjd
    have hpr : wr.cell? ⟨p, 0, none⟩ = some (Dp q) := (hC.cell (p := ⟨p, 0, none⟩) (by show p < _; omega) hpF).trans c0
    by_cases hj : j < n1
    · rcases hcs1 with h0 | ⟨bk, off, rfl, hbk, hbl, hc⟩
      · omega
      have hbk' : w.heap.size ≤ bk := by have h9 := hbk; simp at h9; omega
      obtain ⟨k, hk⟩ : ∃ k, (keysF f n)[j]? = some k := ⟨_, List.getElem?_eq_getElem (by omega)⟩
      have hkm := mem_keysF.1 (List.mem_of_getElem? hk)
      obtain ⟨b, hfb⟩ := Option.isSome_iff_exists.1 hkm.2
      obtain ⟨hb64, hkn⟩ := hb k b hfb
      have hLj : (homeL f n)[j]? = some (300 + (k : Int), b) := by simp [homeL, hk, hfb]
      have hcx : wr.cell? ⟨bk, off + j, none⟩ = some (.int .i64 (k : Int)) := by
        rw [hC.cell (p := ⟨bk, off + j, none⟩) hbl (fun h => by have := hlt bk h; omega), hc j hj]
        simp [List.getD, hk]
      have hmr := hm1.chg hC hdis
      obtain ⟨v, hv⟩ : ∃ v, vf k = some v := Option.isSome_iff_exists.1 (by rw [hmr.some_iff]; exact hkm.2)
      obtain ⟨b', hb', hdat⟩ := hmr.dat k v hv
      obtain rfl : b = b' := Option.some.inj (hfb.symm.trans hb')
      have hlook := (hmr.map.chg ((Chg.refl (fun _ => False) wr).drew) (fun h => h)).look1 (P := Tryz.prog) Tryz.underlying3 Tryz.underlying125 (zeroBytes _) (by omega : k < 9223372036854775808) hv
      have hjn' : (j : Int) < (n1 : Int) := by omega
      have hwr : IntKind.i64.wrap (300 + (k : Int)) = 300 + (k : Int) := by rw [IntKind.wrap_i64]; omega
      have hsr := hC.size
      have hL1 := DevS.writeL_step hL hLj
      have hL2 := DevS.writeL_stop hL hLj
      clear hc hjd hk hkm hLj
      go_upto_region 4 with fail
      go_cut [7] from 14 to 30 (fun ev wx => ev = .int .i64 (D'.write (300 + (k : Int)) b).1 ∧ ∃ Fd'', DevAt Tryz.prog wx q (D'.write (300 + (k : Int)) b).2 Fd'' ∧ (∀ k, Fd'' k → Fd k ∨ w1.heap.size ≤ k) ∧ Chg Fd w1 wx)
      case first =>
        go_region_with ((go_at_call 99; refine (write_any (hDr.chg (M := fun _ => False) ((Chg.refl _ wr).drew) (fun _ _ h => h)) (hdat.chg (M := fun _ => False) ((Chg.refl _ wr).drew) (fun _ _ h => h)).src _).mono ?_; rintro e w4 ⟨rfl, hD4, hC4⟩))
        all_goals
          go_wp2_with fail
          go_meet
          case rel =>
            refine ⟨rfl, _, hD4, fun k hk => hk.elim (hFd k) (fun h => .inr (Nat.le_trans hsr h.1)), hC.trans ((Chg.refl _ wr).drew.trans hC4 (fun _ _ h => h)) (fun k hk h => (hFd k h).elim id (fun h2 => by omega))⟩
      case rest =>
        obtain ⟨rfl, Fd2, hD2, hFd2, hC2⟩ := hcut
        obtain ⟨r, hr⟩ : ∃ r, r = D'.write (300 + (k : Int)) b := ⟨_, rfl⟩
        rw [← hr] at hD2 hL1 hL2 ⊢
        clear hr hDr hC hmr hdat hlook hcx hpr hwr
        by_cases hr0 : r.1 = 0
        · rw [hr0]
          go_wp2_with fail
          go_roundg (gk - 1)
          case measure => have := hjd'.out; omega
          case rel => exact ⟨j + 1, r.2, by have := hjd'.out; omega, by go_num, Fd2, hD2, hFd2, hC2, by rw [hL1]; exact Prod.ext hr0 rfl⟩
        · have hr1 : (r.1 != 0) = true := by simpa using hr0
          have hhome : D.home f n = r := by simp only [DevS.home]; rw [hL2 hr0, seqD_fail hr0, seqD_fail hr0, seqD_fail hr0]
          go_wp2_with fail
          go_ret
          rw [hhome]
          exact ⟨rfl, hD2.mono (fun k hk => (hFd2 k hk).imp id fun h => ⟨Nat.le_trans hs1 h, hD2.lt k hk⟩) (fun k hk => hk.elim (fun h => Nat.lt_of_lt_of_le (hlt k h) (Nat.le_trans hs1 hC2.size)) (·.2)), (Chg.of_below hB).trans hC2 (fun _ _ h => h)⟩
    · have hjn' : ¬ (j : Int) < (n1 : Int) := by omega
      have hLa : D.writeL (homeL f n) = (0, D') := by rw [← hL, List.take_of_length_le (by simp [homeL]; omega)]
      have hsr := hC.size
      clear hjd
      go_wp2_with fail
      refine (flush_any hDr).mono ?_
      rintro e w4 ⟨rfl, hD4, hC4⟩
      have hF4 : ∀ k, ext Fd' wr w4 k → Fd k ∨ w1.heap.size ≤ k := fun k hk => hk.elim (hFd k) (fun h => .inr (Nat.le_trans hsr h.1))
      have hC14 : Chg Fd w1 w4 := hC.trans hC4 (fun k hk h => (hFd k h).elim id (fun h2 => by omega))
      obtain ⟨r, hr⟩ : ∃ r, r = D'.flush := ⟨_, rfl⟩
      rw [← hr] at hD4 ⊢
      have hhome : D.home f n = seqD (seqD r fun D => D.write 0 (headB 0)) DevS.flush := by simp only [DevS.home]; rw [hLa, seqD_zero, ← hr]
      have hhome' : Hid (D.home f n = seqD (seqD r fun D => D.write 0 (headB 0)) DevS.flush) := hhome
      clear hr hhome hDr hC hC4 hL hLa hFd hcs1 hm1
      by_cases hr0 : r.1 = 0
      · have c4 : w4.cell? ⟨p, 0, none⟩ = some (Dp q) := (hC14.cell (p := ⟨p, 0, none⟩) (by show p < _; omega) hpF).trans c0
        rw [hr0]
        have hp4 : p < w4.heap.size := Nat.lt_of_lt_of_le hpl (Nat.le_trans hs1 hC14.size)
        go_upto_region 10 with fail
        go_cut [8] from 31 (fun ev wx => ev = .int .i64 (r.2.write 0 (headB 0)).1 ∧ ∃ F5, DevAt Tryz.prog wx q (r.2.write 0 (headB 0)).2 F5 ∧ (∀ k, F5 k → Fd k ∨ w1.heap.size ≤ k) ∧ Chg Fd w1 wx)
        case first =>
          go_region_held (fun W => W.cell? ⟨p, 0, none⟩ = some (Dp q)) (first | exact c4 | exact c5 | exact c6) (first
            | (go_at_call 101; refine (head_any _ _).mono ?_; rintro e w5 ⟨v, g, rfl, hdat, hg, hb5⟩; have hb5' := undrew hb5; have c5 := (hb5'.cell (p := ⟨p, 0, none⟩) hp4).trans c4)
            | (go_at_call 99; refine (write_any (hD4.below hb5') hdat.src _).mono ?_; rintro e w6 ⟨rfl, hD6, hC6⟩; have c6 := (hC6.cell (p := ⟨p, 0, none⟩) (Nat.lt_of_lt_of_le hp4 hb5'.size) (fun h => (hF4 _ h).elim hpF (fun h => by have h9 : w1.heap.size ≤ p := h; omega))).trans c5))
          all_goals
            go_wp2_with fail
            go_meet
            case rel =>
              have hs4 := hC14.size
              have hs5 := hb5'.size
              exact ⟨rfl, _, hD6, fun k hk => hk.elim (hF4 k) (fun h => .inr (Nat.le_trans hs4 (Nat.le_trans hs5 h.1))), (hC14.below hb5').trans hC6 (fun k hk h => (hF4 k h).elim id (fun h2 => by omega))⟩
        case rest =>
          obtain ⟨rfl, F5, hD5, hF5, hC5⟩ := hcut
          obtain ⟨r5, hr5⟩ : ∃ r5, r5 = r.2.write 0 (headB 0) := ⟨_, rfl⟩
          rw [← hr5] at hD5 ⊢
          have c5 : wc.cell? ⟨p, 0, none⟩ = some (Dp q) := (hC5.cell (p := ⟨p, 0, none⟩) (by show p < _; omega) hpF).trans c0
          have hr5' : Hid (r5 = r.2.write 0 (headB 0)) := hr5
          clear hr5 hD4 hF4 hC14 c4 hp4
          by_cases hr6 : r5.1 = 0
          · rw [hr6]
            go_wp2_with fail
            refine (flush_any hD5).mono ?_
            rintro e w6 ⟨rfl, hD6, hC6⟩
            have hs5 := hC5.size
            go_wp2_with fail
            go_ret
            rw [hhome'.out, seqD_ok hr0, ← hr5'.out, seqD_ok hr6]
            exact ⟨rfl, hD6.mono (fun k hk => (hk.elim (hF5 k) (fun h => .inr (Nat.le_trans hs5 h.1))).imp id fun h => ⟨Nat.le_trans hs1 h, hD6.lt k hk⟩) (fun k hk => hk.elim (fun h => Nat.lt_of_lt_of_le (hlt k h) (Nat.le_trans hs1 (Nat.le_trans hs5 hC6.size))) (·.2)), (Chg.of_below hB).trans (hC5.trans hC6 (fun k hk h => (hF5 k h).elim id (fun h2 => by omega))) (fun _ _ h => h)⟩
          · have hr7 : (r5.1 == 0) = false := by simpa using hr6
            go_wp2_with fail
            go_ret
            rw [hhome'.out, seqD_ok hr0, ← hr5'.out, seqD_fail hr6]
            exact ⟨rfl, hD5.mono (fun k hk => (hF5 k hk).imp id fun h => ⟨Nat.le_trans hs1 h, hD5.lt k hk⟩) (fun k hk => hk.elim (fun h => Nat.lt_of_lt_of_le (hlt k h) (Nat.le_trans hs1 hC5.size)) (·.2)), (Chg.of_below hB).trans hC5 (fun _ _ h => h)⟩
      · have hr1 : (r.1 != 0) = true := by simpa using hr0
        have hr2 : (r.1 == 0) = false := by simpa using hr0
        go_wp2_with fail
        go_ret
        rw [hhome'.out, seqD_fail hr0, seqD_fail hr0]
        exact ⟨rfl, hD4.mono (fun k hk => (hF4 k hk).imp id fun h => ⟨Nat.le_trans hs1 h, hD4.lt k hk⟩) (fun k hk => hk.elim (fun h => Nat.lt_of_lt_of_le (hlt k h) (Nat.le_trans hs1 hC14.size)) (·.2)), (Chg.of_below hB).trans hC14 (fun _ _ h => h)⟩
end
end Go.Proofs.YtjngphffgdjcfaaGreatDoor
