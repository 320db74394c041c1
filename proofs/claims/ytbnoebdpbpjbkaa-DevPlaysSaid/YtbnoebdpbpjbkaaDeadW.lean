/-
  WalDead, walked: it answers true at every fuse and every script.
-/
import Derived.Test.YtbnoebdpbpjbkaaLaw4d
import Derived.Test.YtbnoebdpbpjbkaaBits
import Derived.Deep.RegionHeld
namespace Go.Lz
open Go.RowKit

theorem keysF_supp {f : Nat → Option Bytes} {m : Nat} (h : ∀ k, (f k).isSome = true → k < m) (n : Nat) : (keysF f n).length ≤ m := by
  have h2 : (keysF f n).length ≤ min n m := by
    induction n with
    | zero => simp [keysF]
    | succ n ih =>
      have e : keysF f (n + 1) = keysF f n ++ (if (f n).isSome then [n] else []) := by
        unfold keysF
        rw [List.range_succ, List.filter_append]
        congr 1
        by_cases hn : (f n).isSome = true <;> simp [hn]
      rw [e, List.length_append]
      by_cases hn : (f n).isSome = true
      · have := h n hn
        simp [hn]
        omega
      · simp [hn]
        omega
  omega

/-- Between two calls of WalDead: the store lives, or its device has died. -/
def DeadInv (S : WalS) (j : Nat) : Prop :=
  (∃ h c d, Rec S 40 c d h ∧ c ≤ j ∧ (∀ k, (S.now k).isSome = true → k < 16) ∧ S.dev.dead = false) ∨ S.dev.dead = true

/-- A call went well; or the device is dead. -/
def DeadStep (S : WalS) (j : Nat) (r : Int × WalS) : Prop := DeadInv r.2 (j + 1) ∧ (r.1 = 0 ∧ S.dev.dead = false ∨ r.1 = 50 ∧ r.2.dev.dead = true)

theorem Rec.alive {S : WalS} {n c d : Nat} {h : Nat → Nat → Bytes} (r : Rec S n c d h) : S.dev.dead = false := by
  obtain ⟨g0, hl, _⟩ := r.ex
  exact hl.ddead

section
variable {S : WalS} {j : Nat}
theorem deadWrite (hI : DeadInv S j) {k : Nat} (hk : k < 16) {b : Bytes} (hb : b.length = 64) : DeadStep S j (S.write (k : Int) b) := by
  rcases hI with ⟨h, c, d, r, hc, hs, hd⟩ | hd
  · have hN : (keysF S.now 40).length < 128 := Nat.lt_of_le_of_lt (keysF_supp hs 40) (by omega)
    obtain ⟨e1, r1⟩ := r.write (k := k) (b := b) (by omega) hb (.inr hN)
    rw [e1]
    refine ⟨.inl ⟨h, c, d, r1, by omega, fun i hi => ?_, hd⟩, .inl ⟨rfl, hd⟩⟩
    by_cases e : i = k
    · omega
    · simp only [upd_other _ e] at hi
      exact hs i hi
  · have e : S.write (k : Int) b = (50, S) := by
      have hw : S.wrong (k : Int) = 50 := by simp [WalS.wrong, WalS.isDead, hd]
      unfold WalS.write
      rw [hw, if_pos (by decide)]
    rw [e]
    exact ⟨.inr hd, .inr ⟨rfl, hd⟩⟩
theorem deadCommit (hI : DeadInv S j) (hj : j < 1000) : DeadStep S j S.commit := by
  rcases hI with ⟨h, c, d, r, hc, hs, hd⟩ | hd
  · rcases r.commit (by omega) (fun i => if i ≤ c then h i else over S.now (h c)) (fun i hi => if_pos hi) (fun k _ => congrFun (if_neg (by omega)) k) with ⟨e2, ⟨d2, hd2, r2⟩, n2, w2⟩ | ⟨e2, hd2, _⟩
    · exact ⟨.inl ⟨_, _, _, r2, by omega, fun k hk => by (rw [n2] at hk; cases hk), r2.alive⟩, .inl ⟨e2, hd⟩⟩
    · exact ⟨.inr hd2, .inr ⟨e2, hd2⟩⟩
  · have e : S.commit = (50, S) := if_pos (by simp [WalS.isDead, hd])
    rw [e]
    exact ⟨.inr hd, .inr ⟨rfl, hd⟩⟩
theorem deadSync (hI : DeadInv S j) : DeadStep S j S.sync := by
  rcases hI with ⟨h, c, d, r, hc, hs, hd⟩ | hd
  · rcases r.sync with ⟨e3, r3, n3, l3, _, w3⟩ | ⟨e2, hd2, _⟩
    · exact ⟨.inl ⟨_, _, _, r3, by omega, fun k hk => hs k (by rw [n3] at hk; exact hk), r3.alive⟩, .inl ⟨e3, hd⟩⟩
    · exact ⟨.inr hd2, .inr ⟨e2, hd2⟩⟩
  · have e : S.sync = (50, { S with dead := true }) := if_pos (by simp [WalS.isDead, hd])
    rw [e]
    exact ⟨.inr hd, .inr ⟨rfl, hd⟩⟩
end
end Go.Lz
namespace Go.Proofs.Ytbnoebdpbpjbkaa
open Go.RowKit Go.Lz

set_option maxRecDepth 100000 in
set_option maxHeartbeats 1000000 in
theorem walDead_any {w : World} {G : Nat → Prop} {v : Value} {l : List Int} (fuse : Int) (hv : IntsAt w G v l) :
    Calls Try.prog 10 #[.int .i64 fuse, v] w fun e w' => e = .returned (.bool true) ∧ Below w.heap.size w w' := by
  obtain ⟨a, n1, cp, rfl, hl, hn1, hcs⟩ := hv
  have hb31 := and31
  have hb15 := and15
  have hb3 := and3
  have hI0 : DeadInv { newS 340 with dev := (newS 340).dev.fused (fuse % 32) } 0 := by
    obtain ⟨_, r0, w0, n0⟩ := new_rec (n := 340) (by omega) (by omega) (fun _ _ => zero64) (fun k _ => rfl)
    exact .inl ⟨_, 0, 0, r0.fused (by omega), Nat.le_refl _, fun k hk => (by
      have hk' : ((newS 340).now k).isSome = true := hk
      rw [n0] at hk'
      cases hk'), r0.alive⟩
  go_enter Try.func10, Try.ntmps10
  go_wp2_with fail
  refine (lw4Open_any w 340 (by omega) (by omega)).mono ?_
  rintro e w1 ⟨p, q, rfl, hO1⟩
  go_wp2_with fail
  refine (fuse4 hO1 (fuse % 32) (by omega)).mono ?_
  rintro e w2 ⟨rfl, hO2, hs2⟩
  generalize ({ newS 340 with dev := (newS 340).dev.fused (fuse % 32) } : WalS) = S0 at hI0 hO2
  clear hO1 hs2
  go_upto_block 0 with fail
  go_cut [7] from 30 to 84 (fun _ wr => ∃ S j, DeadInv S j ∧ Own w wr (TStore p q S) noLocals)
  case first =>
    go_wp2_with fail
    go_loopg [7] 30 (fun g iv wr => ∃ (j : Nat) (S : WalS), j + g = 30 ∧ iv = .int .i64 (j : Int) ∧ DeadInv S j ∧ Own w wr (TStore p q S) noLocals)
    case atStart => exact ⟨0, _, rfl, rfl, hI0, hO2⟩
    case round =>
      obtain ⟨j, S, hjd, rfl, hI, hO⟩ := hrel
      have hjd' : Hid (j + gk = 30) := hjd
      by_cases hin : j < n1 ∧ j < 30
      · obtain ⟨hjn, hj30⟩ := hin
        rcases hcs with h0 | ⟨b, off, rfl, _, hbl, hc⟩
        · omega
        obtain ⟨x, hx⟩ : ∃ x, x = l.getD j 0 := ⟨_, rfl⟩
        have hcx : wr.cell? ⟨b, off + j, none⟩ = some (.int .i64 x) := by rw [hx]; exact (hO.base.cell (p := ⟨b, off + j, none⟩) hbl).trans (hc j hjn)
        have hcxH : Hid (∀ W : World, Below w.heap.size w W → W.cell? ⟨b, off + j, none⟩ = some (.int .i64 x)) := fun W hW => by rw [hx]; exact (hW.cell (p := ⟨b, off + j, none⟩) hbl).trans (hc j hjn)
        have hjn' : (j : Int) < (n1 : Int) := by omega
        have hj30' : (j : Int) < 30 := by omega
        clear hx hc hjd
        go_wp2_with fail
        refine (dead4 hO).mono ?_
        rintro e w' ⟨rfl, rfl⟩
        have hx4 : x % 4 = 0 ∨ x % 4 = 1 ∨ x % 4 = 2 ∨ x % 4 = 3 := by omega
        rcases hx4 with hx4 | hx4 | hx4 | hx4
        · have hwrp : IntKind.i64.wrap ((j : Int) + 1) = (j : Int) + 1 := by rw [IntKind.wrap_i64]; omega
          have hcd := hcxH.out _ hO.base.drew
          obtain ⟨K, hK⟩ : ∃ K : Nat, x / 4 % 16 = (K : Int) := ⟨(x / 4 % 16).toNat, by omega⟩
          have hK16 : K < 16 := by omega
          go_upto_region 14 with fail
          go_region_held (fun W => W.cell? ⟨b, off + j, none⟩ = some (.int .i64 x)) (first | exact hcd | exact hcx2 | exact hcx3) (first
            | (go_at_call 41; refine (sector_any _ _).mono ?_; rintro e wa ⟨va, ga, rfl, hva, hga, hBa⟩; have hBa' := undrew hBa; have hOa := hO.below (keepsStore _ _ _) hBa'; have hcx2 := hcxH.out _ hOa.base)
            | (go_at_call 40; refine (write4 hOa hva.src (K : Int)).mono ?_; rintro e wd ⟨rfl, hOd, hsd⟩; have hcx3 := hcxH.out _ hOd.base))
          all_goals
            have hst := deadWrite hI hK16 (b := bytesOf ((j : Int) + 1) 64) (bytesOf_length _ _)
            clear hx4 hcxH hwrp hK hva hcx hcd
            rcases hst.2 with ⟨hr, hdd⟩ | ⟨hr, hdd⟩
            · rw [hr, hdd]
              go_wp2_with fail
              go_roundg (gk - 1)
              case measure => have := hjd'.out; omega
              case rel => exact ⟨j + 1, _, by have := hjd'.out; omega, by go_num, hst.1, hOd⟩
            · rw [hr]
              have cd := dead4 hOd
              simp only [hdd] at cd
              have hdb : S.dev.dead = true ∨ S.dev.dead = false := by cases S.dev.dead <;> simp
              rcases hdb with hdb | hdb
              all_goals
                rw [hdb]
                go_wp2_with fail
                refine cd.mono ?_
                rintro e w' ⟨rfl, rfl⟩
                go_wp2_with fail
                go_roundg (gk - 1)
                case measure => have := hjd'.out; omega
                case rel => exact ⟨j + 1, _, by have := hjd'.out; omega, by go_num, hst.1, hOd⟩
        · have hwrp : IntKind.i64.wrap ((j : Int) + 1) = (j : Int) + 1 := by rw [IntKind.wrap_i64]; omega
          have hcd := hcxH.out _ hO.base.drew
          obtain ⟨K, hK⟩ : ∃ K : Nat, x / 4 % 16 = (K : Int) := ⟨(x / 4 % 16).toNat, by omega⟩
          have hK16 : K < 16 := by omega
          go_upto_region 14 with fail
          go_region_held (fun W => W.cell? ⟨b, off + j, none⟩ = some (.int .i64 x)) (first | exact hcd | exact hcx2 | exact hcx3) (first
            | (go_at_call 41; refine (sector_any _ _).mono ?_; rintro e wa ⟨va, ga, rfl, hva, hga, hBa⟩; have hBa' := undrew hBa; have hOa := hO.below (keepsStore _ _ _) hBa'; have hcx2 := hcxH.out _ hOa.base)
            | (go_at_call 40; refine (write4 hOa hva.src (K : Int)).mono ?_; rintro e wd ⟨rfl, hOd, hsd⟩; have hcx3 := hcxH.out _ hOd.base))
          all_goals
            have hst := deadWrite hI hK16 (b := bytesOf ((j : Int) + 1) 64) (bytesOf_length _ _)
            clear hx4 hcxH hwrp hK hva hcx hcd
            rcases hst.2 with ⟨hr, hdd⟩ | ⟨hr, hdd⟩
            · rw [hr, hdd]
              go_wp2_with fail
              go_roundg (gk - 1)
              case measure => have := hjd'.out; omega
              case rel => exact ⟨j + 1, _, by have := hjd'.out; omega, by go_num, hst.1, hOd⟩
            · rw [hr]
              have cd := dead4 hOd
              simp only [hdd] at cd
              have hdb : S.dev.dead = true ∨ S.dev.dead = false := by cases S.dev.dead <;> simp
              rcases hdb with hdb | hdb
              all_goals
                rw [hdb]
                go_wp2_with fail
                refine cd.mono ?_
                rintro e w' ⟨rfl, rfl⟩
                go_wp2_with fail
                go_roundg (gk - 1)
                case measure => have := hjd'.out; omega
                case rel => exact ⟨j + 1, _, by have := hjd'.out; omega, by go_num, hst.1, hOd⟩
        · go_wp2_with fail
          refine (commit4 hO).mono ?_
          rintro e wd ⟨rfl, hOd, hsd⟩
          have hst := deadCommit hI (by omega)
          clear hx4 hcxH
          rcases hst.2 with ⟨hr, hdd⟩ | ⟨hr, hdd⟩
          · rw [hr, hdd]
            go_wp2_with fail
            go_roundg (gk - 1)
            case measure => have := hjd'.out; omega
            case rel => exact ⟨j + 1, _, by have := hjd'.out; omega, by go_num, hst.1, hOd⟩
          · rw [hr]
            have cd := dead4 hOd
            simp only [hdd] at cd
            have hdb : S.dev.dead = true ∨ S.dev.dead = false := by cases S.dev.dead <;> simp
            rcases hdb with hdb | hdb
            all_goals
              rw [hdb]
              go_wp2_with fail
              refine cd.mono ?_
              rintro e w' ⟨rfl, rfl⟩
              go_wp2_with fail
              go_roundg (gk - 1)
              case measure => have := hjd'.out; omega
              case rel => exact ⟨j + 1, _, by have := hjd'.out; omega, by go_num, hst.1, hOd⟩
        · go_wp2_with fail
          refine (sync4 hO).mono ?_
          rintro e wd ⟨rfl, hOd, hsd⟩
          have hst := deadSync hI
          clear hx4 hcxH
          rcases hst.2 with ⟨hr, hdd⟩ | ⟨hr, hdd⟩
          · rw [hr, hdd]
            go_wp2_with fail
            go_roundg (gk - 1)
            case measure => have := hjd'.out; omega
            case rel => exact ⟨j + 1, _, by have := hjd'.out; omega, by go_num, hst.1, hOd⟩
          · rw [hr]
            have cd := dead4 hOd
            simp only [hdd] at cd
            have hdb : S.dev.dead = true ∨ S.dev.dead = false := by cases S.dev.dead <;> simp
            rcases hdb with hdb | hdb
            all_goals
              rw [hdb]
              go_wp2_with fail
              refine cd.mono ?_
              rintro e w' ⟨rfl, rfl⟩
              go_wp2_with fail
              go_roundg (gk - 1)
              case measure => have := hjd'.out; omega
              case rel => exact ⟨j + 1, _, by have := hjd'.out; omega, by go_num, hst.1, hOd⟩
      · by_cases hjn : j < n1
        · have hj30 : ¬ (j : Int) < 30 := by omega
          have hjn' : (j : Int) < (n1 : Int) := by omega
          clear hjd hin
          go_wp2_with fail
          go_meet
          case rel => exact ⟨S, j, hI, hO⟩
        · have hjn' : ¬ (j : Int) < (n1 : Int) := by omega
          clear hjd hin
          go_wp2_with fail
          go_meet
          case rel => exact ⟨S, j, hI, hO⟩
  case rest =>
    obtain ⟨S, j, hI, hO⟩ := hcut
    have cd := dead4 hO
    cases hdd : S.dev.dead with
    | false =>
      rw [hdd] at cd
      go_wp2_with fail
      refine cd.mono ?_
      rintro e w' ⟨rfl, rfl⟩
      go_wp2_with fail
      refine (awake4_any _).mono ?_
      rintro e wz ⟨rfl, hBz⟩
      go_wp2_with fail
      go_ret
      exact ⟨rfl, hO.base.trans (hBz.mono hO.size)⟩
    | true =>
      rw [hdd] at cd
      have hwr : S.wrong 0 = 50 := by simp [WalS.wrong, WalS.isDead, hdd]
      go_wp2_with fail
      refine cd.mono ?_
      rintro e w' ⟨rfl, rfl⟩
      go_wp2_with fail
      refine (read4 hO 0).mono ?_
      rintro e w' (⟨_, rfl, rfl⟩ | ⟨h0, _⟩)
      rotate_left
      · rw [hwr] at h0; cases h0
      rw [hwr]
      have hn3 : 300 < S.dev.n := by
        obtain ⟨F, hS, _⟩ := hO.step
        exact (StoreAt.ok hS).n
      have ho : S.dev.opened = (50, S.dev) := by
        unfold DevS.opened
        rw [if_neg (by omega), if_pos hdd]
      have ho3 : (DevS.new 300).opened = (1, DevS.new 300) := if_pos (Nat.le_refl 300)
      have hop := open1 (toDev hO)
      rw [ho] at hop
      clear ho cd hI
      go_wp2_with fail
      refine hop.mono ?_
      rintro e w2 (⟨h0, _⟩ | ⟨_, rfl, hO2, hs2⟩)
      · cases h0
      go_wp2_with fail
      refine (wopen_nil _).mono ?_
      rintro e w' ⟨rfl, rfl⟩
      go_wp2_with fail
      refine (new_ok _ 300 (by omega)).mono ?_
      rintro e w3 ⟨x3, rfl, hD3, hB3⟩
      have hop3 := wopen_any hD3
      unfold OpenPost at hop3
      rw [ho3] at hop3
      go_wp2_with fail
      refine hop3.mono ?_
      rintro e w4 (⟨h0, _⟩ | ⟨_, rfl, hD4, hC4⟩)
      · cases h0
      have hb3 := hO2.base.trans (hB3.mono hO2.size)
      have hb4 : Below w.heap.size w w4 := hb3.trans (hC4.belowB hb3.size (fun k hk h => by have := h.1; have := hO2.size; omega))
      go_wp2_with fail
      refine (awake4_any _).mono ?_
      rintro e wz ⟨rfl, hBz⟩
      go_wp2_with fail
      go_ret
      exact ⟨rfl, hb4.trans (hBz.mono hb4.size)⟩
end Go.Proofs.Ytbnoebdpbpjbkaa
