/-
  WalLasts, walked: it answers true at every script, every fuse, every crash.
-/
import Derived.Test.YtbnoebdpbpjbkaaRiseW
namespace Go.Proofs.Ytbnoebdpbpjbkaa
open Go.RowKit Go.Lz

set_option maxRecDepth 100000 in
set_option maxHeartbeats 4000000 in
theorem walLasts_any {w : World} {G : Nat → Prop} {v v1 v2 : Value} {os : List OpR} {l1 l2 : List Int} (hv : OpsAt w G v os) (fuse : Int) (hfuse : i64 fuse) (flip : Bool) (hv1 : IntsAt w G v1 l1) (hv2 : IntsW w G v2 l2) :
    Calls Try.prog 13 #[v, .int .i64 fuse, .bool flip, v1, v2] w fun e w' => e = .returned (.bool true) ∧ Below w.heap.size w w' := by
  obtain ⟨_, r0, w0, n0⟩ := new_rec (n := 340) (by omega) (by omega) (fun _ => kindsB fun _ => 0) (fun k _ => by simp [kindsB, wantB])
  have hvH : Hid _ := Lib.hid hv
  have hv1H : Hid _ := Lib.hid hv1
  have hv2H : Hid _ := Lib.hid hv2
  obtain ⟨a0, k0, c0, rfl, _⟩ := id hv
  obtain ⟨a1, k1, c1, rfl, _⟩ := id hv1
  obtain ⟨a2, n2, c2, rfl, hl2, hn2, hcs⟩ := id hv2.1
  clear hv hv1 hv2
  have hf0 := hfuse.2
  go_enter Try.func13, Try.ntmps13
  go_wp2_with fail
  refine (lw4Open_any w 340 (by omega) (by omega)).mono ?_
  rintro e w1 ⟨p, q, rfl, hO1⟩
  have cl := life_any hO1 (f := fun _ => 0) r0 n0 hvH.out fuse hf0
  rw [arr16] at cl
  clear n0
  go_wp2_with fail
  refine cl.mono ?_
  rintro e w2 ⟨sv, st, least, S2, rfl, hR2, hfal, hlen⟩
  clear cl hO1
  go_wp2_with fail
  refine (risen_any hR2.toDev hfal hlen flip hv1H.out hv2H.out).mono ?_
  rintro e w3 ⟨c, pu, i, Su, rfl, hR3, hi, hru, hnu⟩
  obtain ⟨gs, cap, hsv, _⟩ := hR3.addr
  subst hsv
  have hnuH : Hid _ := Lib.hid hnu
  have hi0 : 0 ≤ (i : Int) := by omega
  clear hR2 hfal hnu
  go_upto_if 51 with fail
  obtain ⟨bt, hbt⟩ : ∃ bt, bt = decide (0 < n2) := ⟨_, rfl⟩
  rw [← hbt]
  have hbtH : Hid _ := Lib.hid hbt
  clear hbt
  go_cut [1] from 52 to 54 (fun fv wx => ∃ fuse' : Int, fv = .int .i64 fuse' ∧ fuse' ≤ 9223372036854775807 ∧ wx = w3)
  case first =>
    cases bt with
    | true =>
      have h0 := of_decide_eq_true hbtH.out.symm
      have h0' : (0 : Int) < (n2 : Int) := by omega
      rcases hcs with h9 | ⟨b, off, rfl, _, hbl, hc⟩
      · omega
      have hx := hv2H.out.at_ (j := 0) (by omega)
      obtain ⟨x, hx'⟩ : ∃ x, x = l2.getD 0 0 := ⟨_, rfl⟩
      have hcx := hc 0 h0
      rw [← hx'] at hx hcx
      have hcx' := (hR3.rest.base.cell (p := ⟨b, off + 0, none⟩) hbl).trans hcx
      rw [Nat.add_zero] at hcx'
      clear hc hcx hx'
      go_wp2_with fail
      go_meet
      case rel => exact ⟨x, rfl, hx, rfl⟩
    | false =>
      go_wp2_with fail
      go_meet
      case rel => exact ⟨fuse, rfl, hf0, rfl⟩
  case rest =>
    obtain ⟨fuse', rfl, hf1, rfl⟩ := hcut
    clear hcs hl2
    have hrange := states_range hR3 rfl hi
    have hi' : (i : Int) < (st.length : Int) := by omega
    obtain ⟨fi, hfi⟩ : ∃ fi, fi = st.getD i fun _ => 0 := ⟨_, rfl⟩
    have hk : hist st i = kindsB fi := by rw [hfi]; rfl
    rw [hk] at hru
    rw [← hfi] at hrange
    have cl := life_any hR3.rest hru hnuH.out hvH.out fuse' hf1
    have hn1 : (arrOf 16 fi).toList.toArray = arrOf 16 fi := by simp
    clear hk hfi hru
    go_wp2_with (first
      | (with_reducible refine wpList_load_mid rfl 81 _ rfl gs (i * 16) rfl (arrOf 16 fi).toList _ hrange Try.underlying81 rfl (by rw [Array.length_toList, arrOf_size]; kernel_rfl) ?_)
      | (go_at_call 51; refine cl.mono ?_; rintro e w4 ⟨sv4, st4, least4, S4, rfl, hR4, hfal4, hlen4⟩))
    refine (risen_any hR4.toDev hfal4 hlen4 (!flip) hv1H.out hv2H.out).mono ?_
    rintro e w5 ⟨c5, p5, i5, S5, rfl, hR5, _⟩
    have hB5 := hR5.rest.base
    have hi5 : 0 ≤ (i5 : Int) := by omega
    have aw : ∀ W, Below w.heap.size w W → Calls Try.prog 46 #[] W fun e w' => e = .returned (.bool true) ∧ Below w.heap.size w w' := fun W hB => (awake4_any W).mono fun e w' ⟨h1, h2⟩ => ⟨h1, hB.trans (h2.mono hB.size)⟩
    clear cl hR4 hfal4 hrange
    go_wp2_with (go_at_call 46; refine (aw _ hB5).mono ?_; rintro e w' ⟨rfl, hB7⟩)
    go_ret
    exact ⟨rfl, hB7⟩
end Go.Proofs.Ytbnoebdpbpjbkaa
