/-
  How a store rises again, walked.
-/
import Derived.Test.YtbnoebdpbpjbkaaLifeW
namespace Go.Lz
open Go.RowKit
/-- Ints of 64 bits. -/
def IntsW (w : World) (F : Nat → Prop) (v : Value) (l : List Int) : Prop := IntsAt w F v l ∧ ∀ x ∈ l, i64 x
theorem IntsW.at_ {w : World} {F : Nat → Prop} {v : Value} {l : List Int} (h : IntsW w F v l) {j : Nat} (hj : j < l.length) : l.getD j 0 ≤ 9223372036854775807 := by
  have : l.getD j 0 ∈ l := by
    rw [List.getD_eq_getElem?_getD, List.getElem?_eq_getElem hj]
    exact List.getElem_mem hj
  exact (h.2 _ this).2
end Go.Lz
namespace Go.Proofs.Ytbnoebdpbpjbkaa
open Go.RowKit Go.Lz
section
variable {w0 w : World} {p q : Nat} {S : WalS} {D : DevS} {L : Locals} {st : List (Nat → Int)} {least : Nat} {sv : Value}

theorem _root_.Go.Lz.OwnRow.toDev (h : OwnRow w0 w (TStore p q S) L 81 16 sv st.length (statesV st)) : OwnRow w0 w (TDev q S.dev) L 81 16 sv st.length (statesV st) := by
  obtain ⟨L', hO, _, hgo⟩ := h.next
  exact hgo (Go.Proofs.Ytbnoebdpbpjbkaa.toDev hO)

/-- What rises. -/
def RisePost (w0 : World) (L : Locals) (sv : Value) (st : List (Nat → Int)) (e : Ending) (w' : World) : Prop :=
  ∃ (c pu i : Nat) (S : WalS), e = .returned (.tuple #[Dptr c, Dptr pu, .int .i64 (i : Int)]) ∧ OwnRow w0 w' (TStore pu c S) L 81 16 sv st.length (statesV st) ∧ i < st.length ∧ Rec S 40 0 0 (fun _ => hist st i) ∧ S.now = fun _ => none

theorem states_range {L' : Locals} (h : OwnRow w0 w (TStore p q S) L' 81 16 sv st.length (statesV st)) {g cap : Nat} (hsv : sv = .slice (some ⟨g, 0, none⟩) st.length cap) {i : Nat} (hi : i < st.length) : w.rangeAt g (i * 16) (arrOf 16 (st.getD i fun _ => 0)).toList := fun k v hv => by
  obtain ⟨g', cap', e, _, _, _, _, hcells⟩ := h.addr
  rw [hsv] at e
  cases e
  have hk : k < 16 := by
    have := (List.getElem?_eq_some_iff.1 hv).1
    simpa using this
  refine hcells _ _ ((statesV_at st hi hk).trans ?_)
  rw [Array.getElem?_toList, arrOf_at _ hk] at hv
  rw [← hv]

set_option maxRecDepth 100000 in
set_option maxHeartbeats 4000000 in
theorem risen_any (h : OwnRow w0 w (TDev q D) L 81 16 sv st.length (statesV st)) (hf : Fallen D st least) (hlen : st.length ≤ 100) (flip : Bool) {G : Nat → Prop} {v1 v2 : Value} {l1 l2 : List Int} (hv1 : IntsAt w0 G v1 l1) (hv2 : IntsW w0 G v2 l2) :
    Calls Try.prog 52 #[Dptr q, .bool flip, v1, v2, sv, .int .i64 (least : Int)] w (RisePost w0 L sv st) := by
  obtain ⟨e0, hl0⟩ := hf.crash flip l1
  obtain ⟨a, n1, cp, rfl, hl, hn1, hcs⟩ := id hv2.1
  obtain ⟨gs, cap, hsv, _⟩ := h.addr
  have hsvH : Hid _ := Lib.hid hsv
  subst hsv
  have hv1H : Hid _ := Lib.hid hv1
  have hv2H : Hid _ := Lib.hid hv2
  obtain ⟨a1, m1, c1, rfl, _⟩ := id hv1
  clear hv1 hv2
  obtain ⟨L1, hO1, _, hgo1⟩ := h.next
  go_enter Try.func52, Try.ntmps52
  go_wp2_with fail
  refine (crash1 hO1 flip hv1H.out).mono ?_
  rintro e w1 ⟨rfl, hO2, _⟩
  have hR2 := hgo1 hO2
  clear hO1 hgo1 hO2
  go_upto_block 0 with fail
  go_cut [15] from 26 to 47 (fun _ wr => ∃ D, OwnRow w0 wr (TDev q D) L 81 16 (.slice (some ⟨gs, 0, none⟩) st.length cap) st.length (statesV st) ∧ Lain D st least e0)
  case first =>
    go_wp2_with fail
    go_loopg [15] 4 (fun g iv wr => ∃ (j : Nat) (D : DevS), j + g = 4 ∧ iv = .int .i64 (j : Int) ∧ OwnRow w0 wr (TDev q D) L 81 16 (.slice (some ⟨gs, 0, none⟩) st.length cap) st.length (statesV st) ∧ Lain D st least e0)
    case atStart => exact ⟨0, _, rfl, rfl, hR2, hl0⟩
    case round =>
      clear hR2 hl0
      obtain ⟨j, D, hjd, rfl, hR, hL⟩ := hrel
      have hjd' : Hid (j + gk = 4) := hjd
      by_cases hin : j < n1 ∧ j < 4
      · obtain ⟨hjn, hj4⟩ := hin
        have hjn' : (j : Int) < (n1 : Int) := by omega
        have hj4' : (j : Int) < 4 := by omega
        have hxb := hv2H.out.at_ (j := j) (by omega)
        rcases hcs with h0 | ⟨b, off, rfl, _, hbl, hc⟩
        · omega
        obtain ⟨x, hx⟩ : ∃ x, x = l2.getD j 0 := ⟨_, rfl⟩
        have hcx := hc j hjn
        rw [← hx] at hxb hcx
        have hcx' := (hR.rest.base.cell (p := ⟨b, off + j, none⟩) hbl).trans hcx
        have hag := hL.again hxb flip l1
        obtain ⟨L1, hO1, _, hgo1⟩ := hR.next
        clear hjd hc hx hcx
        go_wp2_with fail
        refine (fuse1 hO1 x hxb).mono ?_
        rintro e w3 ⟨rfl, hO3, _⟩
        go_wp2_with fail
        refine (open1 hO3).mono ?_
        rintro e w4 hop
        have hD4 : ∃ v, e = .returned v ∧ Own w0 w4 (TDev q (D.fused x).opened.2) L1 := by
          rcases hop with ⟨_, p, h1, h2, _⟩ | ⟨_, h1, h2, _⟩
          · exact ⟨_, h1, toDev h2⟩
          · exact ⟨_, h1, h2⟩
        obtain ⟨v4, rfl, hO4⟩ := hD4
        clear hop
        go_wp2_with fail
        refine (crash1 hO4 flip hv1H.out).mono ?_
        rintro e w5 ⟨rfl, hO5, _⟩
        have hR5 := hgo1 hO5
        go_wp2_with fail
        go_roundg (gk - 1)
        case measure => have := hjd'.out; omega
        case rel => exact ⟨j + 1, _, by have := hjd'.out; omega, by go_num, hR5, hag⟩
      · by_cases hjn : j < n1
        · have hjn' : (j : Int) < (n1 : Int) := by omega
          have hj4' : ¬ (j : Int) < 4 := by omega
          clear hjd hin
          go_wp2_with fail
          go_meet
          case rel => exact ⟨D, hR, hL⟩
        · have hjn' : ¬ (j : Int) < (n1 : Int) := by omega
          clear hjd hin
          go_wp2_with fail
          go_meet
          case rel => exact ⟨D, hR, hL⟩
  case rest =>
    obtain ⟨D3, hR3, hL3⟩ := hcut
    clear hcs hR2 hl0
    obtain ⟨L1, hO1, _, hgo1⟩ := hR3.next
    go_wp2_with fail
    refine (carried1 hO1 hL3.well.dead).mono ?_
    rintro e w4 ⟨x, c, rfl, hO4, _⟩
    obtain ⟨ho, hr, hw⟩ := hL3.carried 0 c
    have e0' : D3.countedN 0 = D3 := rfl
    rw [e0'] at ho hr hw
    go_wp2_with fail
    refine (open1_ok hO4 ho).mono ?_
    rintro e w5 ⟨p5, rfl, hO5, _⟩
    have hR5 := hgo1 hO5
    have hle := hL3.le
    have hlt := hL3.lt
    have hT0 : (WalS.new (D3.carried c).opened.2).now = fun _ => none := rfl
    obtain ⟨T, hT⟩ : ∃ T, T = WalS.new (D3.carried c).opened.2 := ⟨_, rfl⟩
    rw [← hT] at hR5 hr hw hT0
    have hT0H : Hid _ := Lib.hid hT0
    clear hO1 hgo1 hO4 hO5 hT e0' ho hR3 hT0 hL3
    go_upto_block 2 with fail
    go_wp2_with fail
    go_loopg [19] (e0 - least) (fun g iv wr => ∃ (i j : Nat), i + g = e0 ∧ iv = .int .i64 (i : Int) ∧ OwnRow w0 wr (TStore p5 x (T.cnt j)) L 81 16 (.slice (some ⟨gs, 0, none⟩) st.length cap) st.length (statesV st))
    case atStart => exact ⟨least, 0, by omega, rfl, hR5⟩
    case round =>
      clear hR5
      obtain ⟨i, j, hid, rfl, hR⟩ := hrel
      have hid' : Hid (i + gk = e0) := hid
      have hi : i < st.length := by omega
      have hi' : (i : Int) < (st.length : Int) := by omega
      have hi100 : (i : Int) ≤ 100 := by omega
      obtain ⟨L1, hO1, _, hgo1⟩ := hR.next
      have hrange := states_range hR rfl hi
      have rT := hr.cnt j
      have wT : Well (T.cnt j).dev := hw.countedN j
      have htell := rose_tells (S := T.cnt j) (e := e0) (st := st) rT hT0H.out (st.getD i fun _ => 0)
      have hdd : (T.cnt j).isDead = false := by
        obtain ⟨g0, hl⟩ := rT.live
        exact hl.isDead
      have ct := tells_any hO1 hdd (by rw [rT.size]; omega) (st.getD i fun _ => 0)
      unfold TellsPost at ct
      obtain ⟨fi, hfi⟩ : ∃ fi, fi = st.getD i fun _ => 0 := ⟨_, rfl⟩
      rw [← hfi] at hrange htell ct
      have hfiH : Hid _ := Lib.hid hfi
      have hn1 : (arrOf 16 fi).toList.toArray = arrOf 16 fi := by simp
      obtain ⟨t, ht⟩ : ∃ t, t = tellsB (T.cnt j) fi := ⟨_, rfl⟩
      rw [← ht] at ct htell
      have htH : Hid _ := Lib.hid ht
      clear hid hfi ht hdd
      cases t with
      | false =>
        have hne : i ≠ e0 := fun e => by
          have : kindsB fi = hist st e0 := by rw [hfiH.out, e]; rfl
          have := htell.2 this
          cases this
        clear htell
        go_wp2_with (first
          | (with_reducible refine wpList_load_mid rfl 81 _ rfl gs (i * 16) rfl (arrOf 16 fi).toList _ hrange Try.underlying81 rfl (by rw [Array.length_toList, arrOf_size]; kernel_rfl) ?_)
          | (go_at_call 50; refine ct.mono ?_; rintro e w6 ⟨j2, rfl, hO6, _⟩))
        have hR6 := hgo1 hO6
        rw [WalS.cnt_cnt] at hR6
        go_roundg (gk - 1)
        case measure => have := hid'.out; omega
        case rel => exact ⟨i + 1, _, by have := hid'.out; omega, by go_num, hR6⟩
      | true =>
        have heq : kindsB fi = hist st e0 := htell.1 rfl
        have heq2 : hist st i = hist st e0 := by
          rw [← heq, hfiH.out]
          rfl
        go_upto_region 18 with (first
          | (with_reducible refine wpList_load_mid rfl 81 _ rfl gs (i * 16) rfl (arrOf 16 fi).toList _ hrange Try.underlying81 rfl (by rw [Array.length_toList, arrOf_size]; kernel_rfl) ?_)
          | (go_at_call 50; refine ct.mono ?_; rintro e w6 ⟨j2, rfl, hO6, _⟩))
        have hR6 := hgo1 hO6
        rw [WalS.cnt_cnt] at hO6 hR6
        obtain ⟨o1, o2, o3⟩ := (rT.cnt j2).open2 (h' := fun _ => hist st e0) (wT.countedN j2) (fun _ _ => rfl)
        rw [WalS.cnt_cnt] at o1 o2 o3
        have hOd := toDev hO6
        clear ct hrange hO1 htell rT wT hR6 hR
        go_wp2_with fail
        refine (open1_ok hOd o1).mono ?_
        rintro e w7 ⟨p7, rfl, hO7, _⟩
        obtain ⟨U, hU⟩ : ∃ U, U = WalS.new (T.cnt (j + j2)).dev.opened.2 := ⟨_, rfl⟩
        have hU0 : U.now = fun _ => none := by rw [hU]; rfl
        rw [← hU] at hO7 o2 o3
        have hR7 := hgo1 hO7
        have hrange := states_range hR7 rfl hi
        rw [← hfiH.out] at hrange
        have hdd : U.isDead = false := by
          obtain ⟨g0, hl⟩ := o2.live
          exact hl.isDead
        have ct := tells_any hO7 hdd (by rw [o2.size]; omega) fi
        unfold TellsPost at ct
        rw [(rose_tells (e := e0) (st := st) o2 hU0 fi).2 heq] at ct
        have hU0H : Hid _ := Lib.hid hU0
        clear hU hdd hU0 o1 hOd hO6
        have hcl : ∀ k, k < 16 → w7.cell? ⟨gs, i * 16 + k, none⟩ = some (.int .i64 (fi k)) := fun k hk => hrange k _ (by rw [Array.getElem?_toList, arrOf_at fi hk])
        have x0 : w7.cell? ⟨gs, i * 16, none⟩ = some (.int .i64 (fi 0)) := hcl 0 (by omega)
        have x1 : w7.cell? ⟨gs, i * 16 + 1, none⟩ = some (.int .i64 (fi 1)) := hcl 1 (by omega)
        have x2 : w7.cell? ⟨gs, i * 16 + 2, none⟩ = some (.int .i64 (fi 2)) := hcl 2 (by omega)
        have x3 : w7.cell? ⟨gs, i * 16 + 3, none⟩ = some (.int .i64 (fi 3)) := hcl 3 (by omega)
        have x4 : w7.cell? ⟨gs, i * 16 + 4, none⟩ = some (.int .i64 (fi 4)) := hcl 4 (by omega)
        have x5 : w7.cell? ⟨gs, i * 16 + 5, none⟩ = some (.int .i64 (fi 5)) := hcl 5 (by omega)
        have x6 : w7.cell? ⟨gs, i * 16 + 6, none⟩ = some (.int .i64 (fi 6)) := hcl 6 (by omega)
        have x7 : w7.cell? ⟨gs, i * 16 + 7, none⟩ = some (.int .i64 (fi 7)) := hcl 7 (by omega)
        have x8 : w7.cell? ⟨gs, i * 16 + 8, none⟩ = some (.int .i64 (fi 8)) := hcl 8 (by omega)
        have x9 : w7.cell? ⟨gs, i * 16 + 9, none⟩ = some (.int .i64 (fi 9)) := hcl 9 (by omega)
        have x10 : w7.cell? ⟨gs, i * 16 + 10, none⟩ = some (.int .i64 (fi 10)) := hcl 10 (by omega)
        have x11 : w7.cell? ⟨gs, i * 16 + 11, none⟩ = some (.int .i64 (fi 11)) := hcl 11 (by omega)
        have x12 : w7.cell? ⟨gs, i * 16 + 12, none⟩ = some (.int .i64 (fi 12)) := hcl 12 (by omega)
        have x13 : w7.cell? ⟨gs, i * 16 + 13, none⟩ = some (.int .i64 (fi 13)) := hcl 13 (by omega)
        have x14 : w7.cell? ⟨gs, i * 16 + 14, none⟩ = some (.int .i64 (fi 14)) := hcl 14 (by omega)
        have x15 : w7.cell? ⟨gs, i * 16 + 15, none⟩ = some (.int .i64 (fi 15)) := hcl 15 (by omega)
        rw [arr16] at ct
        clear hcl hrange
        go_upto_region 19 with fail
        go_wp2_with (go_at_call 50; refine ct.mono ?_; rintro e w8 ⟨j3, rfl, hO8, _⟩)
        have hR8 := hgo1 hO8
        refine bodyPost_ret (v := .tuple #[Dptr x, Dptr p7, .int .i64 (i : Int)]) (by simp [results, Try.results52, go_sem]) rfl ⟨x, p7, i, _, rfl, hR8, hi, ?_, ?_⟩
        · rw [heq2]
          exact o2.cnt j3
        · exact hU0H.out
end
end Go.Proofs.Ytbnoebdpbpjbkaa
