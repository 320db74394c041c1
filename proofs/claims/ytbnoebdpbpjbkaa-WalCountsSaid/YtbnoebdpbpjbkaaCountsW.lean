/-
  WalCounts, walked: it answers true at every number and every list.
-/
import Derived.Test.YtbnoebdpbpjbkaaLaw4d
import Derived.Test.YtbnoebdpbpjbkaaBits
namespace Go.Lz
open Go.RowKit
/-- Behind i commits: sector 0 is of kind i. -/
def histC (i : Nat) (k : Nat) : Bytes := if k = 0 then wantB (i : Int) else zero64

theorem countsRound {S : WalS} {i d : Nat} (r : Rec S 40 i d histC) (hn : S.now = fun _ => none) (hw : Well S.dev) (hi : i < 1000) :
    ∃ S1 S2 S3 d', S.write 0 (bytesOf ((i : Int) + 1) 64) = (0, S1) ∧ S1.commit = (0, S2) ∧ Rec S2 40 (i + 1) d' histC ∧ S2.now = (fun _ => none) ∧ Well S2.dev ∧ S2.sync = (0, S3) ∧ Rec S3 40 (i + 1) (i + 1) histC ∧ S3.now = (fun _ => none) ∧ Well S3.dev := by
  obtain ⟨e1, r1⟩ := r.write (k := 0) (b := bytesOf ((i : Int) + 1) 64) (by omega) (bytesOf_length _ _) (.inr (by rw [hn, keysF_none]; decide))
  obtain ⟨S1, hS1⟩ : ∃ S1, S1 = ({ S with now := upd S.now 0 (some (bytesOf ((i : Int) + 1) 64)) } : WalS) := ⟨_, rfl⟩
  rw [← hS1] at e1 r1
  have w1 : Well S1.dev := by rw [hS1]; exact hw
  have now1 : S1.now = upd (fun _ => none) 0 (some (bytesOf ((i : Int) + 1) 64)) := by rw [hS1, ← hn]
  rcases r1.commit (by omega) histC (fun i hi => rfl) (fun k hk => by
    rw [now1]
    by_cases e : k = 0
    · subst e
      simp [over, histC, wantB]
    · simp [over, histC, e, upd_other _ e]) with ⟨e2, ⟨d2, hd2, r2⟩, n2, w2⟩ | ⟨_, _, _, _, _, _, _, _, hx⟩
  · rcases r2.sync with ⟨e3, r3, n3, l3, _, w3⟩ | ⟨_, _, _, _, _, _, _, _, hx⟩
    · exact ⟨S1, _, _, d2, e1, Prod.ext e2 rfl, r2, n2, w2 w1, Prod.ext e3 rfl, r3, by rw [n3, n2], w3 (w2 w1)⟩
    · exact absurd (w2 w1) hx
  · exact absurd w1 hx
end Go.Lz
namespace Go.Proofs.Ytbnoebdpbpjbkaa
open Go.RowKit Go.Lz

set_option maxRecDepth 100000 in
set_option maxHeartbeats 1000000 in
theorem walCounts_any {w : World} {G : Nat → Prop} {v : Value} {l : List Bool} (n : Int) (hv : BoolsAt w G v l) :
    Calls Try.prog 9 #[.int .i64 n, v] w fun e w' => e = .returned (.bool true) ∧ Below w.heap.size w w' := by
  obtain ⟨a, n1, cp, rfl, hl, hn1, hcs⟩ := hv
  have hb31 := and31
  obtain ⟨_, r0, w0, n0⟩ := new_rec (n := 340) (by omega) (by omega) histC (fun k _ => by
    unfold histC
    split <;> rfl)
  go_enter Try.func9, Try.ntmps9
  go_wp2_with fail
  refine (lw4Open_any w 340 (by omega) (by omega)).mono ?_
  rintro e w1 ⟨p, q, rfl, hO1⟩
  obtain ⟨N, hN⟩ : ∃ N : Nat, n % 32 = (N : Int) := ⟨(n % 32).toNat, by omega⟩
  have hN32 : N < 32 := by omega
  clear r0 w0 n0
  obtain ⟨_, r0, w0, n0⟩ := new_rec (n := 340) (by omega) (by omega) histC (fun k _ => by
    unfold histC
    split <;> rfl)
  go_upto_block 0 with fail
  go_cut [7] from 24 to 54 (fun _ wr => ∃ S d, Rec S 40 N d histC ∧ Well S.dev ∧ Own w wr (TStore p q S) noLocals)
  case first =>
    go_wp2_with fail
    go_loopg [7] N (fun g iv wr => ∃ (i d : Nat) (S : WalS), i + g = N ∧ iv = .int .i64 (i : Int) ∧ Rec S 40 i d histC ∧ S.now = (fun _ => none) ∧ Well S.dev ∧ Own w wr (TStore p q S) noLocals)
    case atStart => exact ⟨0, 0, _, by omega, rfl, r0, n0, w0, hO1⟩
    case round =>
      obtain ⟨i, d, S, hid, rfl, hr, hnow, hw, hO⟩ := hrel
      have hid' : Hid (i + gk = N) := hid
      by_cases hi : i < N
      · have hi' : (i : Int) < (N : Int) := by omega
        obtain ⟨S1, S2, S3, d2, e1, e2, r2, n2, w2, e3, r3, n3, w3⟩ := countsRound hr hnow hw (by omega)
        have hs0 := hO.size
        have hnowH : Hid _ := Lib.hid hnow
        have n2H : Hid _ := Lib.hid n2
        have n3H : Hid _ := Lib.hid n3
        clear hid hnow n2 n3
        go_wp2_with fail
        refine (sector_any _ _).mono ?_
        rintro e wa ⟨va, ga, rfl, hva, hga, hBa⟩
        have hOa := hO.below (keepsStore _ _ _) hBa
        have cw := write4 hOa hva.src 0
        rw [e1] at cw
        go_wp2_with fail
        refine cw.mono ?_
        rintro e wb ⟨rfl, hOb, hsb⟩
        have cc := commit4 hOb
        simp only [e2] at cc
        go_wp2_with fail
        refine cc.mono ?_
        rintro e wc ⟨rfl, hOc, hsc⟩
        have cs := sync4 hOc
        simp only [e3] at cs
        clear cw cc e1 e2 e3 hO hOa hva hOb
        by_cases hin : i < n1
        · rcases hcs with h0 | ⟨bk, off, rfl, _, hbl, hc⟩
          · omega
          have hin' : (i : Int) < (n1 : Int) := by omega
          have hcx : wc.cell? ⟨bk, off + i, none⟩ = some (.bool (l.getD i false)) := (hOc.base.cell (p := ⟨bk, off + i, none⟩) hbl).trans (hc i hin)
          clear hc
          cases hlb : l.getD i false with
          | true =>
            rw [hlb] at hcx
            go_wp2_with fail
            refine cs.mono ?_
            rintro e wd ⟨rfl, hOd, hsd⟩
            go_wp2_with fail
            go_roundg (gk - 1)
            case measure => have := hid'.out; omega
            case rel => exact ⟨i + 1, _, _, by have := hid'.out; omega, by go_num, r3, n3H.out, w3, hOd⟩
          | false =>
            rw [hlb] at hcx
            go_wp2_with fail
            go_roundg (gk - 1)
            case measure => have := hid'.out; omega
            case rel => exact ⟨i + 1, _, _, by have := hid'.out; omega, by go_num, r2, n2H.out, w2, hOc⟩
        · have hin' : ¬ (i : Int) < (n1 : Int) := by omega
          go_wp2_with fail
          go_roundg (gk - 1)
          case measure => have := hid'.out; omega
          case rel => exact ⟨i + 1, _, _, by have := hid'.out; omega, by go_num, r2, n2H.out, w2, hOc⟩
      · obtain rfl : i = N := by omega
        clear hid
        go_wp2_with fail
        go_meet
        case rel => exact ⟨S, d, hr, hw, hO⟩
  case rest =>
    obtain ⟨S, d, hr, hw, hO⟩ := hcut
    clear r0 w0 n0 hO1 hcs
    have cm := commits4 hO
    rw [hr.all] at cm
    obtain ⟨lst, hlst⟩ : ∃ lst : Nat, S.lasting = (lst : Int) := ⟨S.lasting.toNat, by have := hr.last; omega⟩
    have hld : lst ≤ d := by have := hr.last; omega
    have hdN := hr.le
    rw [hlst] at cm
    obtain ⟨ho, r5, w5⟩ := hr.reopen (h' := fun _ => histC d) false [] (fun _ _ => rfl)
    have hg5 : (WalS.new (S.dev.crashed false []).opened.2).get 0 = wantB (d : Int) := by
      rw [r5.get (k := 0) (by omega)]
      rfl
    have hw5 := r5.wrong (k := 0) (by omega)
    obtain ⟨D5, hD5⟩ : ∃ D5, D5 = S.dev.crashed false [] := ⟨_, rfl⟩
    rw [← hD5] at ho r5 w5 hg5 hw5
    go_wp2_with fail
    refine cm.mono ?_
    rintro e w2 ⟨rfl, hO2, hs2⟩
    have cr := crash1 (toDev hO2) false (nilInts w)
    rw [← hD5] at cr
    clear hO hD5 hr hlst
    go_wp2_with fail
    refine cr.mono ?_
    rintro e w3 ⟨rfl, hO3, hs3⟩
    go_wp2_with fail
    refine (open1_ok hO3 ho).mono ?_
    rintro e w4 ⟨p4, rfl, hO4, hs4⟩
    go_wp2_with fail
    refine (read4_ok hO4 (k := 0) rfl hw5 hg5).mono ?_
    rintro e w5 ⟨v5, g5, o5, rfl, hb5, hg5', hO5, hs5⟩
    clear cr cm hO2 hO3 hO4 ho r5 hg5 hw5
    obtain ⟨S5, hS5⟩ : ∃ S5, S5 = (WalS.new D5.opened.2).asked 0 := ⟨_, rfl⟩
    rw [← hS5] at hO5
    clear hS5
    have hlH : (upd noLocals g5 (some o5)) g5 = some o5 := upd_same _ _ _
    go_wp2_with fail
    go_loopg [14] (d - lst) (fun g iv wr => ∃ i : Nat, i + g = d ∧ iv = .int .i64 (i : Int) ∧ Own w wr (TStore p4 q S5) (upd noLocals g5 (some o5)))
    case atStart => exact ⟨lst, by omega, rfl, hO5⟩
    case round =>
      obtain ⟨i, hid, rfl, hO⟩ := hrel
      have hid' : Hid (i + gk = d) := hid
      have hiN : (i : Int) ≤ (N : Int) := by omega
      have hmk : ∀ W : World, (Instr.makeSlice 28 (.int .i64 64) (.int .i64 64)).run Try.prog W = .ok (.slice (some ⟨W.heap.size, 0, none⟩) 64 64) (W.alloc (.cells cells64 5)) := fun _ => by kernel_rfl
      have hO4 := hO.below (keepsStore _ _ _) ((Below.refl _ wr).alloc (Nat.le_refl _) (.cells cells64 5))
      have hbz : Buf 5 (wr.alloc (.cells cells64 5)) g5 v5 (wantB (d : Int)) := hb5.buf (hO4.loc hlH)
      have hidz : gk = 0 → i = d := by omega
      have hidH : Hid _ := Lib.hid hidz
      have hgk : 0 < gk ∨ gk = 0 := by omega
      clear hid hidz
      by_cases hx : 0 < i
      · have hx' : (0 : Int) < (i : Int) := by omega
        have hwi : bytesOf (i : Int) 64 = wantB (i : Int) := by unfold wantB; rw [if_pos hx']
        have hwiH : Hid _ := Lib.hid hwi
        clear hwi
        go_wp2_with fail
        refine (sector_any _ _).mono ?_
        rintro e wa ⟨va, ga, rfl, hva, hga, hBa⟩
        have hOa := hO4.below (keepsStore _ _ _) hBa
        have q2 := run_string hva
        have q1 := run_string (hbz.chg (M := fun _ => False) (Chg.of_below hBa) (fun h => h))
        clear hva hBa hga hbz
        by_cases he : wantB (d : Int) = bytesOf (i : Int) 64
        · have hbe := beq_yes he
          clear he
          go_wp2_with fail
          refine (awake4_any _).mono ?_
          rintro e wz ⟨rfl, hBz⟩
          go_wp2_with fail
          go_ret
          exact ⟨rfl, hOa.base.trans (hBz.mono hOa.size)⟩
        · have hbe := beq_no he
          have hpos : 0 < gk := hgk.elim id (fun h0 => absurd (by rw [hwiH.out, hidH.out h0]) he)
          clear he hgk
          go_wp2_with fail
          go_roundg (gk - 1)
          case measure => omega
          case rel => exact ⟨i + 1, by have := hid'.out; omega, by go_num, hOa⟩
      · obtain rfl : i = 0 := by omega
        have q2 := run_string (buf_zero wr)
        have q1 := run_string hbz
        clear hbz hx
        by_cases he : wantB (d : Int) = zero64
        · have hbe := beq_yes he
          clear he
          go_wp2_with fail
          refine (awake4_any _).mono ?_
          rintro e wz ⟨rfl, hBz⟩
          go_wp2_with fail
          go_ret
          exact ⟨rfl, hO4.base.trans (hBz.mono hO4.size)⟩
        · have hbe := beq_no he
          have hpos : 0 < gk := hgk.elim id (fun h0 => absurd (by rw [← hidH.out h0]; rfl) he)
          clear he hgk
          go_wp2_with fail
          go_roundg (gk - 1)
          case measure => omega
          case rel => exact ⟨1, by have := hid'.out; omega, by rfl, hO4⟩
end Go.Proofs.Ytbnoebdpbpjbkaa
