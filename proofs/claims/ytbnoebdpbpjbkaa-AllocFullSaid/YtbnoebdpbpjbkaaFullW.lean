/-
  AllocFull, walked: it answers true at every number and every list.
-/
import Derived.Test.YtbnoebdpbpjbkaaLaw5b
import Derived.Test.YtbnoebdpbpjbkaaVec
import Derived.Test.YtbnoebdpbpjbkaaLongW
import Derived.Test.YtbnoebdpbpjbkaaMods
import Derived.Deep.CutBlock
import Derived.Deep.LoopGhost
namespace Go.Lz
open Go.RowKit
/-- All are taken but those that were given back (and not taken since: of these the ones from i on). -/
def isF (n : Nat) (giv : Nat → Bool) (i : Nat) : Nat → Bool := fun k => decide (k < n) && (!giv k || decide (k < i))
theorem isF_give (n : Nat) (giv : Nat → Bool) {k : Nat} : upd (isF n giv 0) k false = isF n (upd giv k true) 0 := by
  funext j
  by_cases e : j = k
  · subst e; simp [isF]
  · rw [upd_other _ e]
    simp [isF, upd_other _ e]
theorem isF_take (n : Nat) (giv : Nat → Bool) {i : Nat} (hi : i < n) : upd (isF n giv i) i true = isF n giv (i + 1) := by
  funext j
  by_cases e : j = i
  · subst e; simp [isF, hi]
  · rw [upd_other _ e]
    simp only [isF]
    congr 2
    exact decide_eq_decide.2 (by omega)
theorem isF_skip (n : Nat) (giv : Nat → Bool) {i : Nat} (h : giv i = false) : isF n giv i = isF n giv (i + 1) := by
  funext j
  by_cases e : j = i
  · subst e; simp [isF, h]
  · simp only [isF]
    congr 2
    exact decide_eq_decide.2 (by omega)
theorem isF_none (n : Nat) : (fun k => decide (k < n)) = isF n (fun _ => false) 0 := by
  funext j
  simp [isF]
theorem isF_all {n : Nat} {giv : Nat → Bool} {i : Nat} (hi : i < n) : isF n giv n i = true := by simp [isF, hi]
theorem tk_step (i : Nat) : upd (fun k => decide (k < i)) i true = fun k => decide (k < i + 1) := by
  funext j
  by_cases e : j = i
  · subst e; simp
  · rw [upd_other _ e]
    exact decide_eq_decide.2 (by omega)
end Go.Lz
namespace Go.Proofs.Ytbnoebdpbpjbkaa
open Go.RowKit Go.Lz

theorem mkbools (W : World) (n : Nat) (hn : n ≤ 100000) : (Instr.makeSlice 72 (.int .i64 (n : Int)) (.int .i64 (n : Int))).run Try.prog W = .ok (.slice (some ⟨W.heap.size, 0, none⟩) n n) (W.alloc (.cells (boolsV n fun _ => false) 4)) := by
  have h : (Try.prog.info? 4).map (fun i => (i.zero, i.size, i.bytes)) = some (some (.bool false), 1, 1) := by kernel_rfl
  obtain ⟨i, hi, hz, hs, hb⟩ := info_parts h
  exact make_one Try.underlying72 hi hz hs rfl W n (by rw [hb]; omega) (by omega)

set_option maxRecDepth 100000 in
set_option maxHeartbeats 2000000 in
theorem allocFull_any {w : World} {G : Nat → Prop} {v : Value} {l : List Int} (n : Int) (hv : IntsAt w G v l) : Calls Try.prog 14 #[.int .i64 n, v] w fun e w' => e = .returned (.bool true) ∧ Below w.heap.size w w' := by
  obtain ⟨a, n1, cp, rfl, hl, hn1, hcs⟩ := hv
  obtain ⟨N0, hN0, hN0l⟩ := mod_in n 600 (by omega) (by omega)
  obtain ⟨N, hN⟩ : ∃ N, N = N0 + 1 := ⟨_, rfl⟩
  have hN1 : 1 ≤ N := by omega
  have hN600 : N ≤ 600 := by omega
  have cm := made_any w 2 N hN1 (by omega) (by unfold sectorsOf; omega)
  have eN : wrap64 ((N0 : Int) + 1) = (N : Int) := by unfold wrap64; omega
  have eNH : Hid _ := Lib.hid eN
  clear hN hN0l eN
  go_enter Try.func14, Try.ntmps14
  go_upto_region 2 with fail
  rw [eNH.out]
  have mk := fun W => mkbools W N (by omega)
  clear hN0 eNH
  go_wp2_with fail
  refine cm.mono ?_
  rintro e w1 ⟨p, q, pm, rfl, hO1, A1⟩
  have hL : upd noLocals pm (some (mapObj p 2 N)) pm = some (mapObj p 2 N) := upd_same _ _ _
  have hLH : Hid _ := Lib.hid hL
  clear hL cm
  go_upto_block 0 with fail
  go_cut [7, 8, 9] from 36 to 60 (fun _ _ _ wr => ∃ S cc done, Own w wr (TStore p q S) (upd noLocals pm (some (mapObj p 2 N))) ∧ AM S 100 2 N cc done (fun k => decide (k < N)) ∧ cc ≤ N)
  case first =>
    go_wp2_with fail
    go_loopg [7, 8, 9] N (fun g iv _ _ wr => ∃ (i cc : Nat) (S : WalS) (done : Nat → Bool), i + g = N ∧ iv = .int .i64 (i : Int) ∧ cc ≤ i ∧ Own w wr (TStore p q S) (upd noLocals pm (some (mapObj p 2 N))) ∧ AM S 100 2 N cc done (fun k => decide (k < i)))
    case atStart => exact ⟨0, 0, _, _, by omega, rfl, Nat.le_refl _, hO1, by simpa using A1⟩
    case round =>
      obtain ⟨i, cc, S, done, hid, rfl, hcc, hO, A⟩ := hrel
      have hid' : Hid (i + gk = N) := hid
      by_cases hi : i < N
      · have hi' : (i : Int) < (N : Int) := by omega
        clear hid
        go_wp2_with fail
        refine (take5_at hO hLH.out A hi (by simp) (fun k hk => by simpa using hk)).mono ?_
        rw [tk_step]
        rintro e w2 ⟨S2, rfl, hO2, A2, hs2⟩
        by_cases h99 : i % 100 = 99
        · have h99' : (i : Int) % 100 = 99 := by omega
          clear h99
          go_wp2_with fail
          refine (commit5 hO2 A2 (by omega)).mono ?_
          rintro e w3 ⟨S3, rfl, hO3, A3, hs3⟩
          go_wp2_with fail
          go_roundg (gk - 1)
          case measure => have := hid'.out; omega
          case rel => exact ⟨i + 1, cc + 1, _, _, by have := hid'.out; omega, by go_num, by omega, hO3, A3⟩
        · have h99' : ((i : Int) % 100 == 99) = false := by
            rw [beq_eq_false_iff_ne]
            omega
          clear h99
          go_wp2_with fail
          go_roundg (gk - 1)
          case measure => have := hid'.out; omega
          case rel => exact ⟨i + 1, cc, _, _, by have := hid'.out; omega, by go_num, by omega, hO2, A2⟩
      · obtain rfl : i = N := by omega
        clear hid
        go_wp2_with fail
        go_meet
        case rel => exact ⟨S, cc, done, hO, A, hcc⟩
  case rest =>
    obtain ⟨S, cc, done, hO, A, hcc⟩ := hcut
    clear hO1 A1
    go_wp2_with fail
    refine (take5_full hO hLH.out A (fun i hi => by simpa using hi)).mono ?_
    rintro e w2 ⟨S2, rfl, hO2, A2, hs2⟩
    clear hO A
    have hO3 := hO2.local_ (b := w2.heap.size) (o := .cells (boolsV N fun _ => false) 4 (0, 0)) (keepsStore _ _ _) ((Below.refl _ w2).alloc (Nat.le_refl _) _) (Nat.le_refl _) (heap_alloc_new w2 _)
    have hbp : pm < w2.heap.size := hO2.loc_lt hLH.out
    rw [isF_none] at A2
    have hmk := mk w2
    go_upto_block 2 with fail
    obtain ⟨B, hB⟩ : ∃ B, B = w2.heap.size := ⟨_, rfl⟩
    rw [← hB] at hO3 ⊢
    generalize w2.alloc (.cells (boolsV N fun _ => false) 4) = w3 at hO3 ⊢
    have hBp : pm ≠ B := by omega
    have hs2' := hO3.size
    clear hO2 hmk hbp
    have hLB : ∀ o : Obj, (upd (upd noLocals pm (some (mapObj p 2 N))) B (some o)) pm = some (mapObj p 2 N) := fun o => by rw [upd_other _ hBp, upd_same]
    have hLBH : Hid _ := Lib.hid hLB
    clear hLB hLH hB
    go_cut [13, 14, 15, 16] from 71 to 107 (fun cv _ _ _ wr => ∃ S cc done giv, cv = .int .i64 ((cntI (isF N giv 0) N : Nat) : Int) ∧ Own w wr (TStore p q S) (upd (upd noLocals pm (some (mapObj p 2 N))) B (some (.cells (boolsV N giv) 4 (0, 0)))) ∧ AM S 100 2 N cc done (isF N giv 0))
    case first =>
      go_wp2_with fail
      go_loopg [13, 14, 15, 16] 20 (fun g cv iv _ _ wr => ∃ (i cc : Nat) (S : WalS) (done giv : Nat → Bool), i + g = 20 ∧ iv = .int .i64 (i : Int) ∧ cv = .int .i64 ((cntI (isF N giv 0) N : Nat) : Int) ∧ Own w wr (TStore p q S) (upd (upd noLocals pm (some (mapObj p 2 N))) B (some (.cells (boolsV N giv) 4 (0, 0)))) ∧ AM S 100 2 N cc done (isF N giv 0))
      case atStart => exact ⟨0, cc, _, _, fun _ => false, by omega, rfl, by rw [← isF_none, cntI_all (fun i hi => by simpa using hi)], hO3, A2⟩
      case round =>
        obtain ⟨i, cc, S, done, giv, hid, rfl, rfl, hO, A⟩ := hrel
        have hid' : Hid (i + gk = 20) := hid
        have hcl := cntI_le (isF N giv 0) N
        by_cases hin : i < n1 ∧ i < 20
        · obtain ⟨hi1, hi2⟩ := hin
          rcases hcs with h0 | ⟨bk, off, rfl, _, hbl, hc⟩
          · omega
          obtain ⟨x, hx⟩ : ∃ x, x = l.getD i 0 := ⟨_, rfl⟩
          have hcx : wr.cell? ⟨bk, off + i, none⟩ = some (.int .i64 x) := by rw [hx, hO.base.cell (p := ⟨bk, off + i, none⟩) hbl]; exact hc i hi1
          have hi1' : (i : Int) < (n1 : Int) := by omega
          have hi2' : (i : Int) < 20 := by omega
          obtain ⟨k, hk, hkN⟩ := mod_in x (N : Int) (by omega) (by omega)
          have hkN' : k < N := by omega
          clear hx hc hid
          have hLp := hLBH.out (.cells (boolsV N giv) 4 (0, 0))
          have hLb : (upd (upd noLocals pm (some (mapObj p 2 N))) B (some (.cells (boolsV N giv) 4 (0, 0)))) B = some (.cells (boolsV N giv) 4 (0, 0)) := upd_same _ _ _
          go_wp2_with fail
          cases hg : giv k with
          | true =>
            refine (give5_free hO hLp A hkN' (by simp [isF, hg])).mono ?_
            rintro e w4 ⟨S4, rfl, hO4, A4, hs4⟩
            have hc4 : w4.cell? ⟨B, k, none⟩ = some (.bool true) := (hO4.vec_cell hLb hkN').trans (by rw [hg])
            clear hg
            go_wp2_with fail
            go_roundg (gk - 1)
            case measure => have := hid'.out; omega
            case rel => exact ⟨i + 1, cc, _, _, giv, by have := hid'.out; omega, by go_num, rfl, hO4, A4⟩
          | false =>
            refine (give5_ok hO hLp A hkN' (by simp [isF, hg, hkN'])).mono ?_
            rintro e w4 ⟨S4, rfl, hO4, A4, hs4⟩
            rw [isF_give] at A4
            have hc4 : w4.cell? ⟨B, k, none⟩ = some (.bool false) := (hO4.vec_cell hLb hkN').trans (by rw [hg])
            have hf4 : w4.frozen? ⟨B, k, none⟩ = false := hO4.vec_frozen hLb k
            have hcu := cntI_upd (isF N giv 0) hkN' (by simp [isF, hg, hkN'])
            rw [isF_give] at hcu
            have hO5 := hO4.put (keepsStore _ _ _) hLb k (.bool true)
            rw [boolsV_set, upd_upd] at hO5
            clear hg
            have hcuH : Hid _ := Lib.hid hcu
            clear hcu
            go_wp2_with fail
            go_roundg (gk - 1)
            case measure => have := hid'.out; omega
            case rel => exact ⟨i + 1, cc, _, _, _, by have := hid'.out; omega, by go_num, by have := hcuH.out; congr 1; omega, hO5, A4⟩
        · by_cases hi1 : i < n1
          · have hi1' : (i : Int) < (n1 : Int) := by omega
            have hi2' : ¬ (i : Int) < 20 := by omega
            clear hid hin
            go_wp2_with fail
            go_meet
            case rel => exact ⟨S, cc, done, giv, rfl, hO, A⟩
          · have hi1' : ¬ (i : Int) < (n1 : Int) := by omega
            clear hid hin
            go_wp2_with fail
            go_meet
            case rel => exact ⟨S, cc, done, giv, rfl, hO, A⟩
    case rest =>
      obtain ⟨S, cc, done, giv, rfl, hO, A⟩ := hcut
      clear hcs hl hn1 hO3 A2 hs2' hs2
      have hLp := hLBH.out (.cells (boolsV N giv) 4 (0, 0))
      have hLb : (upd (upd noLocals pm (some (mapObj p 2 N))) B (some (.cells (boolsV N giv) 4 (0, 0)))) B = some (.cells (boolsV N giv) 4 (0, 0)) := upd_same _ _ _
      go_wp2_with fail
      refine (count5 hO hLp A).mono ?_
      rintro e w4 ⟨S4, rfl, hO4, A4, hs4⟩
      have hcl := cntI_le (isF N giv 0) N
      clear hO A
      go_upto_block 4 with fail
      go_cut [19, 20, 21] from 120 to 140 (fun _ _ _ wr => ∃ S, Own w wr (TStore p q S) (upd (upd noLocals pm (some (mapObj p 2 N))) B (some (.cells (boolsV N giv) 4 (0, 0)))) ∧ AM S 100 2 N cc done (isF N giv N))
      case first =>
        go_wp2_with fail
        go_loopg [19, 20, 21] N (fun g iv _ _ wr => ∃ (i : Nat) (S : WalS), i + g = N ∧ iv = .int .i64 (i : Int) ∧ Own w wr (TStore p q S) (upd (upd noLocals pm (some (mapObj p 2 N))) B (some (.cells (boolsV N giv) 4 (0, 0)))) ∧ AM S 100 2 N cc done (isF N giv i))
        case atStart => exact ⟨0, _, by omega, rfl, hO4, A4⟩
        case round =>
          obtain ⟨i, S, hid, rfl, hO, A⟩ := hrel
          have hid' : Hid (i + gk = N) := hid
          by_cases hi : i < N
          · have hi' : (i : Int) < (N : Int) := by omega
            have hc4 := hO.vec_cell hLb hi
            clear hid
            cases hg : giv i with
            | true =>
              rw [hg] at hc4
              have c := take5_at hO hLp A hi (by simp [isF, hg]) (fun k hk => by simp [isF, hk]; omega)
              rw [isF_take N giv hi] at c
              clear hg
              go_wp2_with fail
              refine c.mono ?_
              rintro e w5 ⟨S5, rfl, hO5, A5, hs5⟩
              go_wp2_with fail
              go_roundg (gk - 1)
              case measure => have := hid'.out; omega
              case rel => exact ⟨i + 1, _, by have := hid'.out; omega, by go_num, hO5, A5⟩
            | false =>
              rw [hg] at hc4
              rw [isF_skip N giv hg] at A
              clear hg
              go_wp2_with fail
              go_roundg (gk - 1)
              case measure => have := hid'.out; omega
              case rel => exact ⟨i + 1, _, by have := hid'.out; omega, by go_num, hO, A⟩
          · obtain rfl : i = N := by omega
            clear hid
            go_wp2_with fail
            go_meet
            case rel => exact ⟨S, hO, A⟩
      case rest =>
        obtain ⟨S5, hO5, A5⟩ := hcut
        clear hO4 A4
        go_wp2_with fail
        refine (take5_full hO5 hLp A5 (fun i hi => isF_all hi)).mono ?_
        rintro e w6 ⟨S6, rfl, hO6, A6, hs6⟩
        have aw : ∀ W, Below w.heap.size w W → Calls Try.prog 39 #[] W fun e w' => e = .returned (.bool true) ∧ Below w.heap.size w w' := fun W hB => (awake5_any W).mono fun e w' ⟨h1, h2⟩ => ⟨h1, hB.trans (h2.mono hB.size)⟩
        have hB6 := hO6.base
        clear hO5 A5
        go_wp2_with (go_at_call 39; refine (aw _ hB6).mono ?_; rintro e w' ⟨rfl, hB7⟩)
        go_ret
        exact ⟨rfl, hB7⟩
end Go.Proofs.Ytbnoebdpbpjbkaa
