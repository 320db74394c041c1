/-
  The document's device: Flush, Crash.
-/
import Derived.Test.YtbnoebdpbpjbkaaRef1
namespace Go.Proofs.Ytbnoebdpbpjbkaa
open Go.RowKit Go.Lz
section
variable {w : World} {r g : Nat} {D : DevS}

/-- Between two rounds: the sectors below i are l', n', without a wait. -/
def halfV (D : DevS) (l' n' : Nat → Bytes) (i : Nat) : Nat → Value := secV (fun k => if k < i then l' k else D.last k) (fun k => if k < i then n' k else D.now k) (fun k => if k < i then false else (D.wait k).isSome)
theorem half_zero (D : DevS) (l' n' : Nat → Bytes) : halfV D l' n' 0 = secV D.last D.now fun i => (D.wait i).isSome := by simp [halfV]
theorem half_all (D : DevS) (l' n' : Nat → Bytes) {n j : Nat} (hj : j < 3 * n) : halfV D l' n' n j = secV l' n' (fun _ => false) j := by
  have h : j / 3 < n := by omega
  simp [halfV, secV, h]
theorem half_step {α : Type} (a b : Nat → α) (i : Nat) : upd (fun k => if k < i then a k else b k) i (a i) = fun k => if k < i + 1 then a k else b k := by
  funext j
  by_cases e : j = i
  · subst e
    rw [upd_same, if_pos (by omega)]
  · rw [upd_other _ e]
    by_cases h : j < i
    · rw [if_pos h, if_pos (by omega)]
    · rw [if_neg h, if_neg (by omega)]
theorem half_skip {α : Type} (a b : Nat → α) (i : Nat) (h : a i = b i) : (fun k => if k < i then a k else b k) = fun k => if k < i + 1 then a k else b k := by
  funext j
  by_cases e : j = i
  · subst e
    rw [if_neg (by omega), if_pos (by omega), h]
  · by_cases h : j < i
    · rw [if_pos h, if_pos (by omega)]
    · rw [if_neg h, if_neg (by omega)]

set_option maxRecDepth 100000 in
set_option maxHeartbeats 1000000 in
theorem rflush_any (h : RefAt w r g D) (hfu : -1 ≤ D.fuse ∧ D.fuse ≤ 9223372036854775807) : Calls Try.prog 32 #[Dptr r] w (RDid w r g D.flush.2 (.int .i64 D.flush.1)) := by
  obtain ⟨cap, h⟩ := h
  obtain ⟨c0, c1, c2, c3, fz⟩ := h.fields
  have hn8 := h.n8
  have hcap := h.cap8
  by_cases hd : D.dead = true
  · have e : D.flush = (50, D) := by simp [DevS.flush, hd]
    rw [e]
    rw [hd] at c3
    clear e hd fz
    go_enter Try.func32, Try.ntmps32
    go_wp2
    go_ret
    exact ⟨rfl, ⟨cap, h⟩, Chg.refl _ _⟩
  have hdt := hd
  simp only [Bool.not_eq_true] at hd
  rw [hd] at c3
  by_cases hf : D.fuse = 0
  · have e : D.flush = (50, D.killed) := by
      unfold DevS.flush
      rw [if_neg hdt, if_pos hf]
    rw [e]
    have h' := h
    rw [hf] at h'
    have cb := rburn_dead h'
    have hR := h.setD true
    have hC := chg_r w r g 3 (.bool true)
    clear e hd fz hf h' hdt
    go_enter Try.func32, Try.ntmps32
    go_wp2_with (go_at_call 72; refine cb.mono ?_; rintro e w' ⟨rfl, rfl⟩)
    go_ret
    exact ⟨rfl, ⟨cap, hR⟩, hC⟩
  · have e : D.flush = (0, D.burned.flushed) := by
      unfold DevS.flush
      rw [if_neg hdt, if_neg hf]
    rw [e]
    have cb := rburn_ok h hf hfu
    have hR1 := h.setF (max (D.fuse - 1) (-1))
    have hR2 := hR1.setC (wrap64 (D.calls + 1))
    have hC := chg_r2 (chg_r w r g 2 (.int .i64 (max (D.fuse - 1) (-1)))) 1 (.int .i64 (wrap64 (D.calls + 1)))
    obtain ⟨_, a1, _, _, af⟩ := hR1.fields
    have af1 := af 1
    rw [← half_zero D D.now D.now] at hR2
    clear e fz hf hR1 af hdt
    go_enter Try.func32, Try.ntmps32
    go_upto_block 0 with (go_at_call 72; refine cb.mono ?_; rintro e w' ⟨rfl, rfl⟩)
    clear a1 af1 cb c0 c1 c2 c3
    generalize (w.setCell ⟨r, 2, none⟩ (.int .i64 (max (D.fuse - 1) (-1)))).setCell ⟨r, 1, none⟩ (.int .i64 (wrap64 (D.calls + 1))) = w2 at hR2 hC ⊢
    go_wp2_with fail
    go_loopg [3] D.n (fun gg iv wr => ∃ i : Nat, i + gg = D.n ∧ iv = .int .i64 (i : Int) ∧ RefR wr r g D.n cap (wrap64 (D.calls + 1)) (max (D.fuse - 1) (-1)) false (halfV D D.now D.now i) ∧ Chg (fun k => k = r ∨ k = g) w wr)
    case atStart => exact ⟨0, by omega, rfl, by rw [← hd]; exact hR2, hC⟩
    case round =>
      clear hR2 hC
      obtain ⟨i, hid, rfl, hR, hC⟩ := hrel
      have hid' : Hid (i + gk = D.n) := hid
      obtain ⟨c0, _⟩ := hR.fields
      by_cases hi : i < D.n
      · have hi' : (i : Int) < (D.n : Int) := by omega
        have x0 := hR.cell (j := i * 3) (by omega)
        have x1 := hR.cell (j := i * 3 + 1) (by omega)
        have hR1 := hR.set (i * 3) (strV (D.now i))
        have hR2 := hR1.set (i * 3 + 2) (.bool false)
        have hC2 := chg_g (chg_g hC (i * 3) (strV (D.now i))) (i * 3 + 2) (.bool false)
        unfold halfV at x0 x1 hR2
        rw [secV_0] at x0
        rw [secV_1, if_neg (Nat.lt_irrefl _)] at x1
        rw [secV_set0, secV_set2, half_step D.now D.last i, half_step (fun _ => false) (fun k => (D.wait k).isSome) i, half_skip D.now D.now i rfl] at hR2
        obtain ⟨x01, x02⟩ := x0
        obtain ⟨x11, _⟩ := x1
        obtain ⟨y0, _⟩ := hR1.fields
        obtain ⟨y1, y2⟩ := hR1.cell (j := i * 3 + 2) (by omega)
        clear hid hR hR1 hC
        go_upto_region 7 with fail
        go_cut [] from 29 to 43 (fun wx => wx = (wr.setCell ⟨g, i * 3, none⟩ (strV (D.now i))).drew)
        case first =>
          go_region
          all_goals
            go_wp2_with fail
            go_meet
            case rel => rfl
        case rest =>
          subst hcut
          go_wp2_with fail
          go_roundg (gk - 1)
          case measure => have := hid'.out; omega
          case rel => exact ⟨i + 1, by have := hid'.out; omega, by go_num, hR2.drew, hC2.drew⟩
      · obtain rfl : i = D.n := by omega
        clear hid
        go_wp2_with fail
        go_ret
        refine ⟨rfl, RefAt.mk' (D := D.burned.flushed) hR rfl rfl hd.symm (fun j hj => ?_), hC⟩
        exact (half_all D D.now D.now (n := D.n) hj).trans rfl

theorem and_t {a b : Bool} (h : true = (a && b)) : b = true := by cases a <;> simp_all
theorem and_f {b : Bool} (h : false = (true && b)) : ¬ b = true := by simp_all
set_option maxRecDepth 100000 in
set_option maxHeartbeats 2000000 in
theorem rcrash_any (h : RefAt w r g D) (flip : Bool) {G : Nat → Prop} {v : Value} {l : List Int} (hv : IntsAt w G v l) (hG : ∀ k, G k → k ≠ r ∧ k ≠ g) : Calls Try.prog 33 #[Dptr r, .bool flip, v] w (RDid w r g (D.crashed flip l) (.tuple #[])) := by
  obtain ⟨cap, h⟩ := h
  have hn8 := h.n8
  have hcap := h.cap8
  obtain ⟨a, m, cp, rfl, hl, hm, hcs⟩ := hv
  obtain ⟨L, hLd⟩ : ∃ L, L = (D.crashed flip l).last := ⟨_, rfl⟩
  have hL : ∀ k, L k = if (decide ((k : Int) ∈ l)) != flip then D.now k else D.last k := fun k => by rw [hLd]; rfl
  have hLH : Hid _ := Lib.hid hL
  have hLdH : Hid _ := Lib.hid hLd
  have hz : RefR w r g D.n cap D.calls D.fuse D.dead (halfV D L L 0) := by rw [half_zero]; exact h
  clear hL hLd
  go_enter Try.func33, Try.ntmps33
  go_upto_block 0 with fail
  go_cut [6, 7, 8] from 9 to 92 (fun _ _ _ wr => RefR wr r g D.n cap D.calls D.fuse D.dead (halfV D L L D.n) ∧ Chg (fun k => k = r ∨ k = g) w wr)
  case first =>
    go_wp2_with fail
    go_loopg [6, 7, 8] D.n (fun gg iv _ _ wr => ∃ i : Nat, i + gg = D.n ∧ iv = .int .i64 (i : Int) ∧ RefR wr r g D.n cap D.calls D.fuse D.dead (halfV D L L i) ∧ Chg (fun k => k = r ∨ k = g) w wr)
    case atStart => exact ⟨0, by omega, rfl, hz, Chg.refl _ _⟩
    case round =>
      clear hz
      obtain ⟨i, hid, rfl, hR, hC⟩ := hrel
      have hid' : Hid (i + gk = D.n) := hid
      obtain ⟨c0, _⟩ := hR.fields
      by_cases hi : i < D.n
      · have hi' : (i : Int) < (D.n : Int) := by omega
        obtain ⟨x0, f0⟩ := hR.cell (j := i * 3) (by omega)
        obtain ⟨x1, f1⟩ := hR.cell (j := i * 3 + 1) (by omega)
        obtain ⟨x2, f2⟩ := hR.cell (j := i * 3 + 2) (by omega)
        unfold halfV at x0 x1 x2
        rw [secV_0, if_neg (Nat.lt_irrefl _)] at x0
        rw [secV_1, if_neg (Nat.lt_irrefl _)] at x1
        rw [secV_2, if_neg (Nat.lt_irrefl _)] at x2
        obtain ⟨ws, hws⟩ : ∃ ws, ws = (D.wait i).isSome := ⟨_, rfl⟩
        rw [← hws] at x2
        have hwsH : Hid _ := Lib.hid hws
        clear hid hws
        obtain ⟨wo, rfl⟩ : ∃ wo : World, wo = wr := ⟨_, rfl⟩
        obtain ⟨g0, rfl⟩ : ∃ g0 : Nat, g0 = gk := ⟨_, rfl⟩
        go_upto_block 2 with fail
        go_cut [7, 8] from 18 to 42 (fun bv _ wx => bv = .bool (ws && decide ((i : Int) ∈ l)) ∧ wx = wo)
        case first =>
          go_wp2_with fail
          cases ws with
          | false =>
            go_loopg [7, 8] 0 (fun _ bv kv wx => wx = wo ∧ bv = .bool false ∧ kv = .int .i64 0)
            case atStart => exact ⟨rfl, rfl, rfl⟩
            case round =>
              obtain ⟨rfl, rfl, rfl⟩ := hrel
              by_cases hm0 : 0 < m
              · have hm0' : (0 : Int) < (m : Int) := by omega
                go_wp2_with fail
                go_meet
                case rel => exact ⟨rfl, rfl⟩
              · have hm0' : ¬ (0 : Int) < (m : Int) := by omega
                go_wp2_with fail
                go_meet
                case rel => exact ⟨rfl, rfl⟩
          | true =>
            go_loopg [7, 8] m (fun gg bv kv wx => ∃ k : Nat, k + gg = m ∧ wx = wo ∧ bv = .bool (decide ((i : Int) ∈ l.take k)) ∧ kv = .int .i64 (k : Int))
            case atStart => exact ⟨0, by omega, rfl, by simp, rfl⟩
            case round =>
              obtain ⟨k, hkd, rfl, rfl, rfl⟩ := hrel
              have hkd' : Hid (k + gk = m) := hkd
              by_cases hk : k < m
              · have hk' : (k : Int) < (m : Int) := by omega
                rcases hcs with h0 | ⟨b, off, rfl, hGb, hbl, hc⟩
                · omega
                have hne := hG b hGb
                have hx := (hC.cell (p := ⟨b, off + k, none⟩) hbl (fun e => e.elim hne.1 hne.2)).trans (hc k hk)
                have hms := mem_take_succ (l := l) (j := k) (x := (i : Int)) (by omega)
                obtain ⟨y, hy⟩ : ∃ y, y = l.getD k 0 := ⟨_, rfl⟩
                rw [← hy] at hx hms
                obtain ⟨b0, hb0⟩ : ∃ b0, b0 = decide ((i : Int) ∈ l.take k) := ⟨_, rfl⟩
                rw [← hb0] at hms ⊢
                have hmsH : Hid _ := Lib.hid hms
                clear hkd hc hy hms hb0 hne
                cases b0 with
                | true =>
                  go_wp2_with fail
                  go_roundg (gk - 1)
                  case measure => have := hkd'.out; omega
                  case rel => exact ⟨k + 1, by have := hkd'.out; omega, rfl, by rw [hmsH.out]; rfl, by go_num⟩
                | false =>
                  go_wp2_with fail
                  go_roundg (gk - 1)
                  case measure => have := hkd'.out; omega
                  case rel => exact ⟨k + 1, by have := hkd'.out; omega, rfl, by rw [hmsH.out]; simp; rfl, by go_num⟩
              · obtain rfl : k = m := by omega
                clear hkd
                go_wp2_with fail
                go_meet
                case rel => exact ⟨by rw [List.take_of_length_le (by omega)]; simp, rfl⟩
        case rest =>
          obtain ⟨rfl, rfl⟩ := hcut
          have hLi := hLH.out i
          obtain ⟨inb, hinb⟩ : ∃ inb, inb = decide ((i : Int) ∈ l) := ⟨_, rfl⟩
          rw [← hinb] at hLi ⊢
          clear hinb hcs
          obtain ⟨bt, hbt⟩ : ∃ bt, bt = (ws && (inb != flip)) := ⟨_, rfl⟩
          have hbtH : Hid _ := Lib.hid hbt
          clear hbt
          go_upto_region 8 with fail
          go_cut [55] from 43 to 54 (fun bv wx => bv = .bool bt ∧ wx = wc)
          case first =>
            cases ws with
            | false =>
              have e := hbtH.out
              simp only [Bool.false_and] at e
              subst e
              go_wp2_with fail
              go_meet
              case rel => exact ⟨rfl, rfl⟩
            | true =>
              have e := hbtH.out
              simp only [Bool.true_and] at e
              subst e
              go_wp2_with fail
              go_meet
              case rel => exact ⟨by cases inb <;> cases flip <;> rfl, rfl⟩
          case rest =>
            obtain ⟨rfl, hwcc⟩ := hcut
            subst hwcc
            go_upto_if 55 with fail
            go_cut [] from 56 to 70 (fun wx => RefR wx r g D.n cap D.calls D.fuse D.dead (secV (fun k => if k < i + 1 then L k else D.last k) (fun k => if k < i then L k else D.now k) (fun k => if k < i then false else (D.wait k).isSome)) ∧ Chg (fun k => k = r ∨ k = g) w wx)
            case first =>
              cases bt with
              | true =>
                have hb : (inb != flip) = true := and_t hbtH.out
                rw [if_pos hb] at hLi
                have hR1 := hR.set (i * 3) (strV (D.now i))
                have hC1 := chg_g hC (i * 3) (strV (D.now i))
                unfold halfV at hR1
                have hst := half_step L D.last i
                rw [hLi] at hst
                rw [secV_set0, hst] at hR1
                clear hR hC hLi hb hst
                go_wp2_with fail
                go_region
                all_goals
                  go_wp2_with fail
                  go_meet
                  case rel => exact ⟨hR1.drew, hC1.drew⟩
              | false =>
                have hLl : L i = D.last i := by
                  rw [hLi]
                  have := hbtH.out
                  cases ws with
                  | false =>
                    have hw : D.wait i = none := by
                      have := hwsH.out
                      cases h : D.wait i with
                      | none => rfl
                      | some b => rw [h] at this; cases this
                    have hnl : D.now i = D.last i := by unfold DevS.now; rw [hw]; rfl
                    rw [hnl, ite_self]
                  | true =>
                    rw [if_neg (and_f hbtH.out)]
                have hR2 := hR
                unfold halfV at hR2
                rw [half_skip L D.last i hLl] at hR2
                clear hLi hLl
                go_wp2_with fail
                go_meet
                case rel => exact ⟨hR2, hC⟩
            case rest =>
              obtain ⟨hR2, hC2⟩ := hcut
              clear hR hC hLi x0 x1 x2 f0 f1 f2 c0
              obtain ⟨z0, _⟩ := hR2.fields
              obtain ⟨z1, e1⟩ := hR2.cell (j := i * 3) (by omega)
              obtain ⟨z2, e2⟩ := hR2.cell (j := i * 3 + 1) (by omega)
              rw [secV_0, if_pos (Nat.lt_succ_self i)] at z1
              have hR3 := hR2.set (i * 3 + 1) (strV (L i))
              obtain ⟨y2, g2⟩ := hR3.cell (j := i * 3 + 2) (by omega)
              obtain ⟨y0, _⟩ := hR3.fields
              have hR4 := hR3.set (i * 3 + 2) (.bool false)
              rw [secV_set1, secV_set2, half_step L D.now i, half_step (fun _ => false) (fun k => (D.wait k).isSome) i] at hR4
              have hC4 := chg_g (chg_g hC2 (i * 3 + 1) (strV (L i))) (i * 3 + 2) (.bool false)
              clear hR2 hC2 hR3
              go_upto_region 10 with fail
              go_cut [] from 71 to 85 (fun wx => wx = (wc.setCell ⟨g, i * 3 + 1, none⟩ (strV (L i))).drew)
              case first =>
                go_region
                all_goals
                  go_wp2_with fail
                  go_meet
                  case rel => rfl
              case rest =>
                subst hcut
                go_wp2_with fail
                go_roundg (g0 - 1)
                case measure => have := hid'.out; omega
                case rel => exact ⟨i + 1, by have := hid'.out; omega, by go_num, hR4.drew, hC4.drew⟩
      · obtain rfl : i = D.n := by omega
        clear hid
        go_wp2_with fail
        go_meet
        case rel => exact ⟨hR, hC⟩
  case rest =>
    obtain ⟨hR, hC⟩ := hcut
    clear hz hcs
    obtain ⟨c0, c1, c2, c3, fz⟩ := hR.fields
    have f2 := fz 2
    have hR1 := hR.setF (-1)
    obtain ⟨_, _, _, d3, gz⟩ := hR1.fields
    have g3 := gz 3
    have hR2 := hR1.setD false
    have hC2 := chg_r2 (chg_r2 hC 2 (.int .i64 (-1))) 3 (.bool false)
    clear fz gz
    go_wp2_with fail
    go_end0
    refine ⟨rfl, RefAt.mk' (D := D.crashed flip l) hR2 rfl rfl rfl (fun j hj => ?_), hC2⟩
    rw [hLdH.out]
    exact (half_all D _ _ (n := D.n) hj).trans rfl
end
end Go.Proofs.Ytbnoebdpbpjbkaa
