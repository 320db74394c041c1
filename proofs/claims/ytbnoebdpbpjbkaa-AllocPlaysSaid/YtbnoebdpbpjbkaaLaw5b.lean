/-
  The statements' own small functions of layer 5; AllocBounds, walked.
-/
import Derived.Test.YtbnoebdpbpjbkaaLaw5a
namespace Go.Proofs.Ytbnoebdpbpjbkaa
open Go.RowKit Go.Lz

/-- A map on a new store. -/
def MadePost (w : World) (a n : Nat) (e : Ending) (w' : World) : Prop :=
  ∃ p q pm, e = .returned (.tuple #[Dptr p, Dptr pm]) ∧ Own w w' (TStore p q (newS 400)) (upd noLocals pm (some (mapObj p a n))) ∧ AM (newS 400) 100 a n 0 (fun _ => false) (fun _ => false)

theorem size400 : (newS 400).size = 100 := (Kp.new (n := 400) (by omega) (by omega)).1.size

set_option maxRecDepth 100000 in
theorem made_any (w : World) (a n : Nat) (h1 : 1 ≤ n) (h2 : n ≤ 8192) (h3 : a + sectorsOf n ≤ 100) : Calls Try.prog 53 #[.int .i64 (a : Int), .int .i64 (n : Int)] w (MadePost w a n) := by
  have hf : mapFits (newS 400).size a n = true := by
    rw [size400]
    unfold mapFits
    exact decide_eq_true (by rw [Int.toNat_natCast]; omega)
  have hA := AM.new (M := 400) (a := a) (n := n) (by omega) (by omega) h3 h2
  go_enter Try.func53, Try.ntmps53
  go_wp2_with fail
  refine (lw4Open_any w 400 (by omega) (by omega)).mono ?_
  rintro e w1 ⟨p, q, rfl, hO1⟩
  go_wp2_with fail
  refine (new5 hO1 a n hf).mono ?_
  rintro e w2 ⟨pm, rfl, hO2, _, _⟩
  clear hf
  go_wp2_with fail
  go_ret2
  exact ⟨p, q, pm, rfl, hO2, hA⟩

set_option maxRecDepth 100000 in
set_option maxHeartbeats 1000000 in
theorem awake5_any (w : World) : Calls Try.prog 39 #[] w fun e w' => e = .returned (.bool true) ∧ Below w.heap.size w w' := by
  have c513 : ∀ W, Calls Try.prog 38 #[.int .i64 513] W fun e w' => e = .returned (.int .i64 2) ∧ W = w' := fun W => sectors_any W 513 (by omega)
  go_enter Try.func39, Try.ntmps39
  go_wp2_with fail
  refine (made_any w 3 20 (by omega) (by omega) (by decide)).mono ?_
  rintro e w1 ⟨p, q, pm, rfl, hO1, A1⟩
  have hL : upd noLocals pm (some (mapObj p 3 20)) pm = some (mapObj p 3 20) := upd_same _ _ _
  have hLH : Hid _ := Lib.hid hL
  clear hL
  go_wp2_with fail
  refine (take5_at hO1 hLH.out A1 (i := 0) (by omega) rfl (fun k hk => by omega)).mono ?_
  rintro e w2 ⟨S2, rfl, hO2, A2, hs2⟩
  go_wp2_with fail
  refine (take5_at hO2 hLH.out A2 (i := 1) (by omega) rfl (fun k hk => by
    have hk0 : k = 0 := by omega
    subst hk0
    rfl)).mono ?_
  rintro e w3 ⟨S3, rfl, hO3, A3, hs3⟩
  go_wp2_with fail
  refine (give5_ok hO3 hLH.out A3 (i := 0) (by omega) rfl).mono ?_
  rintro e w4 ⟨S4, rfl, hO4, A4, hs4⟩
  go_wp2_with fail
  refine (take5_at hO4 hLH.out A4 (i := 0) (by omega) rfl (fun k hk => by omega)).mono ?_
  rintro e w5 ⟨S5, rfl, hO5, A5, hs5⟩
  clear hO1 hO2 hO3 hO4 A1 A2 A3 A4
  go_wp2_with (go_at_call 38; refine (c513 _).mono ?_; rintro e w' ⟨rfl, rfl⟩)
  go_ret
  exact ⟨rfl, hO5.base⟩

set_option maxRecDepth 100000 in
set_option maxHeartbeats 2000000 in
theorem allocBounds_any {w : World} (a n : Int) : Calls Try.prog 7 #[.int .i64 a, .int .i64 n] w fun e w' => e = .returned (.bool true) ∧ Below w.heap.size w w' := by
  have c0 : ∀ W, Calls Try.prog 38 #[.int .i64 0] W fun e w' => e = .returned (.int .i64 0) ∧ W = w' := fun W => sectors_any W 0 (by omega)
  have cnil : ∀ W, Calls Try.prog 37 #[.pointer none, .int .i64 a, .int .i64 n] W fun e w' => e = .returned (.tuple #[.pointer none, .int .i64 1]) ∧ W = w' := fun W => anew_nil W a n
  go_enter Try.func7, Try.ntmps7
  go_wp2_with fail
  refine (lw4Open_any w 400 (by omega) (by omega)).mono ?_
  rintro e w1 ⟨p, q, rfl, hO1⟩
  obtain ⟨F, hS, hF, hgo⟩ := hO1.step
  have cn := anew_any hS a n
  rw [size400] at cn
  have hB1 := hO1.base
  have aw : ∀ W, Below w.heap.size w W → Calls Try.prog 39 #[] W fun e w' => e = .returned (.bool true) ∧ Below w.heap.size w w' := fun W hB => (awake5_any W).mono fun e w' ⟨h1, h2⟩ => ⟨h1, hB.trans (h2.mono hB.size)⟩
  by_cases hn : 1 ≤ n ∧ n ≤ 8192
  · obtain ⟨hn1, hn2⟩ := hn
    obtain ⟨m, rfl⟩ : ∃ m : Nat, n = (m : Int) := ⟨n.toNat, by omega⟩
    have cs : ∀ W, Calls Try.prog 38 #[.int .i64 (m : Int)] W fun e w' => e = .returned (.int .i64 (((m : Int) - 1) / 512 + 1)) ∧ W = w' := fun W => by
      have := sectors_any W (m : Int) (by omega)
      rw [Int.toNat_natCast] at this
      rw [show ((m : Int) - 1) / 512 + 1 = ((sectorsOf m : Nat) : Int) from by unfold sectorsOf; omega]
      exact this
    have hfits : mapFits 100 a (m : Int) = decide (0 ≤ a ∧ a ≤ 100 ∧ ((m : Int) - 1) / 512 + 1 ≤ 100 - a) := by
      unfold mapFits
      rw [Int.toNat_natCast]
      congr 1
      have : ((sectorsOf m : Nat) : Int) = ((m : Int) - 1) / 512 + 1 := by unfold sectorsOf; omega
      rw [this]
      apply propext
      omega
    rw [hfits] at cn
    clear hfits
    by_cases hg : 0 ≤ a ∧ a ≤ 100 ∧ ((m : Int) - 1) / 512 + 1 ≤ 100 - a
    · rw [decide_eq_true hg] at cn
      obtain ⟨g1, g2, g3⟩ := hg
      go_wp2_with fail
      refine cn.mono ?_
      rintro e w2 (⟨_, rfl, rfl⟩ | ⟨h9, _⟩)
      · have hB2 : Below w.heap.size w (w1.alloc (.cells #[Dptr p, .int .i64 a, .int .i64 (m : Int)] 126)) := hB1.alloc hB1.size _
        clear cn hO1 hS hgo
        go_wp2_with (first
          | (go_at_call 38; refine (cs _).mono ?_; rintro e w' ⟨rfl, rfl⟩)
          | (go_at_call 38; refine (c0 _).mono ?_; rintro e w' ⟨rfl, rfl⟩)
          | (go_at_call 37; refine (cnil _).mono ?_; rintro e w' ⟨rfl, rfl⟩)
          | (go_at_call 39; refine (aw _ hB2).mono ?_; rintro e w' ⟨rfl, hB3⟩))
        go_ret
        exact ⟨rfl, hB3⟩
      · cases h9
    · rw [decide_eq_false hg] at cn
      go_wp2_with fail
      refine cn.mono ?_
      rintro e w2 (⟨h9, _⟩ | ⟨_, rfl, rfl⟩)
      · cases h9
      · clear cn hO1 hS hgo
        have hk0 : 0 ≤ ((m : Int) - 1) / 512 := by omega
        by_cases g1 : 0 ≤ a
        · by_cases g2 : a ≤ 100
          · have g3 : decide (((m : Int) - 1) / 512 + 1 ≤ 100 - a) = false := decide_eq_false (by omega)
            clear hg
            go_wp2_with (first
              | (go_at_call 38; refine (cs _).mono ?_; rintro e w' ⟨rfl, rfl⟩)
              | (go_at_call 38; refine (c0 _).mono ?_; rintro e w' ⟨rfl, rfl⟩)
              | (go_at_call 37; refine (cnil _).mono ?_; rintro e w' ⟨rfl, rfl⟩)
              | (go_at_call 39; refine (aw _ hB1).mono ?_; rintro e w' ⟨rfl, hB3⟩))
            go_ret
            exact ⟨rfl, hB3⟩
          · clear hg
            go_wp2_with (first
              | (go_at_call 38; refine (cs _).mono ?_; rintro e w' ⟨rfl, rfl⟩)
              | (go_at_call 38; refine (c0 _).mono ?_; rintro e w' ⟨rfl, rfl⟩)
              | (go_at_call 37; refine (cnil _).mono ?_; rintro e w' ⟨rfl, rfl⟩)
              | (go_at_call 39; refine (aw _ hB1).mono ?_; rintro e w' ⟨rfl, hB3⟩))
            go_ret
            exact ⟨rfl, hB3⟩
        · clear hg
          go_wp2_with (first
            | (go_at_call 38; refine (cs _).mono ?_; rintro e w' ⟨rfl, rfl⟩)
            | (go_at_call 38; refine (c0 _).mono ?_; rintro e w' ⟨rfl, rfl⟩)
            | (go_at_call 37; refine (cnil _).mono ?_; rintro e w' ⟨rfl, rfl⟩)
            | (go_at_call 39; refine (aw _ hB1).mono ?_; rintro e w' ⟨rfl, hB3⟩))
          go_ret
          exact ⟨rfl, hB3⟩
  · have hf : mapFits 100 a n = false := decide_eq_false (by omega)
    rw [hf] at cn
    clear hf
    go_wp2_with fail
    refine cn.mono ?_
    rintro e w2 (⟨h9, _⟩ | ⟨_, rfl, rfl⟩)
    · cases h9
    · clear cn hO1 hS hgo
      by_cases g1 : 1 ≤ n
      · have g2 : ¬ n ≤ 8192 := by omega
        clear hn
        go_wp2_with (first
          | (go_at_call 38; refine (c0 _).mono ?_; rintro e w' ⟨rfl, rfl⟩)
          | (go_at_call 37; refine (cnil _).mono ?_; rintro e w' ⟨rfl, rfl⟩)
          | (go_at_call 39; refine (aw _ hB1).mono ?_; rintro e w' ⟨rfl, hB3⟩))
        go_ret
        exact ⟨rfl, hB3⟩
      · clear hn
        go_wp2_with (first
          | (go_at_call 38; refine (c0 _).mono ?_; rintro e w' ⟨rfl, rfl⟩)
          | (go_at_call 37; refine (cnil _).mono ?_; rintro e w' ⟨rfl, rfl⟩)
          | (go_at_call 39; refine (aw _ hB1).mono ?_; rintro e w' ⟨rfl, hB3⟩))
        go_ret
        exact ⟨rfl, hB3⟩
end Go.Proofs.Ytbnoebdpbpjbkaa
