/-
  dir.Name, walked.
-/
import Derived.Test.YtjngphffgdjcfaaGreatDoorProg
import Derived.Ground.NamesProg
import Derived.WalkKit
import Derived.WalkMore
import Derived.WalkSpells
import Derived.Below
import Derived.Lib.Hide
import Derived.Deep.LoopGhost
import Derived.Deep.CutBlock
import Derived.Deep.DeepCutAuto
import Derived.Deep.CutRange
import Derived.RegionTactic
import Derived.Laws.RangeAny
import Derived.Shelf.Lay
import Derived.Shelf.Unicode.ValidAny
import Derived.Test.YtjngphffgdjcfaaGreatDoorShelf
import Derived.Test.YtjngphffgdjcfaaGreatDoorMExDP
import Derived.Laws.AppendOwn
import Derived.Maps.AppendAt
namespace Go.Proofs
open Go.RowKit Go.Shelf Go.Lib
namespace YtjngphffgdjcfaaGreatDoor

def Tabs (w : World) : Prop := Lib.Utf8Tabs (Tryz.laysValid_ren.g 3) (Tryz.laysValid_ren.g 4) w


set_option maxHeartbeats 4000000 in
set_option maxRecDepth 1000000 in
theorem name_any (s : ByteArray) (w : World) (hs : s.size ≤ 9223372036854775807) (hT : ∀ w', Below w.heap.size w w' → Tabs w') :
    Calls Tryz.prog 21 #[.string s] w fun e w' => e = .returned (.bool (nameD s)) ∧ Below w.heap.size w w' := by
  have hbI : ∀ p, Below w.heap.size w (w.iter s p) := fun p => (Below.refl _ w).alloc (Nat.le_refl _) _
  have hnz : ∀ n : Nat, ((s.size : Int) < n) = (s.size < n) := by intro n; simp
  go_enter Tryz.func21, Tryz.ntmps21
  go_wp2_with fail
  go_loopg [2, 4, 7, 8, 9, 10, 11, 12, 13, 14, 15, 16, 17, 18, 19] s.size (fun g _ _ _ _ _ _ _ _ _ _ _ _ _ _ _ wr => ∃ p b : Nat, wr = w.iter s p ∧ b = g ∧ s.size ≤ p + b ∧ runesBad s b p = runesBad s s.size 0)
  case atStart => exact ⟨0, s.size, rfl, rfl, by omega, rfl⟩
  case round =>
    obtain ⟨p, b, rfl, rfl, hb, hr⟩ := hrel
    by_cases hp : p < s.size
    · have hnx : ∀ ty, (Instr.next (.pointer (some ⟨w.heap.size, 0, none⟩)) true ty).run Tryz.prog (w.iter s p) = _ := fun ty => run_next_any w s p ty hp
      have hwd := width_pos s p
      have hle := decode_le s p
      obtain ⟨b', rfl⟩ : ∃ b', b = b' + 1 := ⟨b - 1, by omega⟩
      rw [runesBad_succ, if_pos hp] at hr
      generalize Utf8.decode s p = d at hnx hwd hle hr
      obtain ⟨c, wd⟩ := d
      simp only at hnx hwd hle hr
      have key1 : (c < 32 ∨ c = 127 ∨ c = 47) → nameD s = false := by
        intro h
        have : badRune c = true := by
          unfold badRune
          rcases h with h | h | h <;> simp [h]
        have hr' : runesBad s s.size 0 = true := by rw [← hr, this]; rfl
        unfold nameD
        rw [hr']
        rfl
      have key2 : ¬ (c < 32 ∨ c = 127 ∨ c = 47) → runesBad s b' (p + wd) = runesBad s s.size 0 := by
        intro h
        have : badRune c = false := by
          unfold badRune
          simp only [not_or] at h
          simp [h]
        rw [← hr, this, Bool.false_or]
      have key1H : Hid _ := Lib.hid key1
      have key2H : Hid _ := Lib.hid key2
      have hpH : Hid _ := Lib.hid hp
      have hwH : Hid _ := Lib.hid hwd
      have hbH : Hid _ := Lib.hid hb
      clear key1 key2 hr hwd hle hp hb
      by_cases a1 : c < 32
      · have a1z : (c : Int) < 32 := by omega
        go_wp2_with fail
        go_ret
        exact ⟨by first | rfl | (rw [key1H.out (Or.inl a1)]; rfl), hbI _⟩
      · have a1z : ¬ (c : Int) < 32 := by omega
        by_cases a2 : c = 127
        · have a2z : ((c : Int) == 127) = true := by rw [a2]; rfl
          have e2 := key1H.out (Or.inr (Or.inl a2))
          clear a2
          go_wp2_with fail
          go_ret
          exact ⟨by first | rfl | (rw [e2]; rfl), hbI _⟩
        · have a2z : ((c : Int) == 127) = false := by simp; omega
          by_cases a3 : c = 47
          · have a3z : ((c : Int) == 47) = true := by rw [a3]; rfl
            have e2 := key1H.out (Or.inr (Or.inr a3))
            clear a3
            go_wp2_with fail
            go_ret
            exact ⟨by first | rfl | (rw [e2]; rfl), hbI _⟩
          · have a3z : ((c : Int) == 47) = false := by simp; omega
            have e2 := key2H.out (by omega)
            have e2H : Hid _ := Lib.hid e2
            clear a2 a3 e2
            go_wp2_with fail
            go_roundg b'
            case measure => omega
            case rel => exact ⟨p + wd, b', rfl, rfl, by have := hwH.out; have := hbH.out; omega, e2H.out⟩
    · have hnx : ∀ ty, (Instr.next (.pointer (some ⟨w.heap.size, 0, none⟩)) true ty).run Tryz.prog (w.iter s p) = _ := fun ty => run_next_end w s p ty hp
      have hr0 : runesBad s s.size 0 = false := by
        rw [← hr]
        cases b with
        | zero => rfl
        | succ b => rw [runesBad_succ, if_neg hp]
      have hr0H : Hid _ := Lib.hid hr0
      have cV : Calls Tryz.prog 58 #[.string s] (w.iter s p) _ := Any.utf8_ValidString Tryz.laysValid s (w.iter s p) hs (hT _ (hbI p))
      have hdef : nameD s = (decide (1 ≤ s.size) && decide (s.size ≤ 24) && validD s.data.toList && !(s.toList == [46]) && !(s.toList == [46, 46])) := by
        unfold nameD
        rw [hr0]
        rfl
      have hdefH : Hid _ := Lib.hid hdef
      generalize validD s.data.toList = V at cV hdefH
      clear hr0 hr hb hdef hp
      by_cases g1 : 1 ≤ s.size
      · have g1z : (1 : Int) ≤ (s.size : Int) := by omega
        by_cases g2 : s.size ≤ 24
        · have g2z : (s.size : Int) ≤ 24 := by omega
          cases V with
          | false =>
            go_wp2_with (go_at_call 58; refine cV.mono ?_; rintro e w' ⟨rfl, hb⟩)
            go_ret
            exact ⟨by rw [hdefH.out]; simp, (hbI p).trans (hb.mono (hbI p).size)⟩
          | true =>
            rw [decide_eq_true g1, decide_eq_true g2] at hdefH
            generalize hA1 : (s.toList == [46]) = A1 at hdefH
            generalize hA2 : (s.toList == [46, 46]) = A2 at hdefH
            cases A1 <;> cases A2
            all_goals
              go_wp2_with (go_at_call 58; refine cV.mono ?_; rintro e w' ⟨rfl, hb⟩)
              go_ret
              exact ⟨by rw [hdefH.out]; rfl, (hbI p).trans (hb.mono (hbI p).size)⟩
        · have g2z : ¬ (s.size : Int) ≤ 24 := by omega
          go_wp2_with fail
          go_ret
          exact ⟨by rw [hdefH.out, decide_eq_false g2]; simp, hbI _⟩
      · have g1z : ¬ (1 : Int) ≤ (s.size : Int) := by omega
        go_wp2_with fail
        go_ret
        exact ⟨by rw [hdefH.out, decide_eq_false g1]; simp, hbI _⟩


set_option maxHeartbeats 4000000 in
set_option maxRecDepth 1000000 in
theorem name8_any (s : ByteArray) (w : World) (hs : s.size ≤ 9223372036854775807) :
    Calls Tryz.prog 13 #[.string s] w fun e w' => e = .returned (.bool (name8 s)) ∧ Below w.heap.size w w' := by
  have hbI : ∀ p, Below w.heap.size w (w.iter s p) := fun p => (Below.refl _ w).alloc (Nat.le_refl _) _
  go_enter Tryz.func13, Tryz.ntmps13
  go_wp2_with fail
  go_loopg [2, 3, 4, 7, 8, 9, 10, 11, 12, 13, 14, 15, 16, 17, 18, 19, 20, 21, 22, 23, 24, 25, 26, 27, 28, 29, 30, 31, 32, 33, 34, 35, 36, 37, 38, 39] s.size (fun g _ _ _ _ _ _ _ _ _ _ _ _ _ _ _ _ _ _ _ _ _ _ _ _ _ _ _ _ _ _ _ _ _ _ _ _ wr => ∃ p b : Nat, wr = w.iter s p ∧ b = g ∧ s.size ≤ p + b ∧ runes8 s b p = runes8 s s.size 0)
  case atStart => exact ⟨0, s.size, rfl, rfl, by omega, rfl⟩
  case round =>
    obtain ⟨p, b, rfl, rfl, hb, hr⟩ := hrel
    by_cases hp : p < s.size
    · have hnx : ∀ ty, (Instr.next (.pointer (some ⟨w.heap.size, 0, none⟩)) true ty).run Tryz.prog (w.iter s p) = _ := fun ty => run_next_any w s p ty hp
      have hwd := width_pos s p
      obtain ⟨b', rfl⟩ : ∃ b', b = b' + 1 := ⟨b - 1, by omega⟩
      rw [runes8_succ, if_pos hp] at hr
      generalize Utf8.decode s p = d at hnx hwd hr
      obtain ⟨c, wd⟩ := d
      simp only at hnx hwd hr
      have key1 : bad8 s p c = true → name8 s = false := by
        intro h
        have hr' : runes8 s s.size 0 = true := by rw [← hr, h]; rfl
        unfold name8
        rw [hr']
        rfl
      have key2 : bad8 s p c = false → runes8 s b' (p + wd) = runes8 s s.size 0 := by
        intro h
        rw [← hr, h, Bool.false_or]
      unfold bad8 badRune at key1 key2
      have key1H : Hid _ := Lib.hid key1
      have key2H : Hid _ := Lib.hid key2
      have hpH : Hid _ := Lib.hid hp
      have hwH : Hid _ := Lib.hid hwd
      have hbH : Hid _ := Lib.hid hb
      clear key1 key2 hr hwd hp hb
      have goRound : runes8 s b' (p + wd) = runes8 s s.size 0 → ∃ p' b'' : Nat, w.iter s (p + wd) = w.iter s p' ∧ b'' = b' ∧ s.size ≤ p' + b'' ∧ runes8 s b'' p' = runes8 s s.size 0 := fun e => ⟨p + wd, b', rfl, rfl, by have := hwH.out; have := hbH.out; omega, e⟩
      have goRoundH : Hid _ := Lib.hid goRound
      clear goRound
      by_cases a1 : c < 32
      · have a1z : (c : Int) < 32 := by omega
        have e2 := key1H.out (by simp [a1])
        go_wp2_with fail
        go_ret
        exact ⟨by first | rfl | (rw [e2]; rfl), hbI _⟩
      · have a1z : ¬ (c : Int) < 32 := by omega
        by_cases a3 : c = 47
        · have a3z : ((c : Int) == 47) = true := by rw [a3]; rfl
          have e2 := key1H.out (by simp [a3])
          clear a3
          go_wp2_with fail
          go_ret
          exact ⟨by first | rfl | (rw [e2]; rfl), hbI _⟩
        · have a3z : ((c : Int) == 47) = false := by simp; omega
          by_cases a2 : c = 127
          · have a2z : ((c : Int) == 127) = true := by rw [a2]; rfl
            have e2 := key1H.out (by simp [a2])
            clear a2 a3
            go_wp2_with fail
            go_ret
            exact ⟨by first | rfl | (rw [e2]; rfl), hbI _⟩
          · have a2z : ((c : Int) == 127) = false := by simp; omega
            by_cases a4 : c = 65533
            · have a4z : ((c : Int) == 65533) = true := by rw [a4]; rfl
              by_cases a5 : s.size < p + 3
              · have a5z : (s.size : Int) - (p : Int) < 3 := by omega
                have e2 := key1H.out (by simp [a4, a5])
                have hp1 : (p : Int) < (s.size : Int) := by have := hpH.out; omega
                clear a2 a3 a4
                go_wp2_with fail
                go_ret
                exact ⟨by first | rfl | (rw [e2]; rfl), hbI _⟩
              · have a5z : ¬ (s.size : Int) - (p : Int) < 3 := by omega
                have a6z : (p : Int) + 3 ≤ (s.size : Int) := by omega
                have a6 : p + 3 ≤ s.size := by omega
                cases a7 : ((s.extract p (p + 3)).toList == [239, 191, 189]) with
                | false =>
                  have e2 := key1H.out (by simp [a4, a7])
                  clear a2 a3 a4
                  go_wp2_with fail
                  go_ret
                  exact ⟨by first | rfl | (rw [e2]; rfl), hbI _⟩
                | true =>
                  have e2 := goRoundH.out (key2H.out (by simp [a4, a5, a7]))
                  have e2H : Hid _ := Lib.hid e2
                  clear a2 a3 a4 e2
                  go_wp2_with fail
                  go_roundg b'
                  case measure => omega
                  case rel => exact e2H.out
            · have a4z : ((c : Int) == 65533) = false := by simp; omega
              have e2 := goRoundH.out (key2H.out (by simp [a1, a2, a3, a4]))
              have e2H : Hid _ := Lib.hid e2
              clear a2 a3 a4 e2
              go_wp2_with fail
              go_roundg b'
              case measure => omega
              case rel => exact e2H.out
    · have hnx : ∀ ty, (Instr.next (.pointer (some ⟨w.heap.size, 0, none⟩)) true ty).run Tryz.prog (w.iter s p) = _ := fun ty => run_next_end w s p ty hp
      have hr0 : runes8 s s.size 0 = false := by
        rw [← hr]
        cases b with
        | zero => rfl
        | succ b => rw [runes8_succ, if_neg hp]
      have hdef : name8 s = (decide (1 ≤ s.size) && decide (s.size ≤ 24) && !(s.toList == [46]) && !(s.toList == [46, 46])) := by
        unfold name8
        rw [hr0]
        rfl
      have hdefH : Hid _ := Lib.hid hdef
      clear hr0 hr hb hdef hp
      by_cases g1 : 1 ≤ s.size
      · have g1z : (1 : Int) ≤ (s.size : Int) := by omega
        by_cases g2 : s.size ≤ 24
        · have g2z : (s.size : Int) ≤ 24 := by omega
          rw [decide_eq_true g1, decide_eq_true g2] at hdefH
          generalize hA1 : (s.toList == [46]) = A1 at hdefH
          generalize hA2 : (s.toList == [46, 46]) = A2 at hdefH
          cases A1 <;> cases A2
          all_goals
            go_wp2_with fail
            go_ret
            exact ⟨by rw [hdefH.out]; rfl, hbI _⟩
        · have g2z : ¬ (s.size : Int) ≤ 24 := by omega
          go_wp2_with fail
          go_ret
          exact ⟨by rw [hdefH.out, decide_eq_false g2]; simp, hbI _⟩
      · have g1z : ¬ (1 : Int) ≤ (s.size : Int) := by omega
        go_wp2_with fail
        go_ret
        exact ⟨by rw [hdefH.out, decide_eq_false g1]; simp, hbI _⟩

theorem closure_any (s : ByteArray) (w : World) (hs : s.size ≤ 9223372036854775807) (hT : ∀ w', Below w.heap.size w w' → Tabs w') :
    Calls Tryz.prog 57 #[.string s] w fun e w' => e = .returned (.bool (!nameD s)) ∧ Below w.heap.size w w' := by
  have cN := name_any s w hs hT
  generalize nameD s = V at cN ⊢
  go_enter Tryz.func57, Tryz.ntmps57
  cases V with
  | true =>
    go_wp2_with (go_at_call 21; refine cN.mono ?_; rintro e w' ⟨rfl, hb⟩)
    go_ret
    exact ⟨rfl, hb⟩
  | false =>
    go_wp2_with (go_at_call 21; refine cN.mono ?_; rintro e w' ⟨rfl, hb⟩)
    go_ret
    exact ⟨rfl, hb⟩

set_option maxHeartbeats 4000000 in
set_option maxRecDepth 1000000 in
theorem idx_any (w : World) (g : Nat) (l : List ByteArray) (hg : w.heap[g]? = some (.cells (l.map Value.string).toArray 9 (0, 0))) (hl : l.length ≤ 9223372036854775807) (hs : ∀ x ∈ l, x.size ≤ 9223372036854775807) (hT : ∀ w', Below w.heap.size w w' → Tabs w') :
    Calls Tryz.prog 86 #[.slice (some ⟨g, 0, none⟩) l.length l.length, .func (.func 57) #[] #[]] w fun e w' => (∃ i : Int, e = .returned (.int .i64 i) ∧ (decide (0 ≤ i) = l.any fun x => !nameD x)) ∧ Below w.heap.size w w' := by
  have hlt : g < w.heap.size := by
    rcases Nat.lt_or_ge g w.heap.size with h | h
    · exact h
    · rw [Array.getElem?_eq_none h] at hg; cases hg
  have hgH : Hid _ := Lib.hid hg
  have hsH : Hid _ := Lib.hid hs
  have hTH : Hid _ := Lib.hid hT
  clear hg hs hT
  go_enter Tryz.func86, Tryz.ntmps86
  go_wp2_with fail
  go_loopg [5, 8, 9, 10, 11, 12, 13, 14, 15, 16, 17, 18, 4] l.length (fun gm _ iv _ _ _ _ _ _ _ _ _ _ _ wr => ∃ i : Nat, i + gm = l.length ∧ iv = .int .i64 (i : Int) ∧ (l.take i).all nameD = true ∧ Below w.heap.size w wr)
  case atStart => exact ⟨0, by omega, rfl, rfl, Below.refl _ _⟩
  case round =>
    obtain ⟨i, hi, rfl, hall, hbw⟩ := hrel
    have hallH : Hid _ := Lib.hid hall
    clear hall
    rename World => wr
    by_cases hlt2 : i < l.length
    · have hiz : (i : Int) < (l.length : Int) := by omega
      have hc : wr.cell? ⟨g, i, none⟩ = some (.string l[i]) := by
        have : wr.heap[g]? = some (.cells (l.map Value.string).toArray 9 (0, 0)) := by rw [hbw.block g hlt]; exact hgH.out
        simp [World.cell?, this, hlt2]
      have cC := closure_any l[i] wr (hsH.out _ (List.getElem_mem hlt2)) (fun w' hb => hTH.out w' (hbw.trans (hb.mono hbw.size)))
      have hV : nameD l[i] = nameD l[i] := rfl
      generalize hVV : nameD l[i] = V at cC
      have hVH : Hid _ := Lib.hid hVV
      clear hVV hV
      generalize l[i] = x at hc cC
      cases V with
      | true =>
        go_wp2_with (go_at_call 57; refine cC.mono ?_; rintro e w' ⟨rfl, hb⟩)
        go_roundg (gk - 1)
        case measure => omega
        case rel => exact ⟨i + 1, by omega, rfl, by rw [List.take_succ_eq_append_getElem hlt2, List.all_append, hallH.out]; simp [hVH.out], hbw.trans (hb.mono hbw.size)⟩
      | false =>
        go_wp2_with (go_at_call 57; refine cC.mono ?_; rintro e w' ⟨rfl, hb⟩)
        go_ret
        refine ⟨⟨(i : Int), rfl, ?_⟩, hbw.trans (hb.mono hbw.size)⟩
        have h1 : l.any (fun x => !nameD x) = true := List.any_eq_true.2 ⟨l[i], List.getElem_mem hlt2, by rw [hVH.out]; rfl⟩
        rw [h1]
        simp
    · have hiz : ¬ (i : Int) < (l.length : Int) := by omega
      go_wp2_with fail
      go_ret
      refine ⟨⟨-1, rfl, ?_⟩, hbw⟩
      have h0 := hallH.out
      rw [List.take_of_length_le (by omega)] at h0
      have h1 : l.any (fun x => !nameD x) = false := by
        rw [List.any_eq_false]
        intro x hx
        have := List.all_eq_true.1 h0 x hx
        simp [this]
      rw [h1]
      rfl

set_option maxRecDepth 1000000 in
theorem cont_any (w : World) (g : Nat) (l : List ByteArray) (hg : w.heap[g]? = some (.cells (l.map Value.string).toArray 9 (0, 0))) (hl : l.length ≤ 9223372036854775807) (hs : ∀ x ∈ l, x.size ≤ 9223372036854775807) (hT : ∀ w', Below w.heap.size w w' → Tabs w') :
    Calls Tryz.prog 56 #[.slice (some ⟨g, 0, none⟩) l.length l.length, .func (.func 57) #[] #[]] w fun e w' => e = .returned (.bool (l.any fun x => !nameD x)) ∧ Below w.heap.size w w' := by
  have cI := idx_any w g l hg hl hs hT
  clear hg hs hT
  generalize l.any (fun x => !nameD x) = V at cI ⊢
  go_enter Tryz.func56, Tryz.ntmps56
  go_wp2_with (go_at_call 86; refine cI.mono ?_; rintro e w' ⟨⟨i, rfl, hi⟩, hb⟩)
  go_ret
  exact ⟨by rw [← hi]; rfl, hb⟩

theorem restD_size (s : ByteArray) : (restD s).size ≤ s.size := by
  have h : (restD s).size = (Lib.trimPrefix s.data.toList [47]).length := by
    show (Lib.trimPrefix s.data.toList [47]).toArray.size = _
    simp
  have h2 : s.size = s.data.toList.length := by
    show s.data.size = _
    simp
  rw [h, h2]
  unfold Lib.trimPrefix
  split
  · simp
  · exact Nat.le_refl _
theorem splitB_size (sep : ByteArray) : ∀ (k : Nat) (s x : ByteArray), x ∈ Lib.splitB sep 0 k s → x.size ≤ s.size := by
  intro k
  induction k with
  | zero => intro s x hx; simp [Lib.splitB] at hx; subst hx; exact Nat.le_refl _
  | succ k ih =>
    intro s x hx
    unfold Lib.splitB at hx
    split at hx
    · simp at hx; subst hx; exact Nat.le_refl _
    · rcases List.mem_cons.1 hx with rfl | hx
      · simp [ByteArray.size_extract]; omega
      · refine Nat.le_trans (ih _ _ hx) ?_
        simp [ByteArray.size_extract]
def SplitPost (w : World) (r : Option (List ByteArray)) (errno : Int) : Ending → World → Prop := fun e w' => Below w.heap.size w w' ∧ match r with
  | none => e = .returned (.tuple #[.slice none 0 0, .int .i64 errno])
  | some l => ∃ sv, e = .returned (.tuple #[sv, .int .i64 0]) ∧ ((l = [] ∧ sv = .slice none 0 0) ∨ ∃ g : Nat, sv = .slice (some ⟨g, 0, none⟩) l.length l.length ∧ w.heap.size ≤ g ∧ w'.heap[g]? = some (.cells (l.map Value.string).toArray 9 (0, 0)))

set_option maxHeartbeats 4000000 in
set_option maxRecDepth 1000000 in
theorem split_any (s : ByteArray) (m : Int) (w : World) (hs : s.size ≤ 9223372036854775807) (hm : w.cell? ⟨2, 0, none⟩ = some (.int .i64 m)) (h3 : 2 < w.heap.size) (hT : ∀ w', Below w.heap.size w w' → Tabs w') :
    Calls Tryz.prog 20 #[.string s] w (SplitPost w (splitD s) 1) := by
  have cP := Tryz.strings_CutPrefix s slash w
  change Calls Tryz.prog _ _ _ (fun e w' => e = .returned (.tuple #[.string (restD s), .bool (Lib.hasPrefix s.data.toList [47])]) ∧ w' = w) at cP
  go_enter Tryz.func20, Tryz.ntmps20
  cases hV : Lib.hasPrefix s.data.toList [47] with
  | false =>
    rw [hV] at cP
    go_wp2_with (go_at_call 54; refine cP.mono ?_; rintro e w' ⟨rfl, rfl⟩)
    go_ret2
    exact ⟨Below.refl _ _, by unfold splitD; rw [if_pos (Or.inl hV)]; rfl⟩
  | true =>
    rw [hV] at cP
    by_cases h2 : s.size ≤ 200
    · have h2z : ¬ (200 : Int) < (s.size : Int) := by omega
      have hst : ¬ (Lib.hasPrefix s.data.toList [47] = false ∨ 200 < s.size) := by rw [hV]; simp; omega
      cases hE : (restD s).toList.isEmpty with
      | true =>
        go_wp2_with (go_at_call 54; refine cP.mono ?_; rintro e w' ⟨rfl, rfl⟩)
        go_ret2
        refine ⟨Below.refl _ _, ?_⟩
        unfold splitD
        rw [if_neg hst, if_pos hE]
        exact ⟨_, rfl, Or.inl ⟨rfl, rfl⟩⟩
      | false =>
        have hrs : (restD s).size ≤ 200 := Nat.le_trans (restD_size s) h2
        have hlen : (wordsD s).length = Lib.countB (restD s) slash + 1 := Lib.splitB_all slash (by decide) 0 _ _ rfl
        have hlw : (wordsD s).length ≤ 201 := by
          have := Lib.countB_le slash (by decide) _ (restD s) (Nat.le_refl _)
          omega
        have hws : ∀ x ∈ wordsD s, x.size ≤ 9223372036854775807 := fun x hx => by have := splitB_size slash _ _ x hx; omega
        have cS := Tryz.strings_Split (restD s) slash m w (by omega) hm (by decide)
        rw [← hlen] at cS
        change Calls Tryz.prog _ _ _ (fun e w' => e = .returned (.slice (some ⟨w.heap.size, 0, none⟩) (wordsD s).length (wordsD s).length) ∧ w' = w.alloc (.cells ((wordsD s).map Value.string).toArray 9)) at cS
        have hb1 : Below w.heap.size w (w.alloc (.cells ((wordsD s).map Value.string).toArray 9)) := (Below.refl _ w).alloc (Nat.le_refl _) _
        have cC := cont_any (w.alloc (.cells ((wordsD s).map Value.string).toArray 9)) w.heap.size (wordsD s) (heap_alloc_new w _) (by omega) hws (fun w' hb => hT w' (hb1.trans (hb.mono hb1.size)))
        have hrow : (w.alloc (.cells ((wordsD s).map Value.string).toArray 9)).heap[w.heap.size]? = some (.cells ((wordsD s).map Value.string).toArray 9 (0, 0)) := heap_alloc_new w _
        have hz1 : w.heap.size < (w.alloc (.cells ((wordsD s).map Value.string).toArray 9)).heap.size := by simp
        have hsplit : splitD s = if 8 < (wordsD s).length ∨ (wordsD s).any (fun x => !nameD x) = true then none else some (wordsD s) := by
          unfold splitD
          rw [if_neg hst, if_neg (by rw [hE]; simp)]
        generalize w.alloc (.cells ((wordsD s).map Value.string).toArray 9) = w1 at cS cC hb1 hrow hz1
        have hsplitH : Hid _ := Lib.hid hsplit
        have hrowH : Hid _ := Lib.hid hrow
        clear hsplit hrow hlen hws hrs hst hT
        generalize wordsD s = ws at cS cC hsplitH hrowH hlw
        by_cases h8 : ws.length ≤ 8
        · have h8z : ¬ (8 : Int) < (ws.length : Int) := by omega
          generalize hA : ws.any (fun x => !nameD x) = A at cC hsplitH
          cases A with
          | true =>
            go_wp2_with (first | (go_at_call 54; refine cP.mono ?_; rintro e w' ⟨rfl, rfl⟩) | (go_at_call 55; refine cS.mono ?_; rintro e w' ⟨rfl, rfl⟩) | (go_at_call 56; refine cC.mono ?_; rintro e w' ⟨rfl, hb⟩))
            go_ret2
            refine ⟨hb1.trans (hb.mono hb1.size), ?_⟩
            rw [hsplitH.out, if_pos (Or.inr trivial)]
            rfl
          | false =>
            go_wp2_with (first | (go_at_call 54; refine cP.mono ?_; rintro e w' ⟨rfl, rfl⟩) | (go_at_call 55; refine cS.mono ?_; rintro e w' ⟨rfl, rfl⟩) | (go_at_call 56; refine cC.mono ?_; rintro e w' ⟨rfl, hb⟩))
            go_ret2
            refine ⟨hb1.trans (hb.mono hb1.size), ?_⟩
            rw [hsplitH.out, if_neg (by simp; omega)]
            exact ⟨_, rfl, Or.inr ⟨_, rfl, Nat.le_refl _, by rw [hb.block _ hz1]; exact hrowH.out⟩⟩
        · have h8z : (8 : Int) < (ws.length : Int) := by omega
          go_wp2_with (first | (go_at_call 54; refine cP.mono ?_; rintro e w' ⟨rfl, rfl⟩) | (go_at_call 55; refine cS.mono ?_; rintro e w' ⟨rfl, rfl⟩))
          go_ret2
          refine ⟨hb1, ?_⟩
          rw [hsplitH.out, if_pos (Or.inl (by omega))]
          rfl
    · have h2z : (200 : Int) < (s.size : Int) := by omega
      go_wp2_with (go_at_call 54; refine cP.mono ?_; rintro e w' ⟨rfl, rfl⟩)
      go_ret2
      exact ⟨Below.refl _ _, by unfold splitD; rw [if_pos (Or.inr (by omega))]; rfl⟩

theorem get_bang (s : ByteArray) (i : Nat) (h : i < s.size) : (s.get! i) = s[i]'h := by
  show s.data[i]! = _
  rw [getElem!_pos s.data i h]
  rfl
theorem ownsRow_below {w w' : World} {base : Nat} {e : TypeId} {size n : Nat} {v : Value} {xs : List Value} (h : w.ownsRow base e size v n xs) (hb : Below w.heap.size w w') : w'.ownsRow base e size v n xs := by
  obtain ⟨h0, h | ⟨g, cap, cur, h1, h2, h3, r⟩⟩ := h
  · exact ⟨h0, .inl h⟩
  · have hlt : g < w.heap.size := by
      rcases Nat.lt_or_ge g w.heap.size with h | h
      · exact h
      · rw [Array.getElem?_eq_none h] at h3; cases h3
    exact ⟨h0, .inr ⟨g, cap, cur, h1, h2, by rw [hb.block g hlt]; exact h3, r⟩⟩
theorem parts_of {P : Program} {t : TypeId} {z : Value} {a b : Nat} (h : (P.info? t).map (fun i => (i.zero, i.size, i.bytes)) = some (some z, a, b)) : ∃ i, P.info? t = some i ∧ i.zero = some z ∧ i.size = a ∧ i.bytes = b := by
  cases hi : P.info? t with
  | none => rw [hi] at h; cases h
  | some i =>
    rw [hi] at h
    simp at h
    exact ⟨i, rfl, h.1, h.2.1, h.2.2⟩
theorem news_oneS (w : World) (x : ByteArray) (E : TypeId) : ∀ (j : Nat) u, [Value.string x][j]? = some u → (w.alloc (.cells #[.string x] E)).cell? ((⟨w.heap.size, 0, none⟩ : Addr).add j) = some u := fun j u hu => by
  have hn : (w.alloc (.cells #[.string x] E)).heap[w.heap.size]? = some (.cells #[.string x] E (0, 0)) := heap_alloc_new w _
  cases j with
  | zero =>
    have hu' : Value.string x = u := by simpa using hu
    subst hu'
    show World.cell? _ ⟨w.heap.size, 0, none⟩ = _
    unfold World.cell?
    rw [hn]
    rfl
  | succ j => simp at hu
/-- The rows that the reference grows. -/
def Row8 (w0 w : World) (sv : Value) (l : List ByteArray) : Prop := w.ownsRow w0.heap.size 9 1 sv l.length (l.map Value.string) ∧ Below w0.heap.size w0 w
theorem Row8.post {w0 w : World} {sv : Value} {l : List ByteArray} (h : Row8 w0 w sv l) : (l = [] ∧ sv = .slice none 0 0) ∨ ∃ g cap : Nat, sv = .slice (some ⟨g, 0, none⟩) l.length cap ∧ ∀ (j : Nat) x, l[j]? = some x → w.cell? ⟨g, j, none⟩ = some (.string x) := by
  obtain ⟨⟨hl, h | ⟨g, cap, cur, h1, h2, h3, h4, h5, h6, h7⟩⟩, hb⟩ := h
  · exact Or.inl ⟨List.length_eq_zero_iff.1 h.2, h.1⟩
  · refine Or.inr ⟨g, cap, h1, fun j x hx => ?_⟩
    have hj : (l.map Value.string)[j]? = some (.string x) := by simp [hx]
    rw [← h7, List.getElem?_take] at hj
    split at hj
    · simp [World.cell?, h3]
      simpa using hj
    · cases hj

def Split8Post (w : World) (r : Option (List ByteArray)) : Ending → World → Prop := fun e w' => Below w.heap.size w w' ∧ match r with
  | none => e = .returned (.tuple #[.slice none 0 0, .int .i64 1])
  | some l => ∃ sv, e = .returned (.tuple #[sv, .int .i64 0]) ∧ Row8 w w' sv l

end YtjngphffgdjcfaaGreatDoor
end Go.Proofs
