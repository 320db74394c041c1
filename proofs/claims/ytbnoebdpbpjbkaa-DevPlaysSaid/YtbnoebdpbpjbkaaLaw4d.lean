/-
  Whether a store tells sixteen sectors.
-/
import Derived.Test.YtbnoebdpbpjbkaaLaw4c
import Derived.Test.YtbnoebdpbpjbkaaLastsP
import Derived.Test.YtbnoebdpbpjbkaaArr
import Derived.Deep.LoopGhost
import Derived.Deep.WholeRow
namespace Go.Lz
open Go.RowKit
/-- The device counted j reads more. -/
def WalS.cnt (S : WalS) (j : Nat) : WalS := { S with dev := S.dev.countedN j }
theorem WalS.asked_cnt (S : WalS) (k : Nat) : ∃ j, S.asked k = S.cnt j := by
  unfold WalS.asked
  split
  · exact ⟨0, rfl⟩
  · exact ⟨1, rfl⟩
theorem DevS.countedN_add (D : DevS) (i j : Nat) : (D.countedN i).countedN j = D.countedN (i + j) := by
  induction j with
  | zero => rfl
  | succ j ih => show ((D.countedN i).countedN j).counted = _; rw [ih]; rfl
theorem WalS.cnt_cnt (S : WalS) (i j : Nat) : (S.cnt i).cnt j = S.cnt (i + j) := by
  unfold WalS.cnt
  simp only [DevS.countedN_add]
@[simp] theorem WalS.cnt_get (S : WalS) (j k : Nat) : (S.cnt j).get k = S.get k := by unfold WalS.get WalS.cnt; simp
@[simp] theorem WalS.cnt_isDead (S : WalS) (j : Nat) : (S.cnt j).isDead = S.isDead := by unfold WalS.isDead WalS.cnt; simp
@[simp] theorem WalS.cnt_size (S : WalS) (j : Nat) : (S.cnt j).size = S.size := by unfold WalS.size WalS.cnt; simp
theorem WalS.wrong_ok {S : WalS} (hd : S.isDead = false) {k : Nat} (hk : k < S.size) : S.wrong (k : Int) = 0 := by
  unfold WalS.wrong
  rw [if_neg (by simp [hd]), if_neg (by omega)]
theorem Live.cnt {S : WalS} {g0 : Nat → Bytes} (h : Live S g0) (j : Nat) : Live (S.cnt j) g0 := by
  induction j with
  | zero => exact h
  | succ j ih => exact ih.counted
theorem Rec.cnt {S : WalS} {n c d : Nat} {h : Nat → Nat → Bytes} (r : Rec S n c d h) (j : Nat) : Rec (S.cnt j) n c d h := by
  obtain ⟨g0, hl, h1, h2⟩ := r.ex
  exact ⟨⟨g0, hl.cnt j, h1, h2⟩, by simpa using r.size, r.all, r.last, r.le, r.small⟩
theorem Rec.fused {S : WalS} {n c d : Nat} {h : Nat → Nat → Bytes} (r : Rec S n c d h) {k : Int} (hk : k ≤ 9223372036854775807) : Rec { S with dev := S.dev.fused k } n c d h := by
  obtain ⟨g0, hl, h1, h2⟩ := r.ex
  exact ⟨⟨g0, ⟨⟨hl.ok.n, hl.ok.now, hl.ok.wait⟩, hl.dok.fused hk, hl.dead, hl.ddead, hl.quiet.core rfl rfl rfl, hl.waitN, hl.nowN⟩, h1, h2⟩, r.size, r.all, r.last, r.le, r.small⟩
end Go.Lz
namespace Go.Proofs.Ytbnoebdpbpjbkaa
open Go.RowKit Go.Lz
section
variable {w0 w : World} {p q : Nat} {S : WalS} {L : Locals}

/-- Does the store tell these? -/
def _root_.Go.Lz.tellsB (S : WalS) (f : Nat → Int) : Bool := (List.range 16).all fun i => decide (S.get i = wantB (f i))
theorem _root_.Go.Lz.tellsB_iff {S : WalS} {f : Nat → Int} : tellsB S f = true ↔ ∀ i, i < 16 → S.get i = wantB (f i) := by simp [tellsB]
theorem _root_.Go.Lz.tellsB_cnt (S : WalS) (j : Nat) (f : Nat → Int) : tellsB (S.cnt j) f = tellsB S f := by simp [tellsB]
theorem _root_.Go.Lz.tellsB_no {S : WalS} {f : Nat → Int} {i : Nat} (hi : i < 16) (h : S.get i ≠ wantB (f i)) : tellsB S f = false := by
  cases e : tellsB S f with
  | false => rfl
  | true => exact absurd (tellsB_iff.1 e i hi) h

theorem beq_no {a b : Bytes} (h : a ≠ b) : (a == b) = false := by simpa using h
theorem beq_yes {a b : Bytes} (h : a = b) : (a == b) = true := by simpa using h

theorem buf_zero (w : World) : Buf 5 (w.alloc (.cells cells64 5)) w.heap.size (.slice (some ⟨w.heap.size, 0, none⟩) 64 64) zero64 :=
  ⟨64, cells64, (0, 0), rfl, heap_alloc_new w _, by decide, by decide, by rw [cells64_size]; exact Nat.le_refl _, by rw [← cells64_eq]; exact List.take_of_length_le (by rw [Array.length_toList, cells64_size]; exact Nat.le_refl _), fun i _ => by simp⟩

/-- What tells answers. -/
def TellsPost (w0 w : World) (p q : Nat) (S : WalS) (L : Locals) (f : Nat → Int) (e : Ending) (w' : World) : Prop :=
  ∃ j, Did w0 w (TStore p q (S.cnt j)) L (.bool (tellsB S f)) e w'

set_option maxRecDepth 100000 in
set_option maxHeartbeats 1000000 in
theorem tells_any (h : Own w0 w (TStore p q S) L) (hd : S.isDead = false) (hn : 16 ≤ S.size) (f : Nat → Int) : Calls Try.prog 50 #[Dptr p, .agg (arrOf 16 f)] w (TellsPost w0 w p q S L f) := by
  have hcv := run_bytes
  go_enter Try.func50, Try.ntmps50
  go_upto_block 0 with fail
  have hA : ArrAt 81 (w.alloc (.cells (arrOf 16 f) 81)) w.heap.size 16 f := heap_alloc_new w _
  have h1 := h.local_ (keepsStore p q S) ((Below.refl _ w).alloc (Nat.le_refl _) _) (Nat.le_refl _) hA
  have hmk : ∀ W : World, (Instr.makeSlice 28 (.int .i64 64) (.int .i64 64)).run Try.prog W = .ok (.slice (some ⟨W.heap.size, 0, none⟩) 64 64) (W.alloc (.cells cells64 5)) := fun _ => by kernel_rfl
  have hw0 := h.size
  go_wp2_with fail
  go_loopg [5] 16 (fun d iv wr => ∃ i j : Nat, i + d = 16 ∧ iv = .int .i64 (i : Int) ∧ (∀ t, t < i → S.get t = wantB (f t)) ∧ Own w0 wr (TStore p q (S.cnt j)) (upd L w.heap.size (some (.cells (arrOf 16 f) 81))) ∧ w.heap.size < wr.heap.size)
  case atStart => exact ⟨0, 0, rfl, rfl, fun t ht => by omega, h1, by simp⟩
  case round =>
    obtain ⟨i, j, hid, rfl, hall, hO, hwl⟩ := hrel
    have hid' : Hid (i + gk = 16) := hid
    by_cases hi : i < 16
    · have hi' : (i : Int) < 16 := by omega
      have cr := read4_ok hO (i := (i : Int)) (k := i) rfl (WalS.wrong_ok (by simpa using hd) (by simp; omega)) (b := S.get i) (by simp)
      have hallH : Hid _ := Lib.hid hall
      clear hid hall
      go_wp2_with fail
      refine cr.mono ?_
      rintro e w3 ⟨v3, g3, o3, rfl, hb3, hg3, hO3, hs3⟩
      clear cr
      obtain ⟨j', hj'⟩ := (S.cnt j).asked_cnt i
      rw [hj', WalS.cnt_cnt] at hO3
      clear hj'
      have hAx : (upd (upd L w.heap.size (some (.cells (arrOf 16 f) 81))) g3 (some o3)) w.heap.size = some (.cells (arrOf 16 f) 81) := by
        rw [upd_other _ (by omega), upd_same]
      have hO4 := hO3.below (keepsStore _ _ _) ((Below.refl _ w3).alloc (Nat.le_refl _) (.cells cells64 5))
      have hA4 : ArrAt 81 (w3.alloc (.cells cells64 5)) w.heap.size 16 f := hO4.loc hAx
      have hA3 : ArrAt 81 w3 w.heap.size 16 f := hO3.loc hAx
      have c1 := hA3.cell hi
      have hwl3 : w.heap.size < w3.heap.size := by omega
      have hbz : Buf 5 (w3.alloc (.cells cells64 5)) g3 v3 (S.get i) := hb3.buf (hO4.loc (upd_same _ _ _))
      by_cases hx : 0 < f i
      · go_wp2_with fail
        refine (sector_any _ (f i)).mono ?_
        rintro e w5 ⟨v5, g5, rfl, hv5, hg5, hB5⟩
        have hO5 := hO4.below (keepsStore _ _ _) hB5
        have q2 := run_string hv5
        have q1 := run_string (hbz.chg (M := fun _ => False) (Chg.of_below hB5) (fun h => h))
        have hs5 := hB5.size
        simp only [World.size_alloc] at hs5
        have hwx : wantB (f i) = bytesOf (f i) 64 := by simp [wantB, hx]
        have hO5' := hO5.drop (hO.none_ hg3)
        clear hv5 hB5 hb3 hbz hO3 hO4 hA4 hA3 c1
        by_cases he : S.get i = bytesOf (f i) 64
        · have hbe := beq_yes he
          have heH : Hid _ := Lib.hid he
          clear he
          go_wp2_with fail
          go_roundg (gk - 1)
          case measure => have := hid'.out; omega
          case rel =>
            exact ⟨i + 1, j + j', by have := hid'.out; omega, by go_num, fun t ht => by
              by_cases e : t = i
              · subst e; rw [hwx]; exact heH.out
              · exact hallH.out t (by omega), hO5', by omega⟩
        · have hbe := beq_no he
          go_wp2_with fail
          go_ret
          have htb := tellsB_no hi (by rw [hwx]; exact he)
          exact ⟨j + j', by rw [htb]; rfl, hO5'.drop (h.none_ (Nat.le_refl _)), by omega⟩
      · have hwx : wantB (f i) = zero64 := by simp [wantB, hx]
        have q2 := run_string (buf_zero w3)
        have q1 := run_string hbz
        have hO5' := hO4.drop (hO.none_ hg3)
        clear hb3 hbz hO3 hO4 hA4 hA3
        by_cases he : S.get i = zero64
        · have hbe := beq_yes he
          have heH : Hid _ := Lib.hid he
          clear he
          go_wp2_with fail
          go_roundg (gk - 1)
          case measure => have := hid'.out; omega
          case rel =>
            exact ⟨i + 1, j + j', by have := hid'.out; omega, by go_num, fun t ht => by
              by_cases e : t = i
              · subst e; rw [hwx]; exact heH.out
              · exact hallH.out t (by omega), hO5', by simp; omega⟩
        · have hbe := beq_no he
          go_wp2_with fail
          go_ret
          have htb := tellsB_no hi (by rw [hwx]; exact he)
          exact ⟨j + j', by rw [htb]; rfl, hO5'.drop (h.none_ (Nat.le_refl _)), by simp; omega⟩
    · obtain rfl : i = 16 := by omega
      have hallH : Hid _ := Lib.hid hall
      clear hall hid
      go_wp2_with fail
      go_ret
      have htb := tellsB_iff.2 hallH.out
      exact ⟨j, by rw [htb]; rfl, hO.drop (h.none_ (Nat.le_refl _)), by omega⟩
end
end Go.Proofs.Ytbnoebdpbpjbkaa
