/-
  A new device to which every sector was carried.
-/
import Derived.Test.YtbnoebdpbpjbkaaLaw1e
import Derived.Test.YtbnoebdpbpjbkaaWal6
import Derived.Deep.LoopGhost
namespace Go.Lz
open Go.RowKit
/-- The first i sectors are carried, and wait. -/
def DevS.carry (D : DevS) (i : Nat) (c : Int) : DevS := ⟨D.n, fun _ => zero64, fun k => if k < i then some (D.now k) else none, c, -1, false⟩
/-- All are carried. -/
def DevS.carried (D : DevS) (c : Int) : DevS := ⟨D.n, fun k => if k < D.n then D.now k else zero64, fun _ => none, c, -1, false⟩

theorem DevS.carry_write {D : DevS} (h : D.ok) {i : Nat} (hi : i < D.n) (c : Int) : (D.carry i c).write (i : Int) (D.now i) = (0, D.carry (i + 1) (wrap64 (c + 1))) := by
  have hw : (D.carry i c).wrong (i : Int) = 0 := by
    unfold DevS.wrong
    rw [if_neg (by simp [DevS.carry]), if_neg (by show ¬ ((i : Int) < 0 ∨ (D.n : Int) ≤ (i : Int)); omega)]
  unfold DevS.write
  rw [hw, if_neg (by decide), if_neg (by simp [h.now i]), if_neg (by simp [DevS.carry]), Int.toNat_natCast]
  have e : (fun k => if k < i + 1 then some (D.now k) else none) = upd (fun k => if k < i then some (D.now k) else none) i (some (D.now i)) := by
    funext k
    by_cases e : k = i
    · subst e; simp
    · rw [upd_other _ e]
      by_cases h : k < i
      · rw [if_pos h, if_pos (by omega)]
      · rw [if_neg h, if_neg (by omega)]
  simp only [DevS.burned, DevS.put, DevS.carry, e]
  rfl
theorem DevS.carry_flush (D : DevS) (c : Int) : (D.carry D.n c).flush = (0, D.carried (wrap64 (c + 1))) := by
  unfold DevS.flush
  rw [if_neg (by simp [DevS.carry]), if_neg (by simp [DevS.carry])]
  have e : (D.carry D.n c).burned.now = fun k => if k < D.n then D.now k else zero64 := by
    funext k
    show (if k < D.n then some (D.now k) else none : Option Bytes).getD zero64 = _
    split <;> rfl
  show (0, ({ (D.carry D.n c).burned with last := (D.carry D.n c).burned.now, wait := fun _ => none } : DevS)) = _
  rw [e]
  rfl
theorem DevS.carried_ok {D : DevS} (h : D.ok) (c : Int) : (D.carried c).ok := ⟨h.n, by simp [DevS.carried], fun k => by
  show (if k < D.n then D.now k else zero64).length = 64
  split
  · exact h.now k
  · rfl, fun _ _ e => by cases e⟩
end Go.Lz
namespace Go.Proofs.Ytbnoebdpbpjbkaa
open Go.RowKit Go.Lz
section
variable {w : World} {q : Nat} {D : DevS} {F : Nat → Prop}

/-- Between two rounds: i sectors are carried to x. -/
def CarryRel (w : World) (q x : Nat) (D : DevS) (F : Nat → Prop) (i : Nat) (wr : World) : Prop :=
  ∃ c Fx, DevAt Try.prog wr x (D.carry i c) Fx ∧ (∀ k, Fx k → w.heap.size ≤ k) ∧ DevAt Try.prog wr q (D.countedN i) F ∧ Chg F w wr

/-- The new device; the old one counted the reads. -/
def CarriedPost (w : World) (q : Nat) (D : DevS) (F : Nat → Prop) (e : Ending) (w' : World) : Prop :=
  ∃ x c Fx, e = .returned (Dptr x) ∧ DevAt Try.prog w' x (D.carried c) Fx ∧ (∀ k, Fx k → w.heap.size ≤ k) ∧ DevAt Try.prog w' q (D.countedN D.n) F ∧ Chg F w w'

set_option maxRecDepth 100000 in
set_option maxHeartbeats 1000000 in
theorem carried_any (h : DevAt Try.prog w q D F) (hd : D.dead = false) : Calls Try.prog 49 #[Dptr q] w (CarriedPost w q D F) := by
  have hok := h.ok
  have hn := hok.n
  have hlt := h.lt
  go_enter Try.func49, Try.ntmps49
  go_wp2_with (go_at_call 66; refine (size_any h).mono ?_; rintro e w' ⟨rfl, rfl⟩)
  refine (new_ok _ D.n hn).mono ?_
  rintro e w1 ⟨x, rfl, hX1, hB1⟩
  have hs1 := hB1.size
  go_wp2_with fail
  go_loopg [5] D.n (fun g iv wr => ∃ i : Nat, i + g = D.n ∧ iv = .int .i64 (i : Int) ∧ CarryRel w q x D F i wr)
  case atStart =>
    refine ⟨0, by omega, rfl, 0, (fun j => w.heap.size ≤ j ∧ j < w1.heap.size), ?_, fun k hk => hk.1, h.below hB1, Chg.of_below hB1⟩
    have e : D.carry 0 0 = DevS.new D.n := by simp [DevS.carry, DevS.new]
    rw [e]
    exact hX1
  case round =>
    obtain ⟨i, hid, rfl, c, Fx, hX, hFx, hQ, hC⟩ := hrel
    have hid' : Hid (i + gk = D.n) := hid
    have hsz := size_any hQ
    rw [DevS.countedN_n] at hsz
    have hsr := hC.size
    by_cases hi : i < D.n
    · have hi' : (i : Int) < (D.n : Int) := by omega
      have cr := read_new hQ (by simpa using hd) (i := (i : Int)) (k := i) rfl (by simpa using hi)
      rw [DevS.countedN_now] at cr
      have hcw := DevS.carry_write hok hi c
      clear hid
      go_wp2_with (go_at_call 66; refine hsz.mono ?_; rintro e w' ⟨rfl, rfl⟩)
      refine cr.mono ?_
      rintro e w3 ⟨v3, g3, rfl, hv3, hg3, hQ3, hC3⟩
      have hdis : ∀ k, Fx k → ¬ F k := fun k hk hf => by have := hFx k hk; have := hlt k hf; omega
      have hX3 := hX.chg hC3 hdis
      have cw := write_any hX3 hv3.src (i : Int)
      rw [hcw] at cw
      clear cr hcw
      go_wp2_with fail
      refine cw.mono ?_
      rintro e w4 ⟨rfl, hX4, hC4⟩
      have hs3 := hC3.size
      have hQ4 := hQ3.chg hC4 (fun k hk hf => hdis k hf hk)
      go_wp2_with fail
      go_roundg (gk - 1)
      case measure => have := hid'.out; omega
      case rel =>
        exact ⟨i + 1, by have := hid'.out; omega, by go_num, _, _, hX4, fun k hk => hk.elim (hFx k) (fun h2 => by have := h2.1; omega), hQ4, (hC.trans hC3 (fun _ _ h => h)).trans hC4 (fun k hk hf => by have := hFx k hf; omega)⟩
    · obtain rfl : i = D.n := by omega
      have hfl := DevS.carry_flush D c
      have cf := flush_any hX
      rw [hfl] at cf
      clear hid hfl
      have hdis : ∀ k, Fx k → ¬ F k := fun k hk hf => by have := hFx k hk; have := hlt k hf; omega
      go_wp2_with (go_at_call 66; refine hsz.mono ?_; rintro e w' ⟨rfl, rfl⟩)
      refine cf.mono ?_
      rintro e w4 ⟨rfl, hX4, hC4⟩
      go_wp2_with fail
      go_ret
      exact ⟨x, _, _, rfl, hX4, fun k hk => hk.elim (hFx k) (fun h2 => by have := h2.1; omega), hQ.chg hC4 (fun k hk hf => hdis k hf hk), hC.trans hC4 (fun k hk hf => by have := hFx k hf; omega)⟩
end
end Go.Proofs.Ytbnoebdpbpjbkaa
