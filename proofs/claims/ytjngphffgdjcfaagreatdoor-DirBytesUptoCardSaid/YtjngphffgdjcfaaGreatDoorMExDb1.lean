/-
  DirBytes: two folders, plain.
-/
import Derived.Test.YtjngphffgdjcfaaGreatDoorMExDf1
import Derived.Test.YtjngphffgdjcfaaGreatDoorME26
namespace Go.Proofs.YtjngphffgdjcfaaGreatDoor
open Go.RowKit Go.Lz
section
variable {l : List Entry} {j : Bytes} {s : ByteArray} {m : Nat}
/-- The folder of names, and the one of other bytes. -/
def AB (l : List Entry) (j : Bytes) : Nodes := upd (AF l) 2 (some ⟨2, [], [], 30, j⟩)
theorem AB_one (l : List Entry) (j : Bytes) : AB l j 1 = some (nodeF l) := by unfold AB; rw [upd_other _ (by omega)]; exact AF_one l
theorem AB_two (l : List Entry) (j : Bytes) : AB l j 2 = some ⟨2, [], [], 30, j⟩ := upd_same _ _ _
theorem AF_all (h : GoodF l) (hl : l.length ≤ 32) : allOf (AF l) = cOf (AF l) 1 := by
  have h1 := allOf_set (A := noNodes) (n := 1) (a := nodeF l) (by omega)
  have h2 : cOf (AF l) 1 = cntN (encF l).length := cOf_some (AF_one l)
  have h3 : allOf noNodes = 0 := sumF_zero fun k _ => by rw [cOf_none rfl]; rfl
  have h4 := encF_le h.good
  rw [h3, cOf_none rfl] at h1
  have h6 : withN 0 = 0 := rfl
  have h7 : (nodeF l).data = encF l := rfl
  rw [h6, h7] at h1
  have h5 : allOf (AF l) = withN (cntN (encF l).length) := by unfold AF; omega
  rw [h5, h2]
  unfold withN cntN
  omega
theorem AB_fit (h : GoodF l) (hl : l.length ≤ 32) (hj : j.length ≤ 1000) : allOf (AB l j) + 13 ≤ 40 + cOf (AB l j) 1 := by
  have h1 := allOf_set (A := AF l) (n := 2) (a := ⟨2, [], [], 30, j⟩) (by omega)
  have h2 : cOf (AF l) 2 = 0 := cOf_none (by unfold AF; rw [upd_other _ (by omega)]; rfl)
  have h3 : cOf (AB l j) 1 = cOf (AF l) 1 := by rw [cOf_some (AB_one l j), cOf_some (AF_one l)]
  have h4 : withN (cntN j.length) ≤ 16 := by unfold withN cntN; omega
  have h5 := AF_all h hl
  rw [h2] at h1
  have h6 : withN 0 = 0 := rfl
  rw [h6] at h1
  have h7 : allOf (AB l j) = allOf (AF l) + withN (cntN j.length) := by
    unfold AB
    have : ({ kind := 2, s := [], i := [], room := 30, data := j } : NodeA).data = j := rfl
    rw [this] at h1
    omega
  omega
theorem upd_turn {α : Type} {f : Nat → α} {a b : Nat} (h : a ≠ b) (x y : α) : upd (upd f a x) b y = upd (upd f b y) a x := by
  funext i
  unfold upd
  by_cases h1 : i = b
  · subst h1
    rw [if_pos rfl, if_neg (by omega), if_pos rfl]
  · rw [if_neg h1]
    by_cases h2 : i = a
    · rw [if_pos h2, if_pos h2]
    · rw [if_neg h2, if_neg h2, if_neg h1]
theorem saveB {l' : List Entry} (h : GoodF l') (hl : l'.length ≤ 32) : saveR (nodeF l) (encF l') = 0 ∧ saveN (AB l j) 1 (nodeF l) (encF l') = AB l' j := by
  have h4 := encF_le h.good
  have hn : ¬ 64 * (nodeF l).room < (encF l').length := by show ¬ 64 * 30 < _; omega
  refine ⟨if_neg hn, ?_⟩
  unfold saveN
  rw [if_neg hn]
  unfold dataN AB AF
  rw [upd_turn (a := 2) (b := 1) (by omega), upd_two]
  rfl
/-- What a try to add makes of the names. -/
def stepB (l : List Entry) (s : ByteArray) (m : Nat) : List Entry := if nameD s && (lookE l s).isNone then addE l s m else l
theorem stepB_good (h : GoodF l) (h1 : 1 ≤ m) (h2 : m ≤ 64) : GoodF (stepB l s m) := by
  unfold stepB
  split
  · rename_i hc
    rw [Bool.and_eq_true] at hc
    exact addE_good h (by simpa using hc.2) hc.1 h1 h2
  · exact h
theorem stepB_length (l : List Entry) (s : ByteArray) (m : Nat) : (stepB l s m).length ≤ l.length + 1 := by
  unfold stepB
  split
  · rw [addE_length]; exact Nat.le_refl _
  · omega
theorem addR_AB (h : GoodF l) (h1 : 1 ≤ m) (h2 : m ≤ 64) (hl : l.length < 32) : ∃ c, addR (AB l j) 1 (nodeF l) l s (m : Int) = (c, AB (stepB l s m) j) := by
  have e : (decide (1 ≤ (m : Int)) && decide ((m : Int) ≤ 64)) = true := by
    rw [decide_eq_true (show 1 ≤ (m : Int) by omega), decide_eq_true (show (m : Int) ≤ 64 by omega)]; rfl
  unfold addR stepB
  rw [e]
  cases hn : nameD s with
  | false => exact ⟨_, rfl⟩
  | true =>
    cases hk : lookE l s with
    | some k => exact ⟨_, rfl⟩
    | none =>
      have hg := addE_good (n := m) h hk hn h1 h2
      obtain ⟨e1, e2⟩ := saveB (l := l) (j := j) hg (by rw [addE_length]; omega)
      refine ⟨0, ?_⟩
      rw [if_pos (by rfl), if_neg (by decide), if_neg (by omega), Int.toNat_natCast, e1, e2]
      rfl
end
end Go.Proofs.YtjngphffgdjcfaaGreatDoor
