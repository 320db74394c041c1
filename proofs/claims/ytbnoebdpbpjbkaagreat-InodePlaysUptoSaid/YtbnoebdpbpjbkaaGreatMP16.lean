/-
  The texts InI InJ, one behind the other.
-/
import Derived.Test.YtbnoebdpbpjbkaaGreatMP15
import Derived.Deep.RegionHeld
import Derived.Deep.RegionLaw
/-
  A base's calls: what Check counts, plain.
-/
namespace Go.Lz
open Go.RowKit Go.Proofs.YtbnoebdpbpjbkaaGreat
/-- How often a block was seen: the nodes P are done, of node n the first i blocks and their lists. -/
def usedU (o : Owner) (P : List Int) (n i k : Nat) : Nat := match o k with
  | none => 0
  | some (n', x) => if (n' : Int) ∈ P ∨ (n' = n ∧ (x < i ∨ (1000 ≤ x ∧ x < 1000 + nlN i))) then 1 else 0
/-- Of node n's next block the list is seen too. -/
def usedL (o : Owner) (P : List Int) (n i k : Nat) : Nat := match o k with
  | none => 0
  | some (n', x) => if (n' : Int) ∈ P ∨ (n' = n ∧ (x < i ∨ (1000 ≤ x ∧ x < 1000 + nlN (i + 1)))) then 1 else 0
section
variable {S : WalS} {N cc m n i k : Nat} {g : Nat → Bytes} {o : Owner} {on : Nat → Bool} {nb : Nat → Bytes} {c : Nat → Nat} {X : Nat → Nat → UInt8} {P : List Int}
theorem usedU_some {n' x : Nat} (h : o k = some (n', x)) : usedU o P n i k = if (n' : Int) ∈ P ∨ (n' = n ∧ (x < i ∨ (1000 ≤ x ∧ x < 1000 + nlN i))) then 1 else 0 := by unfold usedU; rw [h]
theorem usedU_none (h : o k = none) : usedU o P n i k = 0 := by unfold usedU; rw [h]
theorem usedL_some {n' x : Nat} (h : o k = some (n', x)) : usedL o P n i k = if (n' : Int) ∈ P ∨ (n' = n ∧ (x < i ∨ (1000 ≤ x ∧ x < 1000 + nlN (i + 1)))) then 1 else 0 := by unfold usedL; rw [h]
theorem usedL_none (h : o k = none) : usedL o P n i k = 0 := by unfold usedL; rw [h]
theorem usedL_old (h : ¬ (32 ≤ i ∧ (i - 32) % 32 = 0)) : usedL o P n i = usedU o P n i := by
  have := nlN_succ i
  rw [if_neg h] at this
  funext k
  unfold usedL usedU
  rw [this]
theorem usedU_start : usedU o [] n 0 = fun _ => 0 := by
  funext k
  cases h : o k with
  | none => exact usedU_none h
  | some y =>
    obtain ⟨n', x⟩ := y
    have h0 : nlN 0 = 0 := by decide
    rw [usedU_some h, if_neg]
    rintro (h | ⟨_, h | h⟩)
    · cases h
    · omega
    · omega
theorem usedU_any (n n2 : Nat) : usedU o P n 0 = usedU o P n2 0 := by
  have h0 : nlN 0 = 0 := by decide
  funext k
  cases h : o k with
  | none => rw [usedU_none h, usedU_none h]
  | some y =>
    obtain ⟨n', x⟩ := y
    rw [usedU_some h, usedU_some h, h0]
    by_cases hp : (n' : Int) ∈ P
    · rw [if_pos (.inl hp), if_pos (.inl hp)]
    · rw [if_neg (by rintro (h | ⟨_, h | h⟩); exact hp h; omega; omega), if_neg (by rintro (h | ⟨_, h | h⟩); exact hp h; omega; omega)]
/-- A list is seen. -/
theorem usedL_new (R : Ready S N on nb c o X) (hi : i < c n) (h32 : 32 ≤ i) (hm : (i - 32) % 32 = 0) (hP : (n : Int) ∉ P) : usedU o P n i (ent (nb n) (32 + (i - 32) / 32)) = 0 ∧ usedL o P n i = upd (usedU o P n i) (ent (nb n) (32 + (i - 32) / 32)) 1 := by
  have hj := nlN_at h32 hi
  obtain ⟨_, ho⟩ := R.lay.lst n _ hj
  have hnl := nlN_new hm
  have hs := nlN_succ i
  rw [if_pos ⟨h32, hm⟩] at hs
  have hc := R.lay.cle n
  refine ⟨?_, ?_⟩
  · rw [usedU_some ho, if_neg]
    rintro (h | ⟨_, h | h⟩)
    · exact hP h
    · omega
    · omega
  · funext k
    by_cases e : k = ent (nb n) (32 + (i - 32) / 32)
    · subst e
      rw [upd_same, usedL_some ho, if_pos (.inr ⟨rfl, by omega⟩)]
    · rw [upd_other _ e]
      cases h : o k with
      | none => rw [usedU_none h, usedL_none h]
      | some y =>
        obtain ⟨n', x⟩ := y
        rw [usedU_some h, usedL_some h]
        by_cases h2 : (n' : Int) ∈ P ∨ (n' = n ∧ (x < i ∨ (1000 ≤ x ∧ x < 1000 + nlN i)))
        · rw [if_pos h2, if_pos (h2.imp id fun h => ⟨h.1, by omega⟩)]
        · rw [if_neg h2, if_neg]
          rintro (h3 | ⟨rfl, h3⟩)
          · exact h2 (.inl h3)
          · by_cases h4 : x = 1000 + nlN i
            · rcases R.lay.rev k n' x h with ⟨h5, _⟩ | ⟨j, h5, h6, h7⟩
              · omega
              · have : j = (i - 32) / 32 := by omega
                rw [this] at h7
                exact e h7.symm
            · exact h2 (.inr ⟨rfl, by omega⟩)
/-- A block is seen. -/
theorem usedU_next (R : Ready S N on nb c o X) (hi : i < c n) (hP : (n : Int) ∉ P) : usedL o P n i (blkG S.get (nb n) i) = 0 ∧ usedU o P n (i + 1) = upd (usedL o P n i) (blkG S.get (nb n) i) 1 := by
  obtain ⟨_, _, ho⟩ := R.lay.blk n i hi
  have hc := R.lay.cle n
  refine ⟨?_, ?_⟩
  · rw [usedL_some ho, if_neg]
    rintro (h | ⟨_, h | h⟩)
    · exact hP h
    · omega
    · omega
  · funext k
    by_cases e : k = blkG S.get (nb n) i
    · subst e
      rw [upd_same, usedU_some ho, if_pos (.inr ⟨rfl, by omega⟩)]
    · rw [upd_other _ e]
      cases h : o k with
      | none => rw [usedU_none h, usedL_none h]
      | some y =>
        obtain ⟨n', x⟩ := y
        rw [usedU_some h, usedL_some h]
        by_cases h2 : (n' : Int) ∈ P ∨ (n' = n ∧ (x < i ∨ (1000 ≤ x ∧ x < 1000 + nlN (i + 1))))
        · rw [if_pos h2, if_pos (h2.imp id fun h => ⟨h.1, by omega⟩)]
        · rw [if_neg h2, if_neg]
          rintro (h3 | ⟨rfl, h3⟩)
          · exact h2 (.inl h3)
          · by_cases h4 : x = i
            · subst h4
              rcases R.lay.rev k n' x h with ⟨h5, h6⟩ | ⟨j, h5, h6, h7⟩
              · exact e h6.symm
              · omega
            · exact h2 (.inr ⟨rfl, by omega⟩)
/-- A node is done. -/
theorem usedU_done (R : Ready S N on nb c o X) (n2 : Nat) : usedU o P n (c n) = usedU o (P ++ [(n : Int)]) n2 0 := by
  have h0 : nlN 0 = 0 := by decide
  funext k
  cases h : o k with
  | none => rw [usedU_none h, usedU_none h]
  | some y =>
    obtain ⟨n', x⟩ := y
    rw [usedU_some h, usedU_some h]
    by_cases h2 : (n' : Int) ∈ P ∨ n' = n
    · rw [if_pos, if_pos (.inl (by
        rcases h2 with h2 | h2
        · exact List.mem_append_left _ h2
        · rw [h2]; exact List.mem_append_right _ (List.mem_singleton.2 rfl)))]
      rcases h2 with h2 | rfl
      · exact .inl h2
      · refine .inr ⟨rfl, ?_⟩
        rcases R.lay.rev k n' x h with ⟨h5, h6⟩ | ⟨j, h5, h6, h7⟩
        · exact .inl h5
        · exact .inr (by omega)
    · rw [if_neg, if_neg]
      · rintro (h3 | ⟨_, h3⟩)
        · rcases List.mem_append.1 h3 with h3 | h3
          · exact h2 (.inl h3)
          · exact h2 (.inr (by have := List.mem_singleton.1 h3; omega))
        · omega
      · rintro (h3 | ⟨h3, _⟩)
        · exact h2 (.inl h3)
        · exact h2 (.inr h3)
/-- All nodes are done. -/
theorem usedU_all (R : Ready S N on nb c o X) (hP : ∀ n', 0 < c n' → (n' : Int) ∈ P) (n k : Nat) : usedU o P n 0 k = if (o k).isSome then 1 else 0 := by
  cases h : o k with
  | none => rw [usedU_none h]; rfl
  | some y =>
    obtain ⟨n', x⟩ := y
    have h0 : nlN 0 = 0 := by decide
    rw [usedU_some h, if_pos (.inl (hP n' (by
      rcases R.lay.rev k n' x h with ⟨h5, h6⟩ | ⟨j, h5, h6, h7⟩
      · omega
      · refine Nat.pos_of_ne_zero fun e => ?_
        rw [e, h0] at h5
        omega)))]
    rfl
end
end Go.Lz
/-
  A base's calls: Check.
-/
namespace Go.Proofs.YtbnoebdpbpjbkaaGreat
open Go.RowKit Go.Lz
section
variable {w w0 : World} {pb p q pn pk px gb cap n q1 q3 gu all N cc m : Nat} {S : WalS} {Fs G G' : Nat → Prop} {b : Bytes} {u : Nat → Nat} {A : Nodes} {g : Nat → Bytes} {o : Owner}
theorem mem_nodesL (B : BaseP S N g cc m A) {z : Int} : z ∈ S.nodesL ↔ ∃ n : Nat, z = (n : Int) ∧ (A n).isSome = true := by
  unfold WalS.nodesL WalS.nodesF
  rw [List.mem_map]
  constructor
  · rintro ⟨k, hk, rfl⟩
    obtain ⟨h1, h2⟩ := List.mem_filter.1 hk
    have h3 : k < 64 := by simpa using h1
    exact ⟨k + 1, by omega, by rw [← B.bit (k + 1) (by omega) (by omega)]; exact h2⟩
  · rintro ⟨n, rfl, h⟩
    have := B.dom n h
    refine ⟨n - 1, List.mem_filter.2 ⟨by simp; omega, ?_⟩, by omega⟩
    rw [B.bit n this.1 this.2]
    exact h
theorem nodesL_nodup (S : WalS) : S.nodesL.Nodup := by
  unfold WalS.nodesL WalS.nodesF
  refine List.Pairwise.map (S := fun a b => a ≠ b) _ (fun a b (h : a ≠ b) => by omega) (List.Pairwise.filter _ ?_)
  exact List.nodup_range
end
end Go.Proofs.YtbnoebdpbpjbkaaGreat
