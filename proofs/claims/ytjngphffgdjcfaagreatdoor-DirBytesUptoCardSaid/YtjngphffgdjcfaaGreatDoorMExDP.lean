/-
  Names and paths, plain: dir.Name tells what lazaretref8.Name tells, dir.Split what lazaretref8.Split.
-/
import Derived.Lib.ValidLaws
import Derived.Lib.Strings
import Derived.Lib.Split
import Derived.ProofKit
namespace Go.Proofs.YtjngphffgdjcfaaGreatDoor
open Go.Lib

def badRune (c : Nat) : Bool := decide (c < 32) || decide (c = 127) || decide (c = 47)
def runesBad (s : ByteArray) : Nat → Nat → Bool
  | 0, _ => false
  | k + 1, p => if p < s.size then badRune (Utf8.decode s p).1 || runesBad s k (p + (Utf8.decode s p).2) else false
theorem runesBad_succ (s : ByteArray) (k p : Nat) : runesBad s (k + 1) p = if p < s.size then badRune (Utf8.decode s p).1 || runesBad s k (p + (Utf8.decode s p).2) else false := rfl
def nameD (s : ByteArray) : Bool := !runesBad s s.size 0 && (decide (1 ≤ s.size) && decide (s.size ≤ 24) && validD s.data.toList && !(s.toList == [46]) && !(s.toList == [46, 46]))
def bad8 (s : ByteArray) (p c : Nat) : Bool := badRune c || (decide (c = 65533) && (decide (s.size < p + 3) || !((s.extract p (p + 3)).toList == [239, 191, 189])))
def runes8 (s : ByteArray) : Nat → Nat → Bool
  | 0, _ => false
  | k + 1, p => if p < s.size then bad8 s p (Utf8.decode s p).1 || runes8 s k (p + (Utf8.decode s p).2) else false
theorem runes8_succ (s : ByteArray) (k p : Nat) : runes8 s (k + 1) p = if p < s.size then bad8 s p (Utf8.decode s p).1 || runes8 s k (p + (Utf8.decode s p).2) else false := rfl
def name8 (s : ByteArray) : Bool := !runes8 s s.size 0 && (decide (1 ≤ s.size) && decide (s.size ≤ 24) && !(s.toList == [46]) && !(s.toList == [46, 46]))

theorem get_at (s : ByteArray) (p : Nat) (h : p < s.size) : s.data.toList[p]? = some (s.get! p) := by
  obtain ⟨d⟩ := s
  have h' : p < d.size := h
  show d.toList[p]? = some d[p]!
  rw [getElem!_pos d p h']
  simp [h']
theorem take3 (l : List UInt8) (p : Nat) (a b c : UInt8) (h0 : l[p]? = some a) (h1 : l[p + 1]? = some b) (h2 : l[p + 2]? = some c) : (l.drop p).take 3 = [a, b, c] := by
  apply List.ext_getElem?
  intro i
  match i with
  | 0 => simp [h0]
  | 1 => simp [h1]
  | 2 => simp [h2]
  | n + 3 => simp; omega
theorem bad3 (s : ByteArray) (p : Nat) (hp : p < s.size) (hc : (Utf8.decode s p).1 = 65533) :
    (decide (s.size < p + 3) || !((s.extract p (p + 3)).toList == [239, 191, 189])) = decide ((Utf8.decode s p).2 = 1) := by
  have b0 := (s.get! p).toNat_lt
  have b1 := (s.get! (p + 1)).toNat_lt
  have b2 := (s.get! (p + 2)).toNat_lt
  have b3 := (s.get! (p + 3)).toNat_lt
  by_cases h3 : s.size < p + 3
  · rw [decide_eq_true h3, Bool.true_or]
    rw [decode_at] at hc ⊢
    revert hc
    unfold decodeN
    repeat' split
    all_goals intro hc
    all_goals simp only [] at hc ⊢
    all_goals first | rfl | (exfalso; omega)
  · rw [decide_eq_false h3, Bool.false_or]
    have e : (s.extract p (p + 3)).toList = [s.get! p, s.get! (p + 1), s.get! (p + 2)] := by
      rw [toList_data, extract_data, show p + 3 - p = 3 by omega]
      exact take3 _ _ _ _ _ (get_at s p hp) (get_at s _ (by omega)) (get_at s _ (by omega))
    rw [e]
    have e2 : ([s.get! p, s.get! (p + 1), s.get! (p + 2)] == [239, 191, 189]) = decide ((s.get! p).toNat = 239 ∧ (s.get! (p + 1)).toNat = 191 ∧ (s.get! (p + 2)).toNat = 189) := by
      have t : ∀ (x : UInt8) (n : UInt8), (x = n) ↔ x.toNat = n.toNat := fun x n => ⟨fun h => by rw [h], fun h => UInt8.toNat_inj.1 h⟩
      rw [Bool.eq_iff_iff, beq_iff_eq, decide_eq_true_iff]
      simp [t]
    rw [e2]
    rw [decode_at] at hc ⊢
    generalize (s.get! p).toNat = x0 at *
    generalize (s.get! (p + 1)).toNat = x1 at *
    generalize (s.get! (p + 2)).toNat = x2 at *
    generalize (s.get! (p + 3)).toNat = x3 at *
    clear e e2
    have h4 : 2 < s.size - p := by omega
    revert hc
    unfold decodeN
    repeat' split
    all_goals intro hc
    all_goals simp only [] at hc ⊢
    all_goals first
      | (exfalso; omega)
      | (have : ¬ (x0 = 239 ∧ x1 = 191 ∧ x2 = 189) := by omega
         simp [this])
      | (have : x0 = 239 ∧ x1 = 191 ∧ x2 = 189 := by omega
         simp [this])

theorem runes8_eq (s : ByteArray) : ∀ k p, s.size ≤ p + k → runes8 s k p = (runesBad s k p || !validD (s.data.toList.drop p)) := by
  intro k
  induction k with
  | zero =>
    intro p hp
    have : s.data.toList.drop p = [] := List.drop_eq_nil_iff.2 (by rw [← size_eq]; omega)
    rw [this]
    rfl
  | succ k ih =>
    intro p hp
    rw [runes8_succ, runesBad_succ]
    by_cases h : p < s.size
    · rw [if_pos h, if_pos h]
      have hne : s.data.toList.drop p ≠ [] := by
        intro e
        have := List.drop_eq_nil_iff.1 e
        rw [← size_eq] at this
        omega
      have hw := width_pos s p
      rw [validD_step _ hne, decodeL_drop, ih _ (by omega), List.drop_drop]
      unfold bad8
      by_cases hc : (Utf8.decode s p).1 = 65533
      · rw [bad3 s p h hc, hc]
        by_cases h1 : (Utf8.decode s p).2 = 1
        · simp [h1]
        · simp [h1, Bool.or_assoc]
      · simp [hc, Bool.or_assoc]
    · rw [if_neg h, if_neg h]
      have : s.data.toList.drop p = [] := List.drop_eq_nil_iff.2 (by rw [← size_eq]; omega)
      rw [this]
      rfl
theorem name_eq (s : ByteArray) : name8 s = nameD s := by
  unfold name8 nameD
  rw [runes8_eq s s.size 0 (by omega), List.drop_zero]
  cases runesBad s s.size 0 <;> cases validD s.data.toList <;> simp

/-! ### paths -/
def slash : ByteArray := ⟨#[47]⟩
def restD (s : ByteArray) : ByteArray := ⟨(Lib.trimPrefix s.data.toList [47]).toArray⟩
def wordsD (s : ByteArray) : List ByteArray := Lib.splitB slash 0 (Lib.countB (restD s) slash) (restD s)
/-- What dir.Split tells: none: it is no path. -/
def splitD (s : ByteArray) : Option (List ByteArray) :=
  if Lib.hasPrefix s.data.toList [47] = false ∨ 200 < s.size then none
  else if (restD s).toList.isEmpty = true then some []
  else if 8 < (wordsD s).length ∨ (wordsD s).any (fun x => !nameD x) = true then none
  else some (wordsD s)
def go8 (s : ByteArray) : Nat → Nat → Nat → List ByteArray → Option (List ByteArray)
  | 0, _, _, out => some out
  | k + 1, a, i, out =>
    if i ≤ s.size then
      (if i < s.size ∧ (s.get! i).toNat ≠ 47 then go8 s k a (i + 1) out
      else if name8 (s.extract a i) = false ∨ out.length = 8 then none
      else go8 s k (i + 1) (i + 1) (out ++ [s.extract a i]))
    else some out
def split8 (s : ByteArray) : Option (List ByteArray) :=
  if 200 < s.size ∨ s.size < 1 ∨ (s.get! 0).toNat ≠ 47 then none
  else if (s.toList == [47]) = true then some []
  else go8 s (s.size + 1) 1 1 []
theorem go8_succ (s : ByteArray) (k a i : Nat) (out : List ByteArray) : go8 s (k + 1) a i out = if i ≤ s.size then
      (if i < s.size ∧ (s.get! i).toNat ≠ 47 then go8 s k a (i + 1) out
      else if name8 (s.extract a i) = false ∨ out.length = 8 then none
      else go8 s k (i + 1) (i + 1) (out ++ [s.extract a i]))
    else some out := rfl

/-- The words between slashes. -/
def splitL : List UInt8 → List (List UInt8)
  | [] => [[]]
  | b :: t => if b = 47 then [] :: splitL t else match splitL t with
    | [] => [[b]]
    | h :: r => (b :: h) :: r
theorem splitL_none : ∀ (l : List UInt8), (∀ b ∈ l, b ≠ 47) → splitL l = [l]
  | [], _ => rfl
  | b :: t, h => by
    rw [splitL, if_neg (h b (by simp)), splitL_none t (fun c hc => h c (by simp [hc]))]
theorem splitL_hit : ∀ (p t : List UInt8), (∀ b ∈ p, b ≠ 47) → splitL (p ++ 47 :: t) = p :: splitL t
  | [], t, _ => by simp [splitL]
  | b :: p, t, h => by
    rw [List.cons_append, splitL, if_neg (h b (by simp)), splitL_hit p t (fun c hc => h c (by simp [hc]))]
theorem mem_take_ne {l : List UInt8} {i : Nat} (h : ∀ k, k < i → l[k]? ≠ some 47) : ∀ b ∈ l.take i, b ≠ 47 := by
  intro b hb e
  obtain ⟨k, hk, hk2⟩ := List.getElem_of_mem hb
  have h1 : (l.take i)[k]? = some b := by rw [List.getElem?_eq_getElem hk, hk2]
  rw [List.getElem?_take] at h1
  split at h1
  · exact h k (by assumption) (e ▸ h1)
  · cases h1
theorem splitK_L : ∀ (n : Nat) (l : List UInt8), l.length ≤ n → splitK [47] 0 (count l [47]) l = splitL l := by
  intro n
  induction n with
  | zero =>
    intro l hl
    have : l = [] := List.eq_nil_of_length_eq_zero (by omega)
    subst this
    rfl
  | succ n ih =>
    intro l hl
    rcases index_spec l [47] with ⟨h, _⟩ | ⟨i, h, hi, ho, hno⟩
    · rw [count_miss h]
      show [l] = _
      rw [splitL_none]
      rw [index_one] at h
      intro b hb e
      obtain ⟨k, hk, hk2⟩ := List.getElem_of_mem hb
      exact indexByte_none h k (by rw [List.getElem?_eq_getElem hk, hk2, e])
    · rw [count_hit (by simp) h, Nat.add_comm, splitK, if_neg (by rw [h]; simp), h]
      have h' := h
      rw [index_one] at h'
      obtain ⟨h1, h2⟩ := indexByte_some h'
      have hlt : i < l.length := by
        rcases Nat.lt_or_ge i l.length with h | h
        · exact h
        · rw [List.getElem?_eq_none h] at h1; cases h1
      have e : (l.drop ((i : Int).toNat + [(47 : UInt8)].length)) = l.drop (i + 1) := by simp
      rw [Int.toNat_natCast, Nat.add_zero, show i + [(47 : UInt8)].length = i + 1 by rfl, ih _ (by rw [List.length_drop]; omega)]
      conv => rhs; rw [← List.take_append_drop i l]
      have hd : l.drop i = 47 :: l.drop (i + 1) := by
        rw [List.drop_eq_getElem_cons hlt]
        rw [List.getElem?_eq_getElem hlt] at h1
        rw [Option.some.inj h1]
      rw [hd, splitL_hit _ _ (mem_take_ne h2)]
def mk (l : List UInt8) : ByteArray := ⟨l.toArray⟩
theorem mk_toList (s : ByteArray) : mk s.data.toList = s := by
  obtain ⟨d⟩ := s
  simp [mk]
theorem words_L (s : ByteArray) : wordsD s = (splitL (restD s).data.toList).map mk := by
  have h := splitB_data slash 0 (countB (restD s) slash) (restD s)
  rw [show slash.data.toList = [47] by rfl] at h
  have e := splitK_L _ (restD s).data.toList (Nat.le_refl _)
  rw [← e]
  show wordsD s = (splitK [47] 0 (countB (restD s) slash) (restD s).data.toList).map mk
  rw [← h, List.map_map]
  show _ = List.map _ (wordsD s)
  conv => lhs; rw [← List.map_id (wordsD s)]
  apply List.map_congr_left
  intro x _
  exact (mk_toList x).symm
theorem extract_mk (s : ByteArray) (a b : Nat) : s.extract a b = mk ((s.data.toList.drop a).take (b - a)) := by
  rw [← mk_toList (s.extract a b), extract_data]
theorem go8_L (s : ByteArray) : ∀ (k a i : Nat) (out : List ByteArray), a ≤ i → i ≤ s.size → i + k = s.size + 2 → (∀ j, a ≤ j → j < i → s.data.toList[j]? ≠ some 47) → out.length ≤ 8 →
    go8 s k a i out = if ((splitL (s.data.toList.drop a)).map mk).all name8 = true ∧ out.length + (splitL (s.data.toList.drop a)).length ≤ 8 then some (out ++ (splitL (s.data.toList.drop a)).map mk) else none := by
  intro k
  induction k with
  | zero => intro a i out _ hi hk; omega
  | succ k ih =>
    intro a i out hai hi hk hno ho
    rw [go8_succ, if_pos hi]
    have hlen : s.data.toList.length = s.size := (size_eq s).symm
    by_cases hsk : i < s.size ∧ (s.get! i).toNat ≠ 47
    · rw [if_pos hsk]
      refine ih a (i + 1) out (by omega) (by omega) (by omega) ?_ ho
      intro j hj hj2
      rcases Nat.lt_or_ge j i with h | h
      · exact hno j hj h
      · have : j = i := by omega
        subst this
        rw [get_at s j hsk.1]
        intro e
        exact hsk.2 (by rw [Option.some.inj e]; rfl)
    · rw [if_neg hsk]
      have htk : ∀ b ∈ (s.data.toList.drop a).take (i - a), b ≠ 47 := mem_take_ne (fun j hj => by rw [List.getElem?_drop]; exact hno _ (by omega) (by omega))
      rw [extract_mk]
      by_cases hlt : i < s.size
      · have h47 : (s.get! i).toNat = 47 := Classical.byContradiction fun h => hsk ⟨hlt, h⟩
        have hspl : splitL (s.data.toList.drop a) = (s.data.toList.drop a).take (i - a) :: splitL (s.data.toList.drop (i + 1)) := by
          conv => lhs; rw [← List.take_append_drop (i - a) (s.data.toList.drop a)]
          have hd : s.data.toList.drop i = 47 :: s.data.toList.drop (i + 1) := by
            rw [List.drop_eq_getElem_cons (by omega)]
            have h1 := get_at s i hlt
            rw [List.getElem?_eq_getElem (by omega)] at h1
            rw [Option.some.inj h1]
            rw [show s.get! i = 47 from UInt8.toNat_inj.1 h47]
          rw [List.drop_drop, show a + (i - a) = i by omega, hd, splitL_hit _ _ htk]
        rw [hspl]
        by_cases hbad : name8 (mk ((s.data.toList.drop a).take (i - a))) = false ∨ out.length = 8
        · rw [if_pos hbad, if_neg]
          rintro ⟨h1, h2⟩
          rcases hbad with h | h
          · rw [List.map_cons, List.all_cons, h] at h1
            cases h1
          · simp only [List.length_cons] at h2
            omega
        · have hn : name8 (mk ((s.data.toList.drop a).take (i - a))) = true := by
            cases h : name8 (mk ((s.data.toList.drop a).take (i - a)))
            · exact absurd (Or.inl h) hbad
            · rfl
          have ho8 : ¬ out.length = 8 := fun h => hbad (Or.inr h)
          rw [if_neg hbad]
          rw [ih (i + 1) (i + 1) _ (Nat.le_refl _) (by omega) (by omega) (fun j h1 h2 => by omega) (by simp; omega)]
          simp only [List.map_cons, List.all_cons, hn, Bool.true_and, List.length_append, List.length_cons, List.length_nil, List.append_assoc, List.singleton_append]
          rw [show out.length + (0 + 1) + (splitL (s.data.toList.drop (i + 1))).length = out.length + ((splitL (s.data.toList.drop (i + 1))).length + 1) by omega]
      · have hie : i = s.size := by omega
        have htt : (s.data.toList.drop a).take (i - a) = s.data.toList.drop a := List.take_of_length_le (by rw [List.length_drop]; omega)
        rw [htt] at htk ⊢
        rw [splitL_none _ htk]
        have hend : ∀ o, go8 s k (i + 1) (i + 1) o = some o := by
          intro o
          cases k with
          | zero => rfl
          | succ k => rw [go8_succ, if_neg (by omega)]
        rw [hend]
        by_cases hbad : name8 (mk (s.data.toList.drop a)) = false ∨ out.length = 8
        · rw [if_pos hbad, if_neg]
          rintro ⟨h1, h2⟩
          rcases hbad with h | h
          · simp [h] at h1
          · simp at h2
            omega
        · have hn : name8 (mk (s.data.toList.drop a)) = true := by
            cases h : name8 (mk (s.data.toList.drop a))
            · exact absurd (Or.inl h) hbad
            · rfl
          have ho8 : ¬ out.length = 8 := fun h => hbad (Or.inr h)
          rw [if_neg hbad, if_pos]
          · rfl
          · exact ⟨by simp [hn], by simp; omega⟩
theorem restD_data (s : ByteArray) (h : Lib.hasPrefix s.data.toList [47] = true) : (restD s).data.toList = s.data.toList.drop 1 := by
  show (Lib.trimPrefix s.data.toList [47]).toArray.toList = _
  unfold Lib.trimPrefix
  rw [if_pos h]
  rfl
theorem any_not (l : List ByteArray) : (l.any fun x => !nameD x) = !l.all name8 := by
  induction l with
  | nil => rfl
  | cons x l ih => rw [List.any_cons, List.all_cons, ih, name_eq]; cases nameD x <;> simp
theorem split_eq (s : ByteArray) : splitD s = split8 s := by
  unfold splitD split8
  have hpre : Lib.hasPrefix s.data.toList [47] = false ↔ (s.size < 1 ∨ (s.get! 0).toNat ≠ 47) := by
    unfold Lib.hasPrefix
    by_cases h0 : s.size < 1
    · have : s.data.toList = [] := List.eq_nil_of_length_eq_zero (by rw [← size_eq]; omega)
      rw [this]
      simp [h0]
    · have hg := get_at s 0 (by omega)
      cases hl : s.data.toList with
      | nil => rw [hl] at hg; cases hg
      | cons b t =>
        rw [hl] at hg
        simp only [List.getElem?_cons_zero, Option.some.injEq] at hg
        rw [← hg]
        have t : (b = 47) ↔ b.toNat = 47 := ⟨fun h => by rw [h]; rfl, fun h => UInt8.toNat_inj.1 h⟩
        cases h : (b == (47 : UInt8)) with
        | true =>
          have := t.1 (beq_iff_eq.1 h)
          simp only [List.isPrefixOf]
          simp [h0, t.2 this]
        | false =>
          have : b ≠ 47 := by simpa using h
          have h2 : b.toNat ≠ 47 := fun e => this (t.2 e)
          simp [List.isPrefixOf, h2]
          exact fun e => this e.symm
  by_cases hc : Lib.hasPrefix s.data.toList [47] = false ∨ 200 < s.size
  · rw [if_pos hc, if_pos]
    rcases hc with h | h
    · exact Or.inr (hpre.1 h)
    · exact Or.inl h
  · have hp : Lib.hasPrefix s.data.toList [47] = true := by
      cases h : Lib.hasPrefix s.data.toList [47]
      · exact absurd (Or.inl h) hc
      · rfl
    have hc2 : ¬ (200 < s.size ∨ s.size < 1 ∨ (s.get! 0).toNat ≠ 47) := fun h => by
      rcases h with h | h
      · exact hc (Or.inr h)
      · exact hc (Or.inl (hpre.2 h))
    rw [if_neg hc, if_neg hc2]
    have hr := restD_data s hp
    obtain ⟨t, ht⟩ : ∃ t, s.data.toList = 47 :: t := by
      unfold Lib.hasPrefix at hp
      cases hl : s.data.toList with
      | nil => rw [hl] at hp; cases hp
      | cons b t =>
        rw [hl] at hp
        simp [List.isPrefixOf] at hp
        exact ⟨t, by rw [hp]⟩
    have e1 : ((restD s).toList.isEmpty = true) ↔ (s.toList == [47]) = true := by
      rw [toList_data, toList_data, hr, ht]
      simp
    by_cases hE : (restD s).toList.isEmpty = true
    · rw [if_pos hE, if_pos (e1.1 hE)]
    · rw [if_neg hE, if_neg (fun h => hE (e1.2 h))]
      have hsz : 1 ≤ s.size := by rw [size_eq, ht]; simp
      rw [go8_L s _ 1 1 [] (Nat.le_refl _) hsz (by omega) (fun j h1 h2 => by omega) (by simp)]
      rw [← hr, words_L, any_not]
      simp only [List.length_map, List.length_nil, Nat.zero_add, List.nil_append]
      cases ((splitL (restD s).data.toList).map mk).all name8 with
      | false => simp
      | true =>
        by_cases h8 : (splitL (restD s).data.toList).length ≤ 8
        · rw [if_neg (by simp; omega), if_pos ⟨rfl, h8⟩]
        · rw [if_pos (Or.inl (by omega)), if_neg (fun h => h8 h.2)]
end Go.Proofs.YtjngphffgdjcfaaGreatDoor
