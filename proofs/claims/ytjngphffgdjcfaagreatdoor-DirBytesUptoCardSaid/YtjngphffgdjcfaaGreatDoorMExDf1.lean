/-
  DirFull: a folder with names by numbers, plain.
-/
import Derived.Test.YtjngphffgdjcfaaGreatDoorME26
namespace Go.Proofs.YtjngphffgdjcfaaGreatDoor
open Go.RowKit Go.Lz
/-- The name of a number. -/
def nmB (k : Nat) : ByteArray := ⟨#[UInt8.ofNat (97 + k % 8), UInt8.ofNat (97 + k / 8)]⟩
def freshB : ByteArray := ⟨#[110, 101, 119]⟩
theorem nmB_good : ((List.range 40).all fun k => nameD (nmB k)) = true := by kernel_rfl
theorem nmB_name {k : Nat} (h : k < 40) : nameD (nmB k) = true := List.all_eq_true.1 nmB_good k (List.mem_range.2 h)
theorem freshB_name : nameD freshB = true := by kernel_rfl
theorem nmB_inj {i j : Nat} (hi : i < 40) (hj : j < 40) (h : (nmB i).data.toList = (nmB j).data.toList) : i = j := by
  have h : [UInt8.ofNat (97 + i % 8), UInt8.ofNat (97 + i / 8)] = [UInt8.ofNat (97 + j % 8), UInt8.ofNat (97 + j / 8)] := h
  injection h with h1 h2
  injection h2 with h2 _
  have e1 := congrArg UInt8.toNat h1
  have e2 := congrArg UInt8.toNat h2
  rw [UInt8.toNat_ofNat', UInt8.toNat_ofNat'] at e1 e2
  omega
theorem nmB_new (k : Nat) : (nmB k).data.toList ≠ freshB.data.toList := fun h => by
  have := congrArg List.length h
  cases this
section
variable {l : List Entry} {s t : ByteArray} {n : Nat}
theorem look_iff (hr : RiseL l) : lookE l s = some n ↔ (s.data.toList, n) ∈ l := by
  constructor
  · exact look_some
  · intro h
    unfold lookE
    cases hf : l.find? fun x => decide (x.1 = s.data.toList) with
    | none =>
      have := List.find?_eq_none.1 hf _ h
      simp at this
    | some y =>
      have h1 := List.find?_some hf
      have h2 : y.1 = s.data.toList := by simpa using h1
      have h3 := List.mem_of_find?_eq_some hf
      obtain ⟨i, hi⟩ := List.mem_iff_getElem?.1 h3
      obtain ⟨j, hj⟩ := List.mem_iff_getElem?.1 h
      rcases Nat.lt_trichotomy i j with hlt | rfl | hlt
      · exact absurd h2 (less_ne (hr.get hlt hi hj))
      · rw [hi] at hj
        cases hj
        rfl
      · exact absurd h2.symm (less_ne (hr.get hlt hj hi))
theorem look_add (h : GoodF (addE l s n)) (hr : RiseL l) (hm : lookE l s = none) : lookE (addE l s n) t = if t.data.toList = s.data.toList then some n else lookE l t := by
  apply Option.ext
  intro m
  rw [look_iff h.rise, addE_mem]
  by_cases e : t.data.toList = s.data.toList
  · rw [if_pos e]
    constructor
    · rintro (h1 | h1)
      · exact absurd e (look_none hm _ h1)
      · rw [Prod.mk.injEq] at h1
        rw [h1.2]
    · intro h1
      injection h1 with h1
      exact .inr (by rw [e, h1])
  · rw [if_neg e, look_iff hr]
    constructor
    · rintro (h1 | h1)
      · exact h1
      · exact absurd (congrArg Prod.fst h1) e
    · exact .inl
theorem look_del (hr : RiseL l) : lookE (delL l s) t = if t.data.toList = s.data.toList then none else lookE l t := by
  have hr2 : RiseL (delL l s) := hr.filter _
  apply Option.ext
  intro m
  rw [look_iff hr2]
  unfold delL
  rw [List.mem_filter]
  by_cases e : t.data.toList = s.data.toList
  · rw [if_pos e]
    simp [e]
  · rw [if_neg e, look_iff hr]
    simp [e]
theorem del_lt (h : (lookE l s).isSome = true) : (delL l s).length < l.length := by
  obtain ⟨n, hn⟩ := Option.isSome_iff_exists.1 h
  have := look_some hn
  unfold delL
  rw [List.length_filter_lt_length_iff_exists]
  exact ⟨_, this, by simp⟩
end
/-- Which numbers' names are there. -/
structure FullR (l : List Entry) (th : Nat → Bool) (c : Nat) : Prop where
  good : GoodF l
  len : l.length = c
  few : c ≤ 32
  look : ∀ k, k < 40 → lookE l (nmB k) = if th k then some (k + 1) else none
  two : ∀ x ∈ l, x.1.length = 2
section
variable {l : List Entry} {th : Nat → Bool} {c k : Nat}
theorem FullR.start : FullR [] (fun _ => false) 0 := ⟨⟨fun _ h => (nomatch h), List.Pairwise.nil⟩, rfl, by omega, fun _ _ => rfl, fun _ h => (nomatch h)⟩
theorem FullR.add (h : FullR l th c) (hk : k < 40) (hn : th k = false) (hc : c < 32) : FullR (addE l (nmB k) (k + 1)) (upd th k true) (c + 1) := by
  have hm : lookE l (nmB k) = none := by rw [h.look k hk, hn]; rfl
  have hg := addE_good (n := k + 1) h.good hm (nmB_name hk) (by omega) (by omega)
  refine ⟨hg, by rw [addE_length, h.len], by omega, fun j hj => ?_, fun x hx => (addE_mem.1 hx).elim (h.two x) (fun e => by rw [e]; rfl)⟩
  rw [look_add hg h.good.rise hm]
  by_cases e : j = k
  · subst e
    rw [if_pos rfl, upd_same]
    rfl
  · rw [if_neg (fun e2 => e (nmB_inj hj hk e2)), upd_other _ e, h.look j hj]
/-- Behind Del of a number's name, and a new name that came and went. -/
structure GoneR (l : List Entry) (th : Nat → Bool) (k0 : Nat) (l1 l2 l3 : List Entry) : Prop where
  g1 : GoodF l1
  n1 : l1.length ≤ 31
  m1 : lookE l1 freshB = none
  g2 : GoodF l2
  n2 : l2.length ≤ 32
  m2 : lookE l2 freshB = some 64
  g3 : GoodF l3
  n3 : l3.length ≤ 32
  look : ∀ k, k < 40 → lookE l3 (nmB k) = if th k && !decide (k = k0) then some (k + 1) else none
theorem FullR.gone (h : FullR l th c) (hk : k < 40) (ht : th k = true) : GoneR l th k (delL l (nmB k)) (addE (delL l (nmB k)) freshB 64) (delL (addE (delL l (nmB k)) freshB 64) freshB) := by
  have hg1 : GoodF (delL l (nmB k)) := delL_good h.good
  have hlt : (delL l (nmB k)).length < l.length := del_lt (by rw [h.look k hk, ht]; rfl)
  have h1 := h.len
  have h2 := h.few
  have hm1 : lookE (delL l (nmB k)) freshB = none := by
    cases e : lookE (delL l (nmB k)) freshB with
    | none => rfl
    | some m =>
      have h3 := h.two _ (List.mem_filter.1 (look_some e)).1
      cases h3
  have hg2 : GoodF (addE (delL l (nmB k)) freshB 64) := addE_good hg1 hm1 freshB_name (by omega) (by omega)
  have hl2 := addE_length (delL l (nmB k)) freshB 64
  refine ⟨hg1, by omega, hm1, hg2, by omega, ?_, delL_good hg2, ?_, fun j hj => ?_⟩
  · rw [look_add hg2 hg1.rise hm1, if_pos rfl]
  · have := delL_length (addE (delL l (nmB k)) freshB 64) freshB
    omega
  · rw [look_del hg2.rise, if_neg (nmB_new j), look_add hg2 hg1.rise hm1, if_neg (nmB_new j), look_del h.good.rise]
    by_cases e : j = k
    · subst e
      simp
    · rw [if_neg (fun e2 => e (nmB_inj hj hk e2)), h.look j hj]
      simp [e]
/-- The folder's node, the only one. -/
def nodeF (l : List Entry) : NodeA := ⟨2, [], [], 30, encF l⟩
def AF (l : List Entry) : Nodes := upd noNodes 1 (some (nodeF l))
theorem AF_one (l : List Entry) : AF l 1 = some (nodeF l) := upd_same _ _ _
theorem isF_node (h : GoodF l) (hl : l.length ≤ 32) : IsF (nodeF l) l := ⟨rfl, rfl, h, hl⟩
theorem AF_fit (h : GoodF l) (hl : l.length ≤ 32) : allOf (AF l) + 13 ≤ 40 + cOf (AF l) 1 := by
  have h1 := allOf_set (A := noNodes) (n := 1) (a := nodeF l) (by omega)
  have h2 : cOf (AF l) 1 = cntN (encF l).length := cOf_some (AF_one l)
  have h3 : allOf noNodes = 0 := sumF_zero fun k _ => by rw [cOf_none rfl]; rfl
  have h4 := encF_le h.good
  rw [h3, cOf_none rfl] at h1
  have h5 : allOf (AF l) = withN (cntN (encF l).length) := by
    have h6 : withN 0 = 0 := rfl
    have h7 : (nodeF l).data = encF l := rfl
    rw [h6, h7] at h1
    unfold AF
    omega
  rw [h5, h2]
  unfold withN cntN
  omega
theorem save_node {l' : List Entry} (h : GoodF l') (hl : l'.length ≤ 32) : saveR (nodeF l) (encF l') = 0 ∧ saveN (AF l) 1 (nodeF l) (encF l') = AF l' := by
  have h4 := encF_le h.good
  have hn : ¬ 64 * (nodeF l).room < (encF l').length := by show ¬ 64 * 30 < _; omega
  refine ⟨if_neg hn, ?_⟩
  unfold saveN
  rw [if_neg hn]
  unfold dataN AF
  rw [upd_two]
  rfl
theorem addR_AF (h : GoodF l) {s : ByteArray} {m : Nat} (hs : nameD s = true) (h1 : 1 ≤ m) (h2 : m ≤ 64) (hl : l.length ≤ 32) : addR (AF l) 1 (nodeF l) l s (m : Int) = if (lookE l s).isSome then (64, AF l) else if 32 ≤ l.length then (65, AF l) else (0, AF (addE l s m)) := by
  unfold addR
  have e : (nameD s && (decide (1 ≤ (m : Int)) && decide ((m : Int) ≤ 64))) = true := by
    rw [hs, decide_eq_true (show 1 ≤ (m : Int) by omega), decide_eq_true (show (m : Int) ≤ 64 by omega)]; rfl
  rw [if_pos e]
  by_cases hk : (lookE l s).isSome = true
  · rw [if_pos hk, if_pos hk]
  · rw [if_neg hk, if_neg hk]
    by_cases h32 : 32 ≤ l.length
    · rw [if_pos h32, if_pos h32]
    · rw [if_neg h32, if_neg h32, Int.toNat_natCast]
      have hm : lookE l s = none := by simpa using hk
      obtain ⟨e1, e2⟩ := save_node (l := l) (addE_good (n := m) h hm hs h1 h2) (by rw [addE_length]; omega)
      rw [e1, e2]
theorem delR_AF (h : GoodF l) {s : ByteArray} (hs : nameD s = true) (hl : l.length ≤ 32) : delR (AF l) 1 (nodeF l) l s = if (lookE l s).isSome then (0, AF (delL l s)) else (61, AF l) := by
  unfold delR
  rw [if_pos hs]
  obtain ⟨e1, e2⟩ := save_node (l := l) (l' := delL l s) (delL_good h) (Nat.le_trans (delL_length l s) hl)
  rw [e1, e2]
/-- Behind Del of a number's name, and a new name that came and went. -/
theorem FullR.find {th2 : Nat → Bool} (hl : ∀ k, k < 40 → lookE l (nmB k) = if th2 k then some (k + 1) else none) (hk : k < 40) : findR l (nmB k) = if th2 k then (((k + 1 : Nat) : Int), 0) else (0, 61) := by
  unfold findR
  rw [if_pos (nmB_name hk), hl k hk]
  cases th2 k <;> rfl
end
end Go.Proofs.YtjngphffgdjcfaaGreatDoor
