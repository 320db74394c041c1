/-
  The texts InP9 InPA InPB Lo1 Lo2 Is1 Is2 Lo3 Is3 Law5a, one behind the other.
-/
import Derived.Test.YtjngphffgdjcfaaGreatDoorME14
import Derived.Deep.RegionHeld
import Derived.Lib.SliceRun
/-
  A base, plain: Write, Read, Make.
-/
namespace Go.Lz
open Go.RowKit Go.Proofs.YtjngphffgdjcfaaGreatDoor
section
variable {S S1 : WalS} {N cc m n i k : Nat} {g : Nat → Bytes} {o : Owner} {on : Nat → Bool} {nb : Nat → Bytes} {c : Nat → Nat} {X : Nat → Nat → UInt8} {A : Nodes} {a : NodeA}
theorem grow_cost {len at' L M : Nat} (hM : M = max len (at' + L)) (hL : L ≠ 0) (hl : at' + L - min at' len ≤ 6144) : (cntN M - cntN len) + (nlN (cntN M) - nlN (cntN len)) + oldN (cntN len) at' L ≤ 101 := by
  unfold oldN
  rw [if_neg hL]
  unfold nlN cntN
  omega
theorem BaseP.writeB {at' : Nat} {p : Bytes} (B : BaseP S N g cc m A) (ha : A n = some a) (hp : p ≠ []) (hr : at' + p.length ≤ 64 * a.room) (hl : at' + p.length - min at' a.data.length ≤ 6144) (hm : m ≤ 5) :
    (S.freeB + withN (cOf A n) < withN (cntN (at' + p.length)) ∧ S.writeB n (S.nodeB n) at' p = (60, S)) ∨
    ∃ S', S.writeB n (S.nodeB n) at' p = (0, S') ∧ BaseP S' N g cc (m + 106) (upd A n (some { a with data := wrB a.data at' p })) := by
  obtain ⟨o, R⟩ := B.rdy
  have hN := B.big
  have M := B.node n a ha
  have hca := cOf_some ha
  have hroom : a.room ≤ 256 := by have := M.ok.room; rw [M.room] at this; exact this
  have hszr : a.data.length ≤ 64 * a.room := by have := M.ok.size; rw [M.room, M.size] at this; exact this
  have hpl : p.length ≠ 0 := fun e => hp (List.eq_nil_of_length_eq_zero e)
  obtain ⟨T, hT⟩ : ∃ T, T = max a.data.length (at' + p.length) := ⟨_, rfl⟩
  have hcost := grow_cost hT hpl hl
  have hTc : cntN a.data.length ≤ cntN T := by unfold cntN; omega
  obtain ⟨d, hd⟩ : ∃ d : NodeA, d = { a with data := wrB a.data at' p } := ⟨_, rfl⟩
  have hdl : d.data.length = T := by rw [hd, hT]; exact wrB_length _ _ _
  have hnl := nlN_mono hTc
  -- the node has its blocks
  have key : ∀ b1 S1 o1, S.roomy (S.nodeB n) (at' + p.length) = (0, b1, S1) → Kb S1 N g cc (m + (cntN T - cntN a.data.length) + (nlN (cntN T) - nlN (cntN a.data.length)) + 1) → Ready S1 N (onOf A) (upd S.nodeB n b1) (upd (cOf A) n (cntN T)) o1 (xOf A) → (∀ x, x < 140 → (x < 3 ∨ 7 ≤ x) → b1.getD x 0 = (S.nodeB n).getD x 0) → nSize b1 = T → (∀ j, j = 0 ∨ (16 ≤ j ∧ j < 300) → S1.get j = S.get j) → (∀ x, cntN a.data.length ≤ x → x < cntN T → Has S1 (299 + blkG S1.get b1 x)) → S1.freeB + withN (cntN T) = S.freeB + withN (cOf A n) →
      ∃ S', S.writeB n (S.nodeB n) at' p = (0, S') ∧ BaseP S' N g cc (m + 106) (upd A n (some d)) := by
    intro b1 S1 o1 e1 K1 R1 hh hs low fresh hf
    obtain ⟨S2, e2, K2, R2, l2, f2⟩ := eachW_ok hN (n := n) (fr := cntN a.data.length) p.length (i := at') (p := p) K1 R1 (by rw [upd_same]; unfold cntN; omega) (Nat.le_refl _) (fun x h1 h2 => by rw [upd_same] at h2 ⊢; exact fresh x h1 h2) (by omega)
    rw [upd_same] at e2
    rw [← xOf_write ha, ← hd] at R2
    have hcd : cOf (upd A n (some d)) = upd (cOf A) n (cntN T) := by rw [cOf_upd, hdl]
    rw [← hcd] at R2
    have hb1 : b1.length = 256 := by have := R1.len n; rwa [upd_same] at this
    obtain ⟨S3, e3, B3⟩ := B.saved (d := d) ha K2 R2 (fun j hj => (l2 j hj).trans (low j hj)) (by rw [hd]; exact M.sized (by rw [hb1, R.len]) hh (by rw [hs, hT, wrB_length]) (by rw [wrB_length]; omega)) (by rw [hdl, f2]; exact hf) (by omega)
    refine ⟨S3, ?_, ⟨B3.kb.mono (by omega), B3.big, B3.bit, B3.dom, B3.rdy, B3.node, B3.free⟩⟩
    unfold WalS.writeB
    rw [e1, if_pos rfl]
    show (if (S1.writeAll b1 at' p).1 = 0 then (S1.writeAll b1 at' p).2.1.save n b1 else _) = _
    unfold WalS.writeAll
    rw [e2, if_pos rfl]
    exact e3
  rw [hd] at key
  by_cases hg : a.data.length < at' + p.length
  · have hT2 : T = at' + p.length := by omega
    rcases grow_ok (m' := at' + p.length) B.kb R hN (show onOf A n = true by unfold onOf; rw [ha]; rfl) (by rw [hca, M.size]) (by rw [M.size]; omega) (by omega) (fun x hx => by
      rw [xOf_some ha, List.getD_eq_getElem?_getD, List.getElem?_eq_none (by rw [hca] at hx; unfold cntN at hx; omega)]; rfl) (by rw [hca, ← hT2]; omega) with ⟨h1, h2⟩ | ⟨b', S1, o1, e1, K1, R1, hh, hs, low, fresh, hf, _⟩
    · refine .inl ⟨h1, ?_⟩
      unfold WalS.writeB WalS.roomy
      rw [M.size, if_pos hg, h2, if_neg (show ¬ (60 : Int) = 0 by decide)]
    · rw [hca, ← hT2] at K1
      rw [← hT2] at R1 hs hf
      refine .inr (key b' S1 o1 ?_ K1 R1 hh hs low (fun x h1 h2 => fresh x (by rw [hca]; exact h1) (by rw [← hT2]; exact h2)) hf)
      unfold WalS.roomy
      rw [M.size, if_pos hg, e1]
  · have hT2 : T = a.data.length := by omega
    refine .inr (key (S.nodeB n) S o ?_ (B.kb.mono (by omega)) ?_ (fun _ _ _ => rfl) (by rw [M.size, hT2]) (fun _ _ => rfl) (fun x h1 h2 => by rw [hT2] at h2; omega) (by rw [hT2, hca]))
    · unfold WalS.roomy
      rw [M.size, if_neg hg]
    · rw [upd_self, hT2, ← hca, upd_self]
      exact R
theorem BaseP.nodeE (B : BaseP S N g cc m A) (z : Int) : S.nodeE z = if 1 ≤ z ∧ (A z.toNat).isSome = true then 0 else 61 := by
  unfold WalS.nodeE
  by_cases h : z < 1 ∨ 64 < z
  · rw [if_pos h, if_neg]
    rintro ⟨h1, h2⟩
    have := B.dom _ h2
    omega
  · rw [if_neg h, B.bit z.toNat (by omega) (by omega)]
    by_cases h2 : (A z.toNat).isSome = true
    · rw [if_pos h2, if_pos ⟨by omega, h2⟩]
    · rw [if_neg h2, if_neg (fun h3 => h2 h3.2)]

/-- Bytes of a node are read. -/
theorem eachR_ok (R : Ready S N on nb c o X) (K : Kb S N g cc m) (hN : 400 ≤ N) : ∀ (d : Nat) {i j : Nat} {out : Bytes}, i ≤ j → j ≤ 64 * c n → j - i ≤ d → eachF readStep (nb n) d i j S out = (0, S, out ++ (List.range (j - i)).map fun x => X n (i + x)) := by
  intro d
  induction d with
  | zero =>
    intro i j out h1 h2 h3
    have : j - i = 0 := by omega
    rw [this]
    unfold eachF
    simp
  | succ d ih =>
    intro i j out h1 h2 h3
    unfold eachF
    by_cases h : i < j
    · obtain ⟨a, ha⟩ : ∃ a, a = min (64 - i % 64) (j - i) := ⟨_, rfl⟩
      have hi : i / 64 < c n := by omega
      have hsz : ¬ S.size ≤ 299 + blkG S.get (nb n) (i / 64) := by
        have := (R.lay.blk n _ hi).2.1
        rw [K.size]
        omega
      rw [if_pos h, R.block K hN hi, if_pos rfl, ← ha]
      unfold readStep
      rw [if_neg hsz]
      show (if (0 : Int) = 0 then _ else _) = _
      rw [if_pos rfl]
      unfold readStep at ih
      rw [ih (i := i + a) (j := j) (by omega) h2 (by omega)]
      have e1 : ((S.get (299 + blkG S.get (nb n) (i / 64))).drop (i % 64)).take a = (List.range a).map fun x => X n (i + x) := by
        have hlen := K.len (299 + blkG S.get (nb n) (i / 64))
        apply List.ext_getElem
        · rw [List.length_take, List.length_drop, List.length_map, List.length_range, hlen]; omega
        · intro x hx1 hx2
          have hx : x < a := by simpa using hx2
          have hd := R.dat n (i / 64) (i % 64 + x) hi (by omega)
          rw [List.getD_eq_getElem?_getD, List.getElem?_eq_getElem (by omega)] at hd
          simp only [List.getElem_take, List.getElem_drop, List.getElem_map, List.getElem_range]
          rw [show i + x = 64 * (i / 64) + (i % 64 + x) by omega]
          exact hd
      have e2 : j - i = a + (j - (i + a)) := by omega
      rw [e1, e2, List.range_add, List.map_append, List.map_map, List.append_assoc]
      have e3 : (List.range (j - (i + a))).map (fun x => X n (i + a + x)) = (List.range (j - (i + a))).map ((fun x => X n (i + x)) ∘ fun x => a + x) := by
        apply List.map_congr_left
        intro x _
        show X n (i + a + x) = X n (i + (a + x))
        rw [Nat.add_assoc]
      rw [e3]
    · rw [if_neg h]
      have : j - i = 0 := by omega
      rw [this]
      simp
theorem BaseP.readN {at' k : Nat} (B : BaseP S N g cc m A) (ha : A n = some a) : S.readN (n : Int) (at' : Int) (k : Int) = (0, (a.data.drop (min at' a.data.length)).take k) := by
  obtain ⟨o, R⟩ := B.rdy
  have M := B.node n a ha
  have hn := B.dom n (by rw [ha]; rfl)
  unfold WalS.readN
  rw [B.nodeE, Int.toNat_natCast, ha, if_pos (⟨by omega, rfl⟩ : (1 : Int) ≤ (n : Int) ∧ (some a).isSome = true), if_neg (by decide), if_neg (by omega), Int.toNat_natCast, Int.toNat_natCast]
  have e : S.readAll (S.nodeB n) at' k = (0, S, (a.data.drop (min at' a.data.length)).take k) := by
    unfold WalS.readAll
    rw [M.size, eachR_ok R B.kb B.big _ (by omega) (by rw [cOf_some ha]; unfold cntN; omega) (by omega)]
    congr 2
    rw [List.nil_append]
    apply List.ext_getElem
    · rw [List.length_map, List.length_range, List.length_take, List.length_drop]; omega
    · intro x h1 h2
      rw [List.length_map, List.length_range] at h1
      simp only [List.getElem_take, List.getElem_drop, List.getElem_map, List.getElem_range]
      rw [xOf_some ha, List.getD_eq_getElem?_getD, List.getElem?_eq_getElem (by omega)]
      rfl
  rw [e, if_pos rfl]
end
end Go.Lz
/-
  A base, plain: Make; Write with its refusals; commits, aborts; a new base.
-/
namespace Go.Lz
open Go.RowKit Go.Proofs.YtjngphffgdjcfaaGreatDoor
section
variable {S S1 : WalS} {N cc m n i k : Nat} {g : Nat → Bytes} {o : Owner} {on : Nat → Bool} {nb : Nat → Bytes} {c : Nat → Nat} {X : Nat → Nat → UInt8} {A : Nodes} {a : NodeA}
theorem zero256_getD (j : Nat) : zero256.getD j 0 = 0 := by
  unfold zero256
  rw [List.getD_eq_getElem?_getD, List.getElem?_replicate]
  by_cases h : j < 256
  · rw [if_pos h]; rfl
  · rw [if_neg h]; rfl
theorem mkNode_facts {kind room : Nat} {s l : List Int} (hs : isSetB s = true) (hl : isSetB l = true) (hk : kind = 1 ∨ kind = 2) (hr : room ≤ 256) :
    (mkNode (kind : Int) (room : Int) (setCode s ++ setCode l)).length = 256 ∧ NodeSays (mkNode (kind : Int) (room : Int) (setCode s ++ setCode l)) ⟨kind, s, l, room, []⟩ ∧ ∀ j, j < 58 → ent (mkNode (kind : Int) (room : Int) (setCode s ++ setCode l)) j = 0 := by
  have h1 := isSetB_len hs
  have h2 := isSetB_len hl
  have hcl : (setCode s ++ setCode l).length ≤ 130 := by rw [List.length_append, setCode_len, setCode_len]; omega
  obtain ⟨q, hq⟩ : ∃ q, q = put2B (zero256.set 0 (lowByte (kind : Int))) 1 (room : Int) := ⟨_, rfl⟩
  obtain ⟨cd, hcd⟩ : ∃ cd, cd = setCode s ++ setCode l := ⟨_, rfl⟩
  have hql : q.length = 256 := by rw [hq, put2B_length, List.length_set]; unfold zero256; rw [List.length_replicate]
  have hmk : mkNode (kind : Int) (room : Int) (setCode s ++ setCode l) = splice q 7 cd := by unfold mkNode; rw [hq, hcd]
  rw [hmk]
  rw [← hcd] at hcl
  have hg := fun j => splice_getD (b := q) (p := cd) (a := 7) (by omega) j
  have q3 : ∀ j, 3 ≤ j → q.getD j 0 = 0 := fun j hj => by rw [hq, put2_getD _ _ (by omega), getD_set_other _ (by omega)]; exact zero256_getD j
  have q0 : q.getD 0 0 = lowByte (kind : Int) := by rw [hq, put2_getD _ _ (by omega), getD_set_same _ (by unfold zero256; rw [List.length_replicate]; omega)]
  have q1 : twoN q 1 = room := by rw [hq]; exact twoN_put2 _ (by rw [List.length_set]; unfold zero256; rw [List.length_replicate]; omega) (by omega)
  have hroom : nRoom (splice q 7 cd) = room := by
    unfold nRoom twoN
    rw [hg, hg, if_neg (by omega), if_neg (by omega)]
    exact q1
  have hsize : nSize (splice q 7 cd) = 0 := by
    unfold nSize twoN
    rw [hg, hg, hg, hg, if_neg (by omega), if_neg (by omega), if_neg (by omega), if_neg (by omega), q3 _ (by omega), q3 _ (by omega), q3 _ (by omega), q3 _ (by omega)]
    rfl
  have hkind : ((splice q 7 cd).getD 0 0).toNat = kind := by
    rw [hg, if_neg (by omega), q0]
    rcases hk with rfl | rfl <;> rfl
  refine ⟨by rw [length_splice _ _ _ (by omega), hql], ⟨⟨hs, hl, ⟨(q.drop (7 + cd.length)).take (133 - cd.length), ?_⟩, by rw [hkind]; exact hk, by rw [hroom]; exact hr, by rw [hsize]; exact Nat.zero_le _⟩, hkind, hroom, hsize⟩, fun j hj => ?_⟩
  · rw [← hcd]
    unfold splice
    rw [List.drop_append_of_le_length (by rw [List.length_take]; omega), List.drop_eq_nil_of_le (by rw [List.length_take]; omega), List.nil_append, List.take_append, List.take_of_length_le (by omega)]
  · unfold ent twoN
    rw [hg, hg, if_neg (by omega), if_neg (by omega), q3 _ (by omega), q3 _ (by omega)]
    rfl
/-- A node that is not there is made. -/
theorem BaseP.make {kind room : Nat} {s l : List Int} (B : BaseP S N g cc m A) (hs : isSetB s = true) (hl : isSetB l = true) (hk : kind = 1 ∨ kind = 2) (hr : room ≤ 256) (hm : m + 4 ≤ 111) :
    ((∀ n, 1 ≤ n → n ≤ 64 → (A n).isSome = true) ∧ S.makeN (kind : Int) s l (room : Int) = (60, 0, S)) ∨
    ∃ n S', 1 ≤ n ∧ n ≤ 64 ∧ A n = none ∧ (∀ n', 1 ≤ n' → n' < n → (A n').isSome = true) ∧ S.makeN (kind : Int) s l (room : Int) = (0, n, S') ∧ BaseP S' N g cc (m + 4) (upd A n (some ⟨kind, s, l, room, []⟩)) := by
  have hgood : ¬ (((kind : Int) ≠ 1 ∧ (kind : Int) ≠ 2) ∨ (isSetB s && isSetB l) = false ∨ (room : Int) < 0 ∨ 256 < (room : Int)) := by
    rw [hs, hl]
    rintro (h | h | h | h)
    · omega
    · cases h
    · omega
    · omega
  have hN := B.big
  have hN2 := B.kb.kp.n_le
  unfold WalS.makeN
  rw [if_neg hgood]
  rcases least_free (S.bit 0) 64 with h | ⟨i, hi, h0, h1⟩
  · refine .inl ⟨fun n hn1 hn2 => by rw [← B.bit n hn1 hn2]; exact h _ (by omega), ?_⟩
    rw [WalS.takeI_none h, if_neg (show ¬ (60 : Int) = 0 by decide)]
  · obtain ⟨S1, e1, b1⟩ := B.kb.takeI (by omega) (a := 0) (n := 64) (i := i) (by omega) (by omega) hi h0 h1
    have hAn : A (i + 1) = none := by
      have := B.bit (i + 1) (by omega) (by omega)
      rw [Nat.add_sub_cancel, h0] at this
      cases e : A (i + 1) with
      | none => rfl
      | some a => rw [e] at this; cases this
    obtain ⟨f1, f2, f3⟩ := mkNode_facts hs hl hk hr
    obtain ⟨q, hq⟩ : ∃ q, q = mkNode (kind : Int) (room : Int) (setCode s ++ setCode l) := ⟨_, rfl⟩
    rw [← hq] at f1 f2 f3
    obtain ⟨S3, e3, K3, n3, g3⟩ := save_ok b1.kb hN hm (n := i + 1) (by omega) f1
    rw [e1, if_pos rfl]
    refine .inr ⟨i + 1, S3, by omega, by omega, hAn, fun n' h2 h3 => by rw [← B.bit n' h2 (by omega)]; exact h1 _ (by omega), ?_, ?_⟩
    · show ((S1.save (i + 1) (mkNode (kind : Int) (room : Int) (setCode s ++ setCode l))).1, i + 1, (S1.save (i + 1) (mkNode (kind : Int) (room : Int) (setCode s ++ setCode l))).2) = _
      rw [← hq, e3]
    · obtain ⟨o, R⟩ := B.rdy
      have hget : ∀ j, j ≠ 0 → (j < 16 + 4 * i ∨ 16 + 4 * i + 4 ≤ j) → S3.get j = S.get j := fun j h2 h3 => by rw [g3 j (by omega), b1.get j (by omega)]
      have hoth : ∀ n', 1 ≤ n' → n' ≤ 64 → n' ≠ i + 1 → S3.nodeB n' = S.nodeB n' := fun n' h1 h2 h3 => nodeB_same fun j h4 h5 => hget j (by omega) (by omega)
      have hc : cOf (upd A (i + 1) (some ⟨kind, s, l, room, []⟩)) = cOf A := by
        rw [cOf_upd]
        have h0 : cntN (NodeA.data ⟨kind, s, l, room, []⟩).length = cOf A (i + 1) := by rw [cOf_none hAn]; show cntN 0 = 0; decide
        rw [h0, upd_self]
      have hx : xOf (upd A (i + 1) (some ⟨kind, s, l, room, []⟩)) = xOf A := by
        funext n' x
        unfold xOf
        by_cases e : n' = i + 1
        · subst e; rw [upd_same, hAn]; rfl
        · rw [upd_other _ e]
      refine ⟨K3, hN, fun n' h2 h3 => ?_, fun n' h => ?_, ⟨o, ?_⟩, fun n' a' h => ?_, ?_⟩
      · have h4 := B.bit n' h2 h3
        have h5 := b1.bit (n' - 1)
        have h6 : S3.bit 0 (n' - 1) = S1.bit 0 (n' - 1) := by
          unfold WalS.bit
          rw [g3 _ (by omega)]
        rw [h6, h5]
        by_cases e : n' = i + 1
        · subst e; rw [if_pos (by omega), upd_same]; rfl
        · rw [if_neg (by omega), upd_other _ e]; exact h4
      · by_cases e : n' = i + 1
        · omega
        · rw [upd_other _ e] at h; exact B.dom n' h
      · have R1 := R.low (S' := S3) hN2 (fun j hj => hget j (by omega) (by omega))
        rw [hc, hx]
        have hbl : ∀ n', 0 < cOf A n' → S3.nodeB n' = S.nodeB n' := fun n' h => by
          have h2 : (A n').isSome = true := by
            cases e : A n' with
            | none => rw [cOf_none e] at h; omega
            | some a => rfl
          have h3 := B.dom n' h2
          refine hoth n' h3.1 h3.2 (fun e => ?_)
          rw [e, hAn] at h2
          cases h2
        have hb2 : ∀ n' i', i' < cOf A n' → blkG S3.get (S3.nodeB n') i' = blkG S3.get (S.nodeB n') i' := fun n' i' h => by rw [hbl n' (by omega)]
        refine ⟨R1.lay.congr hb2 (fun n' j hj => ?_), R1.bits, fun n' i' j h2 h3 => by rw [hb2 n' i' h2]; exact R1.dat n' i' j h2 h3, fun n' => nodeB_len K3 n', fun n' hn' j hj hj2 => ?_⟩
        · rw [hbl n' (Nat.pos_of_ne_zero fun e => ?_)]
          have h0 : nlN 0 = 0 := rfl
          rw [e, h0] at hj
          omega
        · by_cases e : n' = i + 1
          · subst e; rw [n3]; exact f3 _ (by omega)
          · have h2 : (A n').isSome = true := by unfold onOf at hn'; rwa [upd_other _ e] at hn'
            have h3 := B.dom n' h2
            rw [hoth n' h3.1 h3.2 e]
            exact R1.zer n' h2 j hj hj2
      · by_cases e : n' = i + 1
        · subst e
          rw [upd_same] at h
          injection h with h
          subst h
          rw [n3]
          exact f2
        · rw [upd_other _ e] at h
          have := B.dom n' (by rw [h]; rfl)
          rw [hoth n' this.1 this.2 e]
          exact B.node n' a' h
      · have h2 : allOf (upd A (i + 1) (some ⟨kind, s, l, room, []⟩)) = allOf A := by unfold allOf; rw [hc]
        rw [h2, freeB_low B.kb K3 (fun j h2 h3 => hget j (by omega) (by omega))]
        exact B.free
theorem BaseP.make_bad {kind room : Int} {s l : List Int} (h : (kind ≠ 1 ∧ kind ≠ 2) ∨ (isSetB s && isSetB l) = false ∨ room < 0 ∨ 256 < room) : S.makeN kind s l room = (1, 0, S) := by
  unfold WalS.makeN
  rw [if_pos h]
theorem BaseP.mono (B : BaseP S N g cc m A) {m' : Nat} (h : m ≤ m') : BaseP S N g cc m' A := ⟨B.kb.mono h, B.big, B.bit, B.dom, B.rdy, B.node, B.free⟩
/-- The same sectors, the same base. -/
theorem BaseP.same {S' : WalS} {cc' m' : Nat} {g' : Nat → Bytes} (B : BaseP S N g cc m A) (K' : Kb S' N g' cc' m') (h : ∀ k, k < N → S'.get k = S.get k) : BaseP S' N g' cc' m' A := by
  obtain ⟨o, R⟩ := B.rdy
  have hN := B.big
  have hN2 := B.kb.kp.n_le
  have hb : ∀ a i, a + i / 512 < N → S'.bit a i = S.bit a i := fun a i hi => by unfold WalS.bit; rw [h _ hi]
  have hnb : ∀ n, 1 ≤ n → n ≤ 64 → S'.nodeB n = S.nodeB n := fun n h1 h2 => nodeB_same fun j h3 h4 => h j (by omega)
  have hl : ∀ n' j, j < nlN (cOf A n') → S'.get (299 + ent (S.nodeB n') (32 + j)) = S.get (299 + ent (S.nodeB n') (32 + j)) := fun n' j hj => h _ (by have := (R.lay.lst n' j hj).1; omega)
  have hbl : ∀ n' i', i' < cOf A n' → blkG S'.get (S.nodeB n') i' = blkG S.get (S.nodeB n') i' := fun n' i' hi' => R.lay.frame hl hi'
  have R' : Ready S' N (onOf A) S.nodeB (cOf A) o (xOf A) := ⟨R.lay.congrF hl, fun k h1 h2 => by rw [hb _ _ (by omega)]; exact R.bits k h1 h2, fun n' i' j hi' hj => by rw [hbl n' i' hi', h _ (by have := (R.lay.blk n' i' hi').2.1; omega)]; exact R.dat n' i' j hi' hj, R.len, R.zer⟩
  refine ⟨K', hN, fun n h1 h2 => by rw [hb _ _ (by omega)]; exact B.bit n h1 h2, B.dom, ⟨o, R'.swap (fun n hn => ?_) (fun n hn => off_cOf n hn) (fun n => nodeB_len K' n)⟩, fun n a ha => ?_, ?_⟩
  · have := B.dom n hn
    exact hnb n this.1 this.2
  · have := B.dom n (by rw [ha]; rfl)
    rw [hnb n this.1 this.2]
    exact B.node n a ha
  · have e : cntI (S'.bit 1) (N - 300) = cntI (S.bit 1) (N - 300) := cntI_congr fun j hj => hb _ _ (by omega)
    rw [freeB_eq K', e, ← freeB_eq B.kb]
    exact B.free
theorem BaseP.commit (B : BaseP S N g cc m A) (hcc : cc < 1000000) : S.commit.1 = 0 ∧ BaseP S.commit.2 N S.get (cc + 1) 0 A := by
  obtain ⟨e, K, h⟩ := B.kb.commit hcc
  exact ⟨e, B.same K h⟩
/-- What was committed is the base A. -/
def Done (N : Nat) (g : Nat → Bytes) (A : Nodes) : Prop := ∃ (S : WalS) (g' : Nat → Bytes) (cc m : Nat), BaseP S N g' cc m A ∧ ∀ k, k < N → g k = S.get k
theorem BaseP.done (B : BaseP S N g cc m A) : Done N S.get A := ⟨S, g, cc, m, B, fun _ _ => rfl⟩
theorem BaseP.aborted {A0 : Nodes} (B : BaseP S N g cc m A) (hd : Done N g A0) : BaseP S.aborted N g cc 0 A0 := by
  obtain ⟨S0, g', cc', m', B0, hg⟩ := hd
  obtain ⟨K, h⟩ := B.kb.aborted
  exact B0.same K (fun k hk => (h k hk).trans (hg k hk))
end
end Go.Lz
/-
  A base, plain: a new one; Write with its refusals; what Check needs.
-/
namespace Go.Lz
open Go.RowKit Go.Proofs.YtjngphffgdjcfaaGreatDoor
section
variable {S S1 : WalS} {N cc m n i k : Nat} {g : Nat → Bytes} {o : Owner} {A : Nodes} {a : NodeA}
theorem cntI_none {is : Nat → Bool} {m : Nat} (h : ∀ i, i < m → is i = false) : cntI is m = 0 := by
  induction m with
  | zero => rfl
  | succ m ih => rw [cntI_succ, ih (fun i hi => h i (by omega)), h m (by omega)]; rfl
theorem sumF_zero {f : Nat → Nat} {m : Nat} (h : ∀ k, k < m → f k = 0) : sumF f m = 0 := by
  induction m with
  | zero => rfl
  | succ m ih => unfold sumF; rw [ih (fun k hk => h k (by omega)), h m (by omega)]
theorem BaseP.new {M : Nat} (h1 : 700 ≤ M) (h2 : M ≤ 8192) : BaseP (newS M) (M - 300) (fun _ => zero64) 0 0 (fun _ => none) := by
  obtain ⟨K, hn⟩ := Kp.new (n := M) (by omega) h2
  have hz : ∀ k, k < M - 300 → (newS M).get k = zero64 := fun k hk => by rw [K.get hk, hn]; rfl
  have hb0 : ∀ j, j < 512 → bitB zero64 j = false := by decide +kernel
  have hb : ∀ b i, b + i / 512 < M - 300 → (newS M).bit b i = false := fun b i h => by unfold WalS.bit; rw [hz _ h]; exact hb0 _ (by omega)
  have KB : Kb (newS M) (M - 300) (fun _ => zero64) 0 0 := ⟨K, by rw [hn, heavyF_none]; exact Nat.le_refl _⟩
  refine ⟨KB, by omega, fun n h3 h4 => by rw [hb _ _ (by omega)]; rfl, fun n h => (by cases h), ⟨fun _ => none, ⟨⟨fun n i h => (by simp [cOf] at h), fun n j h => ?_, fun n => ?_, fun n => ?_, fun k n x h => (by cases h)⟩, fun k h3 h4 => by rw [hb _ _ (by omega)]; rfl, fun n i j h => (by simp [cOf] at h), fun n => nodeB_len KB n, fun n h => (by cases h)⟩⟩, fun n a h => (by cases h), ?_⟩
  · have h0 : nlN (cOf (fun _ => none) n) = 0 := by rw [cOf_none rfl]; decide
    rw [h0] at h
    omega
  · exact Nat.zero_le _
  · have h0 : nlN (cOf (fun _ => none) n) = 0 := by rw [cOf_none rfl]; decide
    rw [h0]
    exact Nat.zero_le _
  · have e : cntI ((newS M).bit 1) (M - 300 - 300) = 0 := cntI_none fun i hi => hb _ _ (by omega)
    rw [freeB_eq KB, e]
    have : allOf (fun _ => none) = 0 := sumF_zero fun k hk => by rw [cOf_none rfl]; decide
    rw [this]
    omega
/-- Write, with its refusals. -/
theorem BaseP.write_none (B : BaseP S N g cc m A) {z at' : Int} {p : Bytes} (h : S.nodeE z ≠ 0) : S.writeN z at' p = (61, S) := by
  unfold WalS.writeN
  rw [if_pos h]
  rw [B.nodeE] at h ⊢
  split at h
  · exact absurd rfl h
  · rename_i h2
    rw [if_neg h2]
theorem BaseP.nodeE_some (B : BaseP S N g cc m A) (ha : A n = some a) : S.nodeE (n : Int) = 0 := by
  have := B.dom n (by rw [ha]; rfl)
  rw [B.nodeE, Int.toNat_natCast, ha, if_pos ⟨by omega, rfl⟩]
theorem BaseP.write_room (B : BaseP S N g cc m A) (ha : A n = some a) {at' : Nat} {p : Bytes} (h : 64 * a.room < p.length ∨ 64 * a.room < at' + p.length) : S.writeN (n : Int) (at' : Int) p = (72, S) := by
  unfold WalS.writeN
  rw [B.nodeE_some ha, if_neg (by decide), if_neg (by omega), Int.toNat_natCast, Int.toNat_natCast, (B.node n a ha).room, if_pos h]
theorem BaseP.write_ok (B : BaseP S N g cc m A) (ha : A n = some a) {at' : Nat} {p : Bytes} (hr : at' + p.length ≤ 64 * a.room) (hp : p ≠ []) (hl : at' + p.length - min at' a.data.length ≤ 6144) (hm : m ≤ 5) :
    (S.freeB + withN (cOf A n) < withN (cntN (at' + p.length)) ∧ S.writeN (n : Int) (at' : Int) p = (60, S)) ∨
    ∃ S', S.writeN (n : Int) (at' : Int) p = (0, S') ∧ BaseP S' N g cc (m + 106) (upd A n (some { a with data := wrB a.data at' p })) := by
  unfold WalS.writeN
  rw [B.nodeE_some ha, if_neg (by decide), if_neg (by omega), Int.toNat_natCast, Int.toNat_natCast, (B.node n a ha).room, if_neg (by omega), if_neg hp, (B.node n a ha).size, if_neg (by omega)]
  exact B.writeB ha hp hr hl hm
end
end Go.Lz
/-
  A base under small folders, plain: which sectors a transaction has.
-/
namespace Go.Lz
open Go.RowKit Go.Proofs.YtjngphffgdjcfaaGreatDoor
/-- The sectors that small folders need: the maps, two nodes, sixty-four blocks. -/
def Zs (j : Nat) : Prop := j < 24 ∨ (300 ≤ j ∧ j < 364)
section
variable {S S' : WalS} {N cc m n : Nat} {g : Nat → Bytes} {o : Owner} {b : Bytes} {A : Nodes} {a : NodeA}
theorem has_upd {k j : Nat} (h : Has { S with now := upd S.now k (some b) } j) : Has S j ∨ j = k := by
  by_cases e : j = k
  · exact .inr e
  · left
    have h2 : (upd S.now k (some b) j).isSome = true := h
    rw [upd_other _ e] at h2
    exact h2
theorem has_write {k j : Nat} (h : Has (S.write (k : Int) b).2 j) : Has S j ∨ j = k := by
  unfold WalS.write at h
  split at h
  · exact .inl h
  split at h
  · exact .inl h
  split at h
  · exact .inl h
  · rw [Int.toNat_natCast] at h
    exact has_upd h
theorem has_setBit {a i j : Nat} {tb : Bool} (h : Has (S.setBit a i tb).2 j) : Has S j ∨ j = a + i / 512 := has_write h
theorem has_takeI {a n j : Nat} (h : Has (S.takeI a n).2.2 j) : Has S j ∨ ∃ i, i < n ∧ j = a + i / 512 := by
  rcases least_free (S.bit a) n with h1 | ⟨i, hi, h0, h1⟩
  · rw [WalS.takeI_none h1] at h
    exact .inl h
  · rw [WalS.takeI_some hi h0 h1] at h
    split at h <;> exact (has_setBit h).imp id fun h => ⟨i, hi, h⟩
theorem has_giveI {a n j : Nat} {z : Int} (h : Has (S.giveI a n z).2 j) : Has S j ∨ ∃ i, i < n ∧ j = a + i / 512 := by
  unfold WalS.giveI at h
  split at h
  · exact .inl h
  split at h
  · exact .inl h
  · exact (has_setBit h).imp id fun h => ⟨z.toNat, by omega, h⟩
theorem cntI_mono (f : Nat → Bool) {k m : Nat} (h : k ≤ m) : cntI f k ≤ cntI f m := by
  induction m with
  | zero => obtain rfl : k = 0 := by omega
            exact Nat.le_refl _
  | succ m ih =>
    by_cases e : k = m + 1
    · rw [e]; exact Nat.le_refl _
    · rw [cntI_succ]
      have := ih (by omega)
      omega
/-- The block that is taken is one of the first ones, where not many are taken. -/
theorem take_low (K : Kb S N g cc m) (hN : 400 ≤ N) (hf : N - 300 < S.freeB + 64) {k : Nat} (h : S.take = (0, k, S')) : k ≤ 64 ∧ ∀ j, Has S' j → Has S j ∨ j < 16 ∨ j = 299 + k := by
  have hN2 := K.kp.n_le
  have ha : S.allB = N - 300 := by unfold WalS.allB; rw [K.size]
  have hfr := freeB_eq K
  unfold WalS.take at h
  rw [ha] at h
  rcases least_free (S.bit 1) (N - 300) with h1 | ⟨i, hi, h0, h1⟩
  · rw [WalS.takeI_none h1] at h
    rw [if_neg (show ¬ (60 : Int) = 0 by decide)] at h
    injection h with h _
    cases h
  · have hi64 : i < 64 := by
      apply Classical.byContradiction
      intro hn
      have e := cntI_all (is := S.bit 1) (m := 64) (fun j hj => h1 j (by omega))
      have := cntI_mono (S.bit 1) (show 64 ≤ N - 300 by omega)
      omega
    have hT : ∀ j, Has (S.takeI 1 (N - 300)).2.2 j → Has S j ∨ j < 16 := fun j hj => (has_takeI hj).imp id fun ⟨i, hi, e⟩ => by omega
    rw [WalS.takeI_some hi h0 h1] at h hT
    by_cases e0 : (S.setBit 1 i true).1 = 0
    · rw [if_pos e0] at h hT
      rw [if_pos rfl] at h
      unfold WalS.takeW at h
      injection h with _ h
      injection h with hk hS
      have hk : i + 1 = k := hk
      subst hk hS
      refine ⟨by omega, fun j hj => ?_⟩
      rcases has_write hj with hj | hj
      · exact (hT j hj).imp id .inl
      · exact .inr (.inr (by omega))
    · rw [if_neg e0] at h
      rw [if_neg e0] at h
      injection h with h _
      exact absurd h e0
theorem growF_low (hN : 400 ≤ N) : ∀ (d : Nat) {S : WalS} {o : Owner} {b : Bytes} {i m : Nat} {b' : Bytes} {S' : WalS}, Kb S N g cc m → Bits S (N - 300) o → b.length = 256 → m + d ≤ 111 → i + d ≤ 32 → N - 300 + d ≤ S.freeB + 64 → d ≤ S.freeB → WalS.growF d i b S = (0, b', S') →
    (∀ j, Has S' j → Has S j ∨ j < 16 ∨ (300 ≤ j ∧ j < 364)) ∧ (∀ x, i ≤ x → x < i + d → ent b' x ≤ 64) ∧ ∀ x, x < i → ent b' x = ent b x := by
  intro d
  induction d with
  | zero =>
    intro S o b i m b' S' K hB hb hm hi hf hd h
    unfold WalS.growF at h
    injection h with _ h
    injection h with h1 h2
    subst h1 h2
    exact ⟨fun j hj => .inl hj, fun x h1 h2 => by omega, fun x _ => rfl⟩
  | succ d ih =>
    intro S o b i m b' S' K hB hb hm hi hf hd h
    obtain ⟨k, S1, e1, T⟩ := take_step K (by omega) hN hB (by omega)
    obtain ⟨hk, hh⟩ := take_low K hN (by omega) e1
    have hpl : placeL i = 0 := by unfold placeL; rw [if_pos (by omega)]
    have hpa : placeA i = 140 + 2 * i := by unfold placeA; rw [if_pos (by omega)]
    unfold WalS.growF at h
    rw [e1] at h
    unfold WalS.okN at h
    rw [if_pos rfl] at h
    unfold WalS.link at h
    simp only [hpl, if_true] at h
    unfold WalS.okB at h
    rw [if_pos rfl, hpa] at h
    have hT := T.free
    have hlo := T.lo
    obtain ⟨h1, h2, h3⟩ := ih (i := i + 1) T.kb (T.bits (0, i)) (by rw [put2B_length, hb]) (by omega) (by omega) (by omega) (by omega) h
    refine ⟨fun j hj => ?_, fun x hx1 hx2 => ?_, fun x hx => ?_⟩
    · rcases h1 j hj with hj | hj
      · rcases hh j hj with hj | hj | hj
        · exact .inl hj
        · exact .inr (.inl hj)
        · exact .inr (.inr (by omega))
      · exact .inr hj
    · by_cases e : x = i
      · subst e
        rw [h3 x (by omega), ent_put hb (by omega) (by omega), if_pos rfl]
        exact hk
      · exact h2 x (by omega) (by omega)
    · rw [h3 x (by omega), ent_put hb (by omega) (by omega), if_neg (by omega)]
theorem block_low (S : WalS) (b : Bytes) {x : Nat} (hx : x < 32) : S.block b x = (0, ent b x) := by
  have h1 : placeL x = 0 := by unfold placeL; rw [if_pos hx]
  have h2 : placeA x = 140 + 2 * x := by unfold placeA; rw [if_pos hx]
  unfold WalS.block
  rw [if_pos h1, h2]
  rfl
theorem eachW_has (b : Bytes) : ∀ (d i j : Nat) (S : WalS) (p : Bytes), j ≤ 2048 → ∀ t, Has (eachF writeStep b d i j S p).2.1 t → Has S t ∨ ∃ x, 64 * x < j ∧ i / 64 ≤ x ∧ t = 299 + ent b x := by
  intro d
  induction d with
  | zero =>
    intro i j S p _ t h
    unfold eachF at h
    exact .inl h
  | succ d ih =>
    intro i j S p hj t h
    unfold eachF at h
    by_cases hij : i < j
    · rw [if_pos hij, block_low S b (by omega), if_pos (show ((0 : Int), ent b (i / 64)).1 = 0 from rfl)] at h
      have hw : ∀ t, Has (writeStep S p (299 + ent b (i / 64)) (i % 64) (min (64 - i % 64) (j - i))).2.1 t → Has S t ∨ t = 299 + ent b (i / 64) := fun t h => by
        unfold writeStep at h
        split at h
        · exact .inl h
        · exact has_write h
      have hx : ∀ t, Has S t ∨ t = 299 + ent b (i / 64) → Has S t ∨ ∃ x, 64 * x < j ∧ i / 64 ≤ x ∧ t = 299 + ent b x := fun t h => h.imp id fun h => ⟨i / 64, by omega, Nat.le_refl _, h⟩
      simp only at h
      split at h
      · rcases ih _ _ _ _ hj t h with h | ⟨x, h1, h2, h3⟩
        · exact hx t (hw t h)
        · exact .inr ⟨x, h1, by omega, h3⟩
      · exact hx t (hw t h)
    · rw [if_neg hij] at h
      exact .inl h
theorem saveF_has (n : Nat) (b : Bytes) : ∀ (d : Nat) (S : WalS) (t : Nat), d ≤ 4 → Has (WalS.saveF n b d S).2 t → Has S t ∨ (16 + 4 * (n - 1) ≤ t ∧ t < 16 + 4 * (n - 1) + 4) := by
  intro d
  induction d with
  | zero => intro S t _ h; exact .inl h
  | succ d ih =>
    intro S t hd h
    have hP : ∀ t, Has (S.saveP n b (3 - d)).2 t → Has S t ∨ (16 + 4 * (n - 1) ≤ t ∧ t < 16 + 4 * (n - 1) + 4) := fun t h => by
      unfold WalS.saveP at h
      split at h
      · exact .inl h
      · exact (has_write h).imp id fun e => by omega
    unfold WalS.saveF WalS.okS at h
    split at h
    · rcases ih _ t (by omega) h with h | h
      · exact hP t h
      · exact .inr h
    · exact hP t h
theorem save_has (n : Nat) (b : Bytes) (S : WalS) (t : Nat) (h : Has (S.save n b).2 t) : Has S t ∨ (16 + 4 * (n - 1) ≤ t ∧ t < 16 + 4 * (n - 1) + 4) := saveF_has n b 4 S t (Nat.le_refl _) h
/-- As many as there are in these sectors. -/
theorem heavy_Zs {f : Nat → Option Bytes} (h : ∀ j, (f j).isSome = true → Zs j) (n : Nat) : heavyF f n ≤ (min n 24 - 16) + (min n 364 - 300) := by
  induction n with
  | zero => exact Nat.zero_le _
  | succ n ih =>
    rw [heavyF_succ]
    by_cases e : ((f n).isSome && decide (16 ≤ n)) = true
    · rw [if_pos e]
      rw [Bool.and_eq_true, decide_eq_true_eq] at e
      have := h n e.1
      unfold Zs at this
      omega
    · rw [if_neg e]
      omega
/-- The base holds these nodes, of small folders; its transaction is within these sectors. -/
structure BaseZ (S : WalS) (N : Nat) (g : Nat → Bytes) (cc : Nat) (A : Nodes) : Prop where
  base : BaseP S N g cc 72 A
  lo : ∀ j, Has S j → Zs j
  small : ∀ n a, A n = some a → n ≤ 2 ∧ a.data.length ≤ 2048
  blk : ∀ n x, x < cOf A n → ent (S.nodeB n) x ≤ 64
  few : allOf A ≤ 40
theorem BaseP.few_ {m' : Nat} (B : BaseP S N g cc m' A) (lo : ∀ j, Has S j → Zs j) : BaseP S N g cc 72 A :=
  ⟨⟨B.kb.kp, by have := heavy_Zs (f := S.now) lo N; omega⟩, B.big, B.bit, B.dom, B.rdy, B.node, B.free⟩
end
end Go.Lz
/-
  A base under small folders, plain: Write from the start.
-/
namespace Go.Lz
open Go.RowKit Go.Proofs.YtjngphffgdjcfaaGreatDoor
section
variable {S S' : WalS} {N cc m n : Nat} {g : Nat → Bytes} {A : Nodes} {a : NodeA} {p : Bytes}
theorem Ready.ent_lo {on : Nat → Bool} {nb : Nat → Bytes} {c : Nat → Nat} {o : Owner} {X : Nat → Nat → UInt8} (R : Ready S N on nb c o X) {n x : Nat} (hx : x < c n) (h32 : x < 32) : 1 ≤ ent (nb n) x := by
  have := (R.lay.blk n x hx).2.1.1
  unfold blkG at this
  rwa [if_pos h32] at this
theorem withN_small {k : Nat} (h : k ≤ 32) : withN k = k := by rw [withN_nl]; unfold nlN; omega
theorem nlN_small {k : Nat} (h : k ≤ 32) : nlN k = 0 := by unfold nlN; omega
theorem allOf_set {n : Nat} {a : NodeA} (hn : n < 65) : allOf (upd A n (some a)) + withN (cOf A n) = allOf A + withN (cntN a.data.length) := by
  unfold allOf
  have := sumF_upd (fun n => withN (cOf A n)) (k := n) (m := 65) hn (withN (cntN a.data.length))
  have e : (fun n_1 => withN (cOf (upd A n (some a)) n_1)) = upd (fun n => withN (cOf A n)) n (withN (cntN a.data.length)) := by
    funext j
    rw [cOf_upd]
    by_cases e : j = n
    · subst e; rw [upd_same, upd_same]
    · rw [upd_other _ e, upd_other _ e]
  rw [e]
  exact this
theorem BaseZ.writeB (Z : BaseZ S N g cc A) (ha : A n = some a) (hp : p ≠ []) (hr : p.length ≤ 64 * a.room) (hl : p.length ≤ 1000) (hfit : allOf A + cntN p.length ≤ 40 + cOf A n) :
    ∃ S', S.writeB n (S.nodeB n) 0 p = (0, S') ∧ BaseZ S' N g cc (upd A n (some { a with data := wrB a.data 0 p })) := by
  have B := Z.base
  obtain ⟨o, R⟩ := B.rdy
  have hN := B.big
  have M := B.node n a ha
  have hca := cOf_some ha
  have hsm := Z.small n a ha
  have hdom := B.dom n (by rw [ha]; rfl)
  have hszr : a.data.length ≤ 64 * a.room := by have := M.ok.size; rw [M.room, M.size] at this; exact this
  have hroom : a.room ≤ 256 := by have := M.ok.room; rw [M.room] at this; exact this
  have hpl : p.length ≠ 0 := fun e => hp (List.eq_nil_of_length_eq_zero e)
  obtain ⟨T, hT⟩ : ∃ T, T = max a.data.length p.length := ⟨_, rfl⟩
  have hTc : cntN a.data.length ≤ cntN T := by unfold cntN; omega
  have hT32 : cntN T ≤ 32 := by unfold cntN; omega
  have hc32 : cntN a.data.length ≤ 32 := by omega
  have hcT : cntN T - cntN a.data.length ≤ 16 := by unfold cntN; omega
  have hold : (cntN T - cntN a.data.length) + oldN (cntN a.data.length) 0 p.length ≤ 33 := by unfold oldN; rw [if_neg hpl]; unfold cntN; omega
  obtain ⟨d, hd⟩ : ∃ d : NodeA, d = { a with data := wrB a.data 0 p } := ⟨_, rfl⟩
  have hdl : d.data.length = T := by rw [hd, hT]; simpa using wrB_length a.data 0 p
  have hn1 := nlN_small hT32
  have hn2 := nlN_small hc32
  have hall : allOf (upd A n (some d)) ≤ 40 := by
    have h1 := allOf_set (A := A) (a := d) (show n < 65 by omega)
    rw [hdl, withN_small hT32, hca, withN_small hc32] at h1
    rw [hca] at hfit
    have h2 := Z.few
    unfold cntN at *
    omega
  have key : ∀ b1 S1 o1 m1, S.roomy (S.nodeB n) (0 + p.length) = (0, b1, S1) → m1 + oldN (cntN a.data.length) 0 p.length + 4 ≤ 111 → Kb S1 N g cc m1 → Ready S1 N (onOf A) (upd S.nodeB n b1) (upd (cOf A) n (cntN T)) o1 (xOf A) → (∀ x, x < 140 → (x < 3 ∨ 7 ≤ x) → b1.getD x 0 = (S.nodeB n).getD x 0) → nSize b1 = T → (∀ j, j = 0 ∨ (16 ≤ j ∧ j < 300) → S1.get j = S.get j) → (∀ x, cntN a.data.length ≤ x → x < cntN T → Has S1 (299 + blkG S1.get b1 x)) → S1.freeB + withN (cntN T) = S.freeB + withN (cOf A n) →
      (∀ j, Has S1 j → Zs j) → (∀ x, x < cntN T → ent b1 x ≤ 64) →
      ∃ S', S.writeB n (S.nodeB n) 0 p = (0, S') ∧ BaseZ S' N g cc (upd A n (some d)) := by
    intro b1 S1 o1 m1 e1 hm1 K1 R1 hh hs low fresh hf hlo hent
    obtain ⟨S2, e2, K2, R2, l2, f2⟩ := eachW_ok hN (n := n) (fr := cntN a.data.length) p.length (i := 0) (p := p) K1 R1 (by rw [upd_same]; unfold cntN; omega) (Nat.le_refl _) (fun x h1 h2 => by rw [upd_same] at h2 ⊢; exact fresh x h1 h2) (by omega)
    rw [upd_same] at e2
    rw [← xOf_write ha, ← hd] at R2
    have hcd : cOf (upd A n (some d)) = upd (cOf A) n (cntN T) := by rw [cOf_upd, hdl]
    rw [← hcd] at R2
    have hb1 : b1.length = 256 := by have := R1.len n; rwa [upd_same] at this
    obtain ⟨S3, e3, B3⟩ := B.saved (d := d) ha K2 R2 (fun j hj => (l2 j hj).trans (low j hj)) (by rw [hd]; exact M.sized (by rw [hb1, R.len]) hh (by rw [hs, hT]; simpa using (wrB_length a.data 0 p).symm) (by rw [wrB_length]; omega)) (by rw [hdl, f2]; exact hf) (by omega)
    have hw : S.writeB n (S.nodeB n) 0 p = (0, S3) := by
      unfold WalS.writeB
      rw [e1, if_pos rfl]
      show (if (S1.writeAll b1 0 p).1 = 0 then (S1.writeAll b1 0 p).2.1.save n b1 else _) = _
      unfold WalS.writeAll
      rw [e2, if_pos rfl]
      exact e3
    have hlo3 : ∀ j, Has S3 j → Zs j := fun j hj => by
      have h3 := save_has n b1 S2 j (by rw [e3]; exact hj)
      rcases h3 with h3 | h3
      · have h2 := eachW_has b1 p.length 0 (0 + p.length) S1 p (by omega) j (by rw [e2]; exact h3)
        rcases h2 with h2 | ⟨x, hx1, _, rfl⟩
        · exact hlo j h2
        · have hxT : x < cntN T := by unfold cntN; omega
          have h4 := hent x hxT
          have h5 := R1.ent_lo (n := n) (x := x) (by rw [upd_same]; exact hxT) (by omega)
          rw [upd_same] at h5
          unfold Zs
          omega
      · unfold Zs
        omega
    have hnb : ∀ n' x, x < cOf (upd A n (some d)) n' → ent (S3.nodeB n') x ≤ 64 := fun n' x hx => by
      obtain ⟨S4, e4, _, n4, g4⟩ := save_ok K2 hN (by omega) hdom hb1
      have e34 : S4 = S3 := by
        have e5 := e4.symm.trans e3
        injection e5
      subst e34
      rw [hcd] at hx
      by_cases e : n' = n
      · subst e
        rw [upd_same] at hx
        rw [n4]
        exact hent x hx
      · rw [upd_other _ e] at hx
        have hsome : (A n').isSome = true := by
          cases e6 : A n' with
          | none => rw [cOf_none e6] at hx; exact absurd hx (Nat.not_lt_zero _)
          | some a' => rfl
        have hd' := B.dom n' hsome
        have e7 : S4.nodeB n' = S.nodeB n' := nodeB_same fun j h4 h5 => by
          rw [g4 j (by omega), l2 j (.inr (by omega)), low j (.inr (by omega))]
        rw [e7]
        exact Z.blk n' x hx
    refine ⟨S3, hw, ⟨B3.few_ hlo3, hlo3, fun n' a' ha' => ?_, hnb, hall⟩⟩
    by_cases e : n' = n
    · subst e
      rw [upd_same] at ha'
      cases ha'
      exact ⟨hsm.1, by omega⟩
    · rw [upd_other _ e] at ha'
      exact Z.small n' a' ha'
  rw [hd] at key
  by_cases hg : a.data.length < 0 + p.length
  · have hT2 : T = 0 + p.length := by omega
    have hsz : nSize (S.nodeB n) = a.data.length := M.size
    rcases grow_ok (m' := 0 + p.length) B.kb R hN (show onOf A n = true by unfold onOf; rw [ha]; rfl) (by rw [hca, M.size]) (by rw [M.size]; omega) (by omega) (fun x hx => by
      rw [xOf_some ha, List.getD_eq_getElem?_getD, List.getElem?_eq_none (by rw [hca] at hx; unfold cntN at hx; omega)]; rfl) (by rw [hca, ← hT2]; omega) with ⟨h1, h2⟩ | ⟨b', S1, o1, e1, K1, R1, hh, hs, low, fresh, hf, _⟩
    · have := B.free
      have := Z.few
      rw [hca, withN_small hc32, ← hT2, withN_small hT32] at h1
      omega
    · have eR : S.roomy (S.nodeB n) (0 + p.length) = (0, b', S1) := by
        unfold WalS.roomy
        rw [M.size, if_pos hg, e1]
      have hlow : (∀ j, Has S1 j → Zs j) ∧ ∀ x, x < cntN T → ent b' x ≤ 64 := by
        have hfree := B.free
        have hfew := Z.few
        have hi32 : cntN (0 + p.length) ≤ 16 := by unfold cntN; omega
        unfold WalS.grow at e1
        rw [M.size] at e1
        split at e1
        · injection e1 with e1 _
          cases e1
        · cases eg : WalS.growF (cntN (0 + p.length) - cntN a.data.length) (cntN a.data.length) (S.nodeB n) S with
          | mk er r =>
            obtain ⟨b2, S2⟩ := r
            rw [eg] at e1
            unfold WalS.okB at e1
            by_cases er0 : er = 0
            · subst er0
              rw [if_pos (show ((0 : Int), b2, S2).1 = 0 from rfl)] at e1
              injection e1 with _ e1
              injection e1 with eb eS
              subst eb eS
              have hle : cntN a.data.length ≤ cntN (0 + p.length) := by rw [← hT2]; exact hTc
              obtain ⟨q1, q2, q3⟩ := growF_low hN _ B.kb R.bits (R.len n) (by omega) (by omega) (by omega) (by omega) eg
              refine ⟨fun j hj => ?_, fun x hx => ?_⟩
              · rcases q1 j hj with h | h | h
                · exact Z.lo j h
                · exact .inl (by omega)
                · exact .inr h
              · show ent (setSizeB b2 _) x ≤ 64
                rw [ent_setSize]
                rw [hT2] at hx
                by_cases hxi : x < cntN a.data.length
                · rw [q3 x hxi]
                  exact Z.blk n x (by rw [hca]; exact hxi)
                · exact q2 x (by omega) (by omega)
            · rw [if_neg (show ¬ (er, b2, S2).1 = 0 from er0)] at e1
              injection e1 with e1 _
              exact absurd e1 er0
      rw [hca, ← hT2] at K1
      rw [← hT2] at R1 hs hf
      exact key b' S1 o1 _ eR (by omega) K1 R1 hh hs low (fun x h1 h2 => fresh x (by rw [hca]; exact h1) (by rw [← hT2]; exact h2)) hf hlow.1 hlow.2
  · have hT2 : T = a.data.length := by omega
    refine key (S.nodeB n) S o 72 ?_ (by omega) B.kb ?_ (fun _ _ _ => rfl) (by rw [M.size, hT2]) (fun _ _ => rfl) (fun x h1 h2 => by rw [hT2] at h2; omega) (by rw [hT2, hca]) Z.lo (fun x hx => Z.blk n x (by rw [hca]; rw [hT2] at hx; exact hx))
    · unfold WalS.roomy
      rw [M.size, if_neg hg]
    · rw [upd_self, hT2, ← hca, upd_self]
      exact R
end
end Go.Lz
/-
  A base, plain: a node shrinks.
-/
namespace Go.Lz
open Go.RowKit Go.Proofs.YtjngphffgdjcfaaGreatDoor
namespace WalS
/-- The sector of a node's i-th block is free again. -/
def give1 (S : WalS) (b : Bytes) (i : Nat) : Int × WalS := S.giveI 1 S.allB (((S.block b i).2 : Int) - 1)
/-- The list of a node's i-th block is free again. -/
def give2 (S S1 : WalS) (b : Bytes) (i : Nat) : Int × WalS := S1.giveI 1 S.allB ((twoN b (placeL i) : Int) - 1)
/-- A node's i-th block is given back: the node's bytes, the store. -/
def dropB (S : WalS) (b : Bytes) (i : Nat) : Bytes × WalS :=
  if placeL i = 0 then (put2B b (placeA i) 0, (S.give1 b i).2)
  else if placeA i = 0 then (put2B b (placeL i) 0, (S.give2 (S.give1 b i).2 b i).2)
  else (b, (S.give1 b i).2)
/-- It goes well. -/
def DropOk (S : WalS) (b : Bytes) (i : Nat) : Prop := (S.block b i).1 = 0 ∧ (S.give1 b i).1 = 0 ∧ (placeL i ≠ 0 → placeA i = 0 → (S.give2 (S.give1 b i).2 b i).1 = 0)
/-- d blocks fewer; t are left. -/
def dropF : Nat → Nat → Bytes → WalS → Bytes × WalS
  | 0, _, b, S => (b, S)
  | d + 1, t, b, S => dropF d t (S.dropB b (t + d)).1 (S.dropB b (t + d)).2
def DropsOk : Nat → Nat → Bytes → WalS → Prop
  | 0, _, _, _ => True
  | d + 1, t, b, S => S.DropOk b (t + d) ∧ DropsOk d t (S.dropB b (t + d)).1 (S.dropB b (t + d)).2
def clearB (q : Bytes) (a : Nat) : Bytes := q.take a ++ List.replicate (q.length - a) 0
def tailW (S : WalS) (b : Bytes) (m : Nat) : Int × WalS := S.write ((299 + (S.block b (m / 64)).2 : Nat) : Int) (clearB (S.get (299 + (S.block b (m / 64)).2)) (m % 64))
def tailS (S : WalS) (b : Bytes) (m : Nat) : WalS := if m % 64 = 0 then S else (S.tailW b m).2
def TailOk (S : WalS) (b : Bytes) (m : Nat) : Prop := m % 64 ≠ 0 → (S.block b (m / 64)).1 = 0 ∧ 1 ≤ (S.block b (m / 64)).2 ∧ 299 + (S.block b (m / 64)).2 < S.size ∧ (S.tailW b m).1 = 0
def shrinkD (S : WalS) (b : Bytes) (m : Nat) : Bytes × WalS := dropF (cntN (nSize b) - cntN m) (cntN m) b S
def shrinkB (S : WalS) (b : Bytes) (m : Nat) : Bytes := setSizeB (S.shrinkD b m).1 m
def shrinkS (S : WalS) (b : Bytes) (m : Nat) : WalS := (S.shrinkD b m).2.tailS (S.shrinkB b m) m
def ShrinkOk (S : WalS) (b : Bytes) (m : Nat) : Prop := DropsOk (cntN (nSize b) - cntN m) (cntN m) b S ∧ TailOk (S.shrinkD b m).2 (S.shrinkB b m) m
theorem clearB_length {q : Bytes} {a : Nat} (h : a ≤ q.length) : (clearB q a).length = q.length := by
  unfold clearB
  rw [List.length_append, List.length_take, List.length_replicate]
  omega
theorem clearB_getD {q : Bytes} {a : Nat} (h : a ≤ q.length) (j : Nat) : (clearB q a).getD j 0 = if j < a then q.getD j 0 else 0 := by
  unfold clearB
  by_cases hj : j < a
  · rw [if_pos hj, List.getD_eq_getElem?_getD, List.getElem?_append_left (by rw [List.length_take]; omega), List.getElem?_take_of_lt hj, ← List.getD_eq_getElem?_getD]
  · rw [if_neg hj, List.getD_eq_getElem?_getD, List.getElem?_append_right (by rw [List.length_take]; omega)]
    by_cases h2 : j - (q.take a).length < q.length - a
    · rw [List.getElem?_replicate_of_lt h2]; rfl
    · rw [List.getElem?_eq_none (by rw [List.length_replicate]; omega)]; rfl
end WalS
section
variable {S S1 : WalS} {N cc m n i k : Nat} {g : Nat → Bytes} {o : Owner} {on : Nat → Bool} {nb : Nat → Bytes} {c : Nat → Nat} {X : Nat → Nat → UInt8}
/-- Block k was given back. -/
structure Gave (S S' : WalS) (N : Nat) (g : Nat → Bytes) (cc m k : Nat) (o : Owner) : Prop where
  kb : Kb S' N g cc m
  get : ∀ j, j = 0 ∨ 16 ≤ j → S'.get j = S.get j
  bits : Bits S' (N - 300) (upd o k none)
  free : S'.freeB = S.freeB + 1
theorem give_step (K : Kb S N g cc m) (hm : m ≤ 111) (hN : 400 ≤ N) (hB : Bits S (N - 300) o) (hk : 1 ≤ k ∧ k ≤ N - 300) (hok : (o k).isSome = true) : ∃ S', S.giveI 1 (N - 300) ((k : Int) - 1) = (0, S') ∧ Gave S S' N g cc m k o := by
  have hN2 := K.kp.n_le
  have hbit : S.bit 1 (k - 1) = true := by rw [hB k hk.1 hk.2]; exact hok
  obtain ⟨S', e, hs⟩ := K.giveI hm (a := 1) (n := N - 300) (i := k - 1) (by omega) (by omega) (by omega) hbit
  have hz : ((k : Int) - 1) = ((k - 1 : Nat) : Int) := by omega
  refine ⟨S', by rw [hz]; exact e, hs.kb, fun j hj => hs.get j (by omega), fun k' h1 h2 => ?_, ?_⟩
  · rw [hs.bit]
    by_cases e1 : k' = k
    · subst e1; rw [if_pos rfl, upd_same]; rfl
    · rw [if_neg (by omega), upd_other _ e1]; exact hB k' h1 h2
  · rw [freeB_eq K, freeB_eq hs.kb]
    have e1 : cntI (upd (S.bit 1) (k - 1) false) (N - 300) + 1 = cntI (S.bit 1) (N - 300) := cntI_upd _ (by omega) hbit
    have e2 : cntI (S'.bit 1) (N - 300) = cntI (upd (S.bit 1) (k - 1) false) (N - 300) := cntI_congr fun j _ => by
      rw [hs.bit]
      by_cases e3 : j = k - 1
      · subst e3; rw [if_pos rfl, upd_same]
      · rw [if_neg e3, upd_other _ e3]
    have := cntI_le (S.bit 1) (N - 300)
    omega
/-- A node's last block is gone from the node. -/
theorem Ready.less {S' : WalS} {b' : Bytes} {o' : Owner} (R : Ready S N on nb c o X) (hi : c n = i + 1)
    (hl : Lay S.get (N - 300) nb (upd c n i) (fun n' => nlN (upd c n i n')) o') (hbits : Bits S' (N - 300) o') (hget : ∀ j, j = 0 ∨ 16 ≤ j → S'.get j = S.get j) (hlen : b'.length = 256)
    (h1 : ∀ x, x < i → x < 32 → ent b' x = ent (nb n) x) (h2 : ∀ j, j < nlN i → ent b' (32 + j) = ent (nb n) (32 + j)) (h3 : on n = true → ∀ j, nlN i ≤ j → j < 26 → ent b' (32 + j) = 0) :
    Ready S' N on (upd nb n b') (upd c n i) o' X := by
  have hc : ∀ n', upd c n i n' ≤ c n' := fun n' => by
    by_cases e : n' = n
    · subst e; rw [upd_same]; omega
    · rw [upd_other _ e]; exact Nat.le_refl _
  have hbl : ∀ n' i', i' < upd c n i n' → blkG S'.get (upd nb n b' n') i' = blkG S.get (nb n') i' := fun n' i' hi' => by
    by_cases e : n' = n
    · subst e
      rw [upd_same] at hi' ⊢
      refine blkG_congr (fun h => h1 _ hi' h) (fun h => ?_)
      have h4 := h2 _ (nlN_at h hi')
      refine ⟨h4, ?_⟩
      rw [hget _ (by omega)]
    · rw [upd_other _ e]
      exact blkG_congr (fun _ => rfl) (fun h => ⟨rfl, by rw [hget _ (by omega)]⟩)
  have hli : ∀ n' j, j < nlN (upd c n i n') → ent (upd nb n b' n') (32 + j) = ent (nb n') (32 + j) := fun n' j hj => by
    by_cases e : n' = n
    · subst e
      rw [upd_same] at hj ⊢
      exact h2 j hj
    · rw [upd_other _ e]
  refine ⟨hl.congr hbl hli, hbits, fun n' i' j hi' hj => ?_, fun n' => ?_, fun n' hn' j hj hj26 => ?_⟩
  · rw [hbl n' i' hi', hget _ (by omega)]
    exact R.dat n' i' j (Nat.lt_of_lt_of_le hi' (hc n')) hj
  · by_cases e : n' = n
    · subst e; rw [upd_same]; exact hlen
    · rw [upd_other _ e]; exact R.len n'
  · by_cases e : n' = n
    · subst e
      rw [upd_same] at hj ⊢
      exact h3 hn' j hj hj26
    · rw [upd_other _ e] at hj ⊢
      exact R.zer n' hn' j hj hj26
structure Less (S S' : WalS) (b b' : Bytes) (d : Nat) : Prop where
  hdr : ∀ x, x < 140 → b'.getD x 0 = b.getD x 0
  get : ∀ j, j = 0 ∨ 16 ≤ j → S'.get j = S.get j
  free : S'.freeB = S.freeB + d
theorem Less.refl (S : WalS) (b : Bytes) : Less S S b b 0 := ⟨fun _ _ => rfl, fun _ _ => rfl, (Nat.add_zero _).symm⟩
theorem Less.trans {S S1 S2 : WalS} {b b1 b2 : Bytes} {d e : Nat} (h : Less S S1 b b1 d) (k : Less S1 S2 b1 b2 e) : Less S S2 b b2 (d + e) :=
  ⟨fun x hx => (k.hdr x hx).trans (h.hdr x hx), fun j hj => (k.get j hj).trans (h.get j hj), by have := h.free; have := k.free; omega⟩
theorem drop_step (K : Kb S N g cc m) (R : Ready S N on nb c o X) (hm : m ≤ 111) (hN : 400 ≤ N) (hi : c n = i + 1) :
    S.DropOk (nb n) i ∧ ∃ o', Kb (S.dropB (nb n) i).2 N g cc m ∧ Ready (S.dropB (nb n) i).2 N on (upd nb n (S.dropB (nb n) i).1) (upd c n i) o' X ∧ Less S (S.dropB (nb n) i).2 (nb n) (S.dropB (nb n) i).1 (1 + (nlN (i + 1) - nlN i)) := by
  have hi8 : i < 864 := by have := R.lay.cle n; omega
  obtain ⟨hpl, hk1, hko⟩ := R.lay.blk n i (by omega)
  have hblk := R.block K hN (n := n) (i := i) (by omega)
  have hall : S.allB = N - 300 := by unfold WalS.allB; rw [K.size]
  have hlen := R.len n
  obtain ⟨k, hk⟩ : ∃ k, k = blkG S.get (nb n) i := ⟨_, rfl⟩
  have L0 := R.lay.delB hi
  rw [← hk] at hk1 hko hblk L0
  obtain ⟨S1, e1, G1⟩ := give_step K hm hN R.bits hk1 (by rw [hko]; rfl)
  have hg1 : S.give1 (nb n) i = (0, S1) := by unfold WalS.give1; rw [hblk, hall]; exact e1
  have hb0 : (S.block (nb n) i).1 = 0 := by rw [hblk]
  by_cases h32 : i < 32
  · have p1 : placeL i = 0 := by unfold placeL; rw [if_pos h32]
    have p2 : placeA i = 140 + 2 * i := by unfold placeA; rw [if_pos h32]
    have hnl : nlN (i + 1) = nlN i := by rw [nlN_succ, if_neg (by omega)]
    have hd : S.dropB (nb n) i = (put2B (nb n) (140 + 2 * i) 0, S1) := by unfold WalS.dropB; rw [if_pos p1, p2, hg1]
    rw [hd]
    have hent : ∀ x, ent (put2B (nb n) (140 + 2 * i) 0) x = if x = i then 0 else ent (nb n) x := fun x => ent_put hlen (j := i) (x := x) (by omega) (k := 0) (by omega)
    dsimp only
    refine ⟨⟨hb0, by rw [hg1], fun h => absurd p1 h⟩, _, G1.kb, R.less hi ?_ G1.bits G1.get (by rw [put2B_length]; exact hlen) (fun x hx _ => by rw [hent, if_neg (by omega)]) (fun j hj => by rw [hent, if_neg (by omega)]) (fun hon j hj hj26 => ?_), ⟨fun x hx => put2_getD _ _ (by omega), G1.get, by rw [hnl]; have := G1.free; omega⟩⟩
    · rw [upd_nl_same (by rw [hi, hnl])]; exact L0
    · rw [hent, if_neg (by omega)]
      exact R.zer n hon j (by rw [hi, hnl]; exact hj) hj26
  · obtain ⟨p1, p2⟩ := link_place (i := i) (by omega)
    have hp0 : placeL i ≠ 0 := by omega
    by_cases hmod : (i - 32) % 32 = 0
    · have hA0 : placeA i = 0 := by omega
      have hnl : nlN (i + 1) = nlN i + 1 := by rw [nlN_succ, if_pos ⟨by omega, hmod⟩]
      have hj : nlN i = (i - 32) / 32 := nlN_new hmod
      obtain ⟨hl1, hlo⟩ := R.lay.lst n (nlN i) (by show nlN i < nlN (c n); rw [hi, hnl]; omega)
      obtain ⟨l, hl⟩ : ∃ l, l = ent (nb n) (32 + nlN i) := ⟨_, rfl⟩
      have hlk : l ≠ k := fun e => by
        rw [hl, hk] at e
        exact R.lay.list_ne (n := n) (i := i) (n' := n) (j := nlN i) (by omega) (by show nlN i < nlN (c n); rw [hi, hnl]; omega) e.symm
      have L1 := L0.delL (n := n) (j := nlN i) (by show nlN (c n) = _; rw [hi, hnl]) (fun i' h1 h2 => by rw [upd_same] at h2; omega)
      rw [← hl] at hl1 hlo L1
      obtain ⟨S2, e2, G2⟩ := give_step G1.kb hm hN G1.bits hl1 (by rw [upd_other _ hlk, hlo]; rfl)
      have htw : twoN (nb n) (placeL i) = l := by rw [p1, hl, hj]; rfl
      have hg2 : S.give2 (S.give1 (nb n) i).2 (nb n) i = (0, S2) := by unfold WalS.give2; rw [hg1, hall, htw]; exact e2
      have hd : S.dropB (nb n) i = (put2B (nb n) (140 + 2 * (32 + nlN i)) 0, S2) := by unfold WalS.dropB; rw [if_neg hp0, if_pos hA0, p1, hg2, hj]
      rw [hd]
      have h26 : nlN i < 26 := by have := nlN_le (c := i + 1) (by omega); omega
      have hent : ∀ x, ent (put2B (nb n) (140 + 2 * (32 + nlN i)) 0) x = if x = 32 + nlN i then 0 else ent (nb n) x := fun x => ent_put hlen (j := 32 + nlN i) (x := x) (by omega) (k := 0) (by omega)
      dsimp only
      refine ⟨⟨hb0, by rw [hg1], fun _ _ => by rw [hg2]⟩, _, G2.kb, R.less hi ?_ G2.bits (fun j hj => (G2.get j hj).trans (G1.get j hj)) (by rw [put2B_length]; exact hlen) (fun x hx hx2 => by rw [hent, if_neg (by omega)]) (fun j hj => by rw [hent, if_neg (by omega)]) (fun hon j hj hj26 => ?_), ⟨fun x hx => put2_getD _ _ (by omega), fun j hj => (G2.get j hj).trans (G1.get j hj), by rw [hnl]; have := G1.free; have := G2.free; omega⟩⟩
      · have : (fun n' => nlN (upd c n i n')) = upd (fun n' => nlN (c n')) n (nlN i) := upd_nlN c n i
        rw [this]
        exact L1
      · rw [hent]
        by_cases e : j = nlN i
        · rw [if_pos (by omega)]
        · rw [if_neg (by omega)]
          exact R.zer n hon j (by rw [hi, hnl]; omega) hj26
    · have hA0 : placeA i ≠ 0 := by omega
      have hnl : nlN (i + 1) = nlN i := by rw [nlN_succ, if_neg (by omega)]
      have hd : S.dropB (nb n) i = (nb n, S1) := by unfold WalS.dropB; rw [if_neg hp0, if_neg hA0, hg1]
      rw [hd]
      dsimp only
      refine ⟨⟨hb0, by rw [hg1], fun _ h => absurd h hA0⟩, _, G1.kb, R.less hi ?_ G1.bits G1.get hlen (fun _ _ _ => rfl) (fun _ _ => rfl) (fun hon j hj hj26 => R.zer n hon j (by rw [hi, hnl]; exact hj) hj26), ⟨fun _ _ => rfl, G1.get, by rw [hnl]; have := G1.free; omega⟩⟩
      rw [upd_nl_same (by rw [hi, hnl])]; exact L0
theorem drops_ok (hm : m ≤ 111) (hN : 400 ≤ N) : ∀ (d : Nat) {t : Nat} {S : WalS} {nb : Nat → Bytes} {c : Nat → Nat} {o : Owner}, Kb S N g cc m → Ready S N on nb c o X → c n = t + d →
    WalS.DropsOk d t (nb n) S ∧ ∃ o', Kb (WalS.dropF d t (nb n) S).2 N g cc m ∧ Ready (WalS.dropF d t (nb n) S).2 N on (upd nb n (WalS.dropF d t (nb n) S).1) (upd c n t) o' X ∧ Less S (WalS.dropF d t (nb n) S).2 (nb n) (WalS.dropF d t (nb n) S).1 (d + (nlN (t + d) - nlN t))
  | 0, t, S, nb, c, o, K, R, hc => by
    have hc : c n = t := hc
    refine ⟨trivial, o, K, ?_, ?_⟩
    · have : upd c n t = c := by rw [← hc]; exact upd_self c n
      rw [this]
      show Ready S N on (upd nb n (nb n)) c o X
      rw [upd_self]
      exact R
    · show Less S S (nb n) (nb n) (0 + (nlN (t + 0) - nlN t))
      rw [Nat.add_zero, Nat.sub_self]
      exact Less.refl S (nb n)
  | d + 1, t, S, nb, c, o, K, R, hc => by
    obtain ⟨h1, o1, K1, R1, L1⟩ := drop_step K R hm hN (n := n) (i := t + d) hc
    obtain ⟨h2, o2, K2, R2, L2⟩ := drops_ok hm hN d (t := t) K1 R1 (by rw [upd_same])
    rw [upd_same] at h2 K2 R2 L2
    rw [upd_two, upd_two] at R2
    refine ⟨⟨h1, h2⟩, o2, K2, R2, ?_⟩
    have h3 := L1.trans L2
    have e1 := nlN_mono (a := t) (b := t + d) (by omega)
    have e2 := nlN_mono (a := t + d) (b := t + d + 1) (by omega)
    have : 1 + (nlN (t + d + 1) - nlN (t + d)) + (d + (nlN (t + d) - nlN t)) = d + 1 + (nlN (t + (d + 1)) - nlN t) := by
      rw [show t + (d + 1) = t + d + 1 by omega]; omega
    rw [this] at h3
    exact h3
end
end Go.Lz
/-
  A base, plain: Cut, Free.
-/
namespace Go.Lz
open Go.RowKit Go.Proofs.YtjngphffgdjcfaaGreatDoor
section
variable {S S1 : WalS} {N cc m n i k : Nat} {g : Nat → Bytes} {o : Owner} {on : Nat → Bool} {nb : Nat → Bytes} {c : Nat → Nat} {X : Nat → Nat → UInt8} {A : Nodes} {a : NodeA}
def cutX (X : Nat → Nat → UInt8) (n to' : Nat) : Nat → Nat → UInt8 := fun n' x => if n' = n ∧ to' ≤ x then 0 else X n' x
theorem Ready.congrX {X' : Nat → Nat → UInt8} (R : Ready S N on nb c o X) (h : ∀ n i j, i < c n → j < 64 → X' n (64 * i + j) = X n (64 * i + j)) : Ready S N on nb c o X' :=
  ⟨R.lay, R.bits, fun n i j hi hj => by rw [h n i j hi hj]; exact R.dat n i j hi hj, R.len, R.zer⟩
theorem rep_getD (k j : Nat) : (List.replicate k (0 : UInt8)).getD j 0 = 0 := by
  rw [List.getD_eq_getElem?_getD]
  by_cases h : j < k
  · rw [List.getElem?_replicate_of_lt h]; rfl
  · rw [List.getElem?_eq_none (by rw [List.length_replicate]; omega)]; rfl
theorem clear_splice {q : Bytes} {x : Nat} (hq : q.length = 64) (hx : x ≤ 64) : WalS.clearB q x = splice q x (List.replicate (64 - x) 0) := by
  refine List.ext_getElem? fun j => ?_
  have h1 := WalS.clearB_getD (q := q) (a := x) (by omega) j
  have h2 := splice_getD (b := q) (p := List.replicate (64 - x) 0) (a := x) (by rw [List.length_replicate]; omega) j
  rw [List.length_replicate] at h2
  have l1 := WalS.clearB_length (q := q) (a := x) (by omega)
  have l2 : (splice q x (List.replicate (64 - x) 0)).length = q.length := length_splice _ _ _ (by rw [List.length_replicate]; omega)
  by_cases hj : j < 64
  · rw [List.getD_eq_getElem?_getD, List.getElem?_eq_getElem (by omega)] at h1 h2
    rw [List.getElem?_eq_getElem (by omega), List.getElem?_eq_getElem (by omega)]
    simp only [Option.getD_some] at h1 h2
    rw [h1, h2]
    by_cases h3 : j < x
    · rw [if_pos h3, if_neg (by omega)]
    · rw [if_neg h3, if_pos (by omega), rep_getD]
  · rw [List.getElem?_eq_none (by omega), List.getElem?_eq_none (by omega)]
theorem shrink_ok {to' : Nat} (K : Kb S N g cc m) (R : Ready S N on nb c o X) (hm : m + 1 ≤ 111) (hN : 400 ≤ N) (hc : c n = cntN (nSize (nb n))) (ht : to' ≤ nSize (nb n)) (hs : nSize (nb n) ≤ 55296) :
    S.ShrinkOk (nb n) to' ∧ ∃ o', Kb (S.shrinkS (nb n) to') N g cc (m + 1) ∧ Ready (S.shrinkS (nb n) to') N on (upd nb n (S.shrinkB (nb n) to')) (upd c n (cntN to')) o' (cutX X n to') ∧
      (∀ x, x < 140 → (x < 3 ∨ 7 ≤ x) → (S.shrinkB (nb n) to').getD x 0 = (nb n).getD x 0) ∧ nSize (S.shrinkB (nb n) to') = to' ∧ (∀ j, j = 0 ∨ (16 ≤ j ∧ j < 300) → (S.shrinkS (nb n) to').get j = S.get j) ∧
      (S.shrinkS (nb n) to').freeB + withN (cntN to') = S.freeB + withN (c n) := by
  have hN2 := K.kp.n_le
  have hle : cntN to' ≤ cntN (nSize (nb n)) := by unfold cntN; omega
  obtain ⟨h1, o1, K1, R1, L1⟩ := drops_ok (by omega) hN (cntN (nSize (nb n)) - cntN to') (n := n) (t := cntN to') K R (by omega)
  have hcnt : cntN to' + (cntN (nSize (nb n)) - cntN to') = c n := by omega
  rw [hcnt] at L1
  obtain ⟨D, hD⟩ : ∃ D, D = S.shrinkD (nb n) to' := ⟨_, rfl⟩
  have hD2 : WalS.dropF (cntN (nSize (nb n)) - cntN to') (cntN to') (nb n) S = D := hD.symm
  rw [hD2] at K1 R1 L1
  have hb1 : D.1.length = 256 := by have := R1.len n; rwa [upd_same] at this
  have hb2 : (setSizeB D.1 to').length = 256 := by rw [setSizeB_length]; exact hb1
  have R2 := R1.node (n := n) hb2 (fun x _ => by rw [upd_same]; exact ent_setSize _ _ _)
  rw [upd_two] at R2
  have hB : S.shrinkB (nb n) to' = setSizeB D.1 to' := by unfold WalS.shrinkB; rw [← hD]
  have hhdr : ∀ x, x < 140 → (x < 3 ∨ 7 ≤ x) → (setSizeB D.1 to').getD x 0 = (nb n).getD x 0 := fun x h2 h3 => by
    rw [← L1.hdr x h2]
    unfold setSizeB
    rw [put2_getD _ _ (by omega), put2_getD _ _ (by omega)]
  have hsz : nSize (setSizeB D.1 to') = to' := nSize_set _ (by omega) (by omega)
  have hfr : D.2.freeB + withN (cntN to') = S.freeB + withN (c n) := by
    have := L1.free
    have := nlN_mono (a := cntN to') (b := c n) (by omega)
    rw [withN_nl, withN_nl]
    omega
  unfold WalS.ShrinkOk WalS.shrinkS
  rw [hB, ← hD]
  by_cases h64 : to' % 64 = 0
  · have ht0 : D.2.tailS (setSizeB D.1 to') to' = D.2 := by unfold WalS.tailS; rw [if_pos h64]
    rw [ht0]
    refine ⟨⟨h1, fun h => absurd h64 h⟩, o1, K1.mono (by omega), R2.congrX (fun n' i' j h2 h3 => ?_), hhdr, hsz, fun j hj => L1.get j (by omega), hfr⟩
    unfold cutX
    refine if_neg fun h => ?_
    obtain ⟨rfl, h5⟩ := h
    rw [upd_same] at h2
    unfold cntN at h2
    omega
  · have hi : to' / 64 < upd c n (cntN to') n := by rw [upd_same]; unfold cntN; omega
    have hblk := R2.block K1 hN hi
    rw [upd_same] at hblk
    have hlo := (R2.lay.blk n _ hi).2.1
    rw [upd_same] at hlo
    obtain ⟨q, hq⟩ : ∃ q, q = blkG D.2.get (setSizeB D.1 to') (to' / 64) := ⟨_, rfl⟩
    have hsp := clear_splice (q := D.2.get (299 + q)) (x := to' % 64) (K1.len _) (by omega)
    obtain ⟨S3, e3, K3, R3, g3, _, _, f3⟩ := piece_ok (e := 1) (a := to' % 64) (p := List.replicate (64 - to' % 64) 0) K1 R2 hN hi (by rw [List.length_replicate]; omega) (by omega) (.inr rfl)
    rw [upd_same, ← hq] at e3
    rw [← hsp] at e3
    rw [← hq] at hblk hlo
    have htw : D.2.tailW (setSizeB D.1 to') to' = (0, S3) := by unfold WalS.tailW; rw [hblk]; exact e3
    have ht0 : D.2.tailS (setSizeB D.1 to') to' = S3 := by unfold WalS.tailS; rw [if_neg h64, htw]
    rw [ht0]
    refine ⟨⟨h1, fun _ => ⟨by rw [hblk], by rw [hblk]; exact hlo.1, by rw [hblk, K1.size]; show 299 + q < N; omega, by rw [htw]⟩⟩, o1, K3, R3.congrX (fun n' i' j h2 h3 => ?_), hhdr, hsz, fun j hj => (g3 j hj).trans (L1.get j (by omega)), by omega⟩
    unfold cutX overX
    rw [List.length_replicate]
    by_cases e : n' = n
    · subst e
      rw [upd_same] at h2
      unfold cntN at h2
      by_cases h5 : to' ≤ 64 * i' + j
      · rw [if_pos ⟨rfl, h5⟩, if_pos ⟨rfl, by omega, by omega⟩, rep_getD]
      · rw [if_neg (fun h => h5 h.2), if_neg (fun h => by omega)]
    · rw [if_neg (fun h => e h.1), if_neg (fun h => e h.1)]
theorem xOf_cut {to' : Nat} (ha : A n = some a) (h : to' ≤ a.data.length) : xOf (upd A n (some { a with data := a.data.take to' })) = cutX (xOf A) n to' := by
  funext n' x
  unfold cutX
  by_cases e : n' = n
  · subst e
    rw [xOf_some (upd_same _ _ _) x, xOf_some ha x]
    show (a.data.take to').getD x 0 = _
    by_cases h2 : to' ≤ x
    · rw [if_pos ⟨rfl, h2⟩, List.getD_eq_getElem?_getD, List.getElem?_eq_none (by rw [List.length_take]; omega)]
      rfl
    · rw [if_neg (fun h => h2 h.2), List.getD_eq_getElem?_getD, List.getElem?_take_of_lt (by omega), ← List.getD_eq_getElem?_getD]
  · rw [if_neg (fun h => e h.1)]
    unfold xOf
    rw [upd_other _ e]
theorem BaseP.size_ok (B : BaseP S N g cc m A) (ha : A n = some a) : nSize (S.nodeB n) = a.data.length ∧ a.data.length ≤ 64 * a.room ∧ a.room ≤ 256 := by
  have hd := B.node n a ha
  have h1 := hd.ok.size
  have h2 := hd.ok.room
  rw [hd.size, hd.room] at h1
  rw [hd.room] at h2
  exact ⟨hd.size, h1, h2⟩
theorem BaseP.cut {to' : Nat} (B : BaseP S N g cc m A) (ha : A n = some a) (ht : to' ≤ a.data.length) (hm : m + 5 ≤ 111) :
    S.ShrinkOk (S.nodeB n) to' ∧ ∃ S', (S.shrinkS (S.nodeB n) to').save n (S.shrinkB (S.nodeB n) to') = (0, S') ∧ BaseP S' N g cc (m + 5) (upd A n (some { a with data := a.data.take to' })) := by
  obtain ⟨o, R⟩ := B.rdy
  obtain ⟨z1, z2, z3⟩ := B.size_ok ha
  obtain ⟨h1, o1, K1, R1, hh, hsz, low, hf⟩ := shrink_ok (n := n) (to' := to') B.kb R (by omega) B.big (by rw [cOf_some ha, z1]) (by omega) (by omega)
  have hlen : (S.shrinkB (S.nodeB n) to').length = (S.nodeB n).length := by
    have := R1.len n
    rw [upd_same] at this
    rw [this, nodeB_len B.kb]
  have htk : (a.data.take to').length = to' := by rw [List.length_take]; omega
  have hd : NodeSays (S.shrinkB (S.nodeB n) to') { a with data := a.data.take to' } := (B.node n a ha).sized hlen hh (by rw [hsz, htk]) (by rw [htk]; omega)
  refine ⟨h1, ?_⟩
  have h6 : ({ a with data := a.data.take to' } : NodeA).data.length = to' := htk
  obtain ⟨S3, e3, B3⟩ := B.saved (d := { a with data := a.data.take to' }) (o1 := o1) ha K1 (by rw [cOf_upd, h6, xOf_cut ha ht]; exact R1) low hd (by rw [h6]; exact hf) (by omega)
  exact ⟨S3, e3, B3⟩
theorem Ready.onLess {on' : Nat → Bool} (R : Ready S N on nb c o X) (h : ∀ n, on' n = true → on n = true) : Ready S N on' nb c o X :=
  ⟨R.lay, R.bits, R.dat, R.len, fun n hn => R.zer n (h n hn)⟩
theorem BaseP.free_ok (B : BaseP S N g cc m A) (ha : A n = some a) (hm : m + 1 ≤ 111) :
    S.ShrinkOk (S.nodeB n) 0 ∧ ∃ S', (S.shrinkS (S.nodeB n) 0).giveI 0 64 ((n : Int) - 1) = (0, S') ∧ BaseP S' N g cc (m + 1) (upd A n none) := by
  obtain ⟨o, R⟩ := B.rdy
  obtain ⟨z1, z2, z3⟩ := B.size_ok ha
  have hn := B.dom n (by rw [ha]; rfl)
  have hN := B.big
  have hN2 := B.kb.kp.n_le
  obtain ⟨h1, o1, K1, R1, _, _, low, hf⟩ := shrink_ok (n := n) (to' := 0) B.kb R (by omega) B.big (by rw [cOf_some ha, z1]) (by omega) (by omega)
  obtain ⟨S2, hS2⟩ : ∃ S2, S2 = S.shrinkS (S.nodeB n) 0 := ⟨_, rfl⟩
  rw [← hS2] at K1 R1 low hf ⊢
  have hbit : ∀ k, k < 64 → S2.bit 0 k = S.bit 0 k := fun k hk => by unfold WalS.bit; rw [low _ (by omega)]
  obtain ⟨S3, e3, b3⟩ := K1.giveI (by omega) (a := 0) (n := 64) (i := n - 1) (by omega) (by omega) (by omega) (by rw [hbit _ (by omega), B.bit n hn.1 hn.2, ha]; rfl)
  have hg3 : ∀ j, j ≠ 0 → S3.get j = S2.get j := fun j hj => b3.get j (by omega)
  have hc0 : cntN 0 = 0 := rfl
  have hw0 : withN 0 = 0 := rfl
  rw [hc0] at R1 hf
  rw [hw0] at hf
  have hnode : ∀ n', 1 ≤ n' → n' ≤ 64 → S3.nodeB n' = S.nodeB n' := fun n' h2 h3 => nodeB_same fun j h4 h5 => by rw [hg3 j (by omega), low j (by omega)]
  refine ⟨h1, S3, by rw [show (n : Int) - 1 = ((n - 1 : Nat) : Int) by omega]; exact e3, b3.kb, hN, fun n' h2 h3 => ?_, fun n' h => ?_, ⟨o1, ?_⟩, fun n' a' h => ?_, ?_⟩
  · rw [b3.bit]
    by_cases e : n' = n
    · subst e; rw [if_pos rfl, upd_same]; rfl
    · rw [if_neg (by omega), upd_other _ e, hbit _ (by omega)]; exact B.bit n' h2 h3
  · by_cases e : n' = n
    · subst e; exact hn
    · rw [upd_other _ e] at h; exact B.dom n' h
  · have hon : ∀ n', onOf (upd A n none) n' = true → n' ≠ n ∧ onOf A n' = true := fun n' h => by
      unfold onOf at h ⊢
      by_cases e : n' = n
      · subst e; rw [upd_same] at h; cases h
      · rw [upd_other _ e] at h; exact ⟨e, h⟩
    have R3 := (R1.low (S' := S3) hN2 (fun j hj => hg3 j (by omega))).onLess (on' := onOf (upd A n none)) (fun n' h => (hon n' h).2)
    have R4 := R3.swap (nb' := S3.nodeB) (fun n' h => by
      obtain ⟨h2, h3⟩ := hon n' h
      have := B.dom n' h3
      rw [upd_other _ h2, hnode n' this.1 this.2]) (fun n' h => by
      by_cases e : n' = n
      · subst e; rw [upd_same]
      · rw [upd_other _ e]
        refine off_cOf n' ?_
        unfold onOf at h ⊢
        rwa [upd_other _ e] at h) (fun n' => nodeB_len b3.kb n')
    rw [cOf_del]
    refine R4.congrX fun n' i' j h2 h3 => ?_
    by_cases e : n' = n
    · subst e; rw [upd_same] at h2; omega
    · unfold cutX
      rw [if_neg (fun h => e h.1)]
      unfold xOf
      rw [upd_other _ e]
  · by_cases e : n' = n
    · subst e; rw [upd_same] at h; cases h
    · rw [upd_other _ e] at h
      have := B.dom n' (by rw [h]; rfl)
      rw [hnode n' this.1 this.2]
      exact B.node n' a' h
  · have h2 := B.free
    have h3 := freeB_low K1 b3.kb (fun j h4 h5 => hg3 j (by omega))
    have h4 : allOf (upd A n none) + withN (cOf A n) = allOf A + 0 := by
      unfold allOf
      have := sumF_upd (fun n => withN (cOf A n)) (k := n) (m := 65) (by omega) 0
      have e : (fun n_1 => withN (cOf (upd A n none) n_1)) = upd (fun n => withN (cOf A n)) n 0 := by
        funext j
        rw [cOf_del]
        by_cases e : j = n
        · subst e; rw [upd_same, upd_same]; rfl
        · rw [upd_other _ e, upd_other _ e]
      rw [e]
      exact this
    omega
end
end Go.Lz
/-
  A base under small folders, plain: a new one, Make, Cut.
-/
namespace Go.Lz
open Go.RowKit Go.Proofs.YtjngphffgdjcfaaGreatDoor
section
variable {S S' : WalS} {N cc m n : Nat} {g : Nat → Bytes} {A : Nodes} {a : NodeA} {p : Bytes}
theorem BaseZ.new {M : Nat} (h1 : 700 ≤ M) (h2 : M ≤ 8192) : BaseZ (newS M) (M - 300) (fun _ => zero64) 0 (fun _ => none) := by
  have hlo : ∀ j, Has (newS M) j → Zs j := fun j h => by
    have hn := (Kp.new (n := M) (by omega) h2).2
    unfold Has at h
    rw [hn] at h
    cases h
  have h0 : allOf (fun _ => none) = 0 := sumF_zero fun k _ => by rw [cOf_none rfl]; rfl
  refine ⟨(BaseP.new h1 h2).few_ hlo, hlo, fun n a h => ?_, fun n x h => ?_, ?_⟩
  · simp at h
  · rw [cOf_none rfl] at h
    exact absurd h (Nat.not_lt_zero _)
  · rw [h0]
    omega
theorem get_write {k j : Nat} {b : Bytes} (h : j ≠ k) : (S.write (k : Int) b).2.get j = S.get j := by
  unfold WalS.write
  split
  · rfl
  split
  · rfl
  split
  · rfl
  · rw [Int.toNat_natCast]
    show ({ S with now := upd S.now k (some b) } : WalS).get j = _
    rw [get_upd, if_neg h]
theorem get_takeI0 {j : Nat} (h : j ≠ 0) : (S.takeI 0 64).2.2.get j = S.get j := by
  rcases least_free (S.bit 0) 64 with h1 | ⟨i, hi, h0, h1⟩
  · rw [WalS.takeI_none h1]
  · rw [WalS.takeI_some hi h0 h1]
    split <;> exact get_write (by omega)
theorem saveF_get (n : Nat) (b : Bytes) : ∀ (d : Nat) (S : WalS) (j : Nat), d ≤ 4 → (j < 16 + 4 * (n - 1) ∨ 16 + 4 * (n - 1) + 4 ≤ j) → (WalS.saveF n b d S).2.get j = S.get j := by
  intro d
  induction d with
  | zero => intro S j _ _; rfl
  | succ d ih =>
    intro S j hd hj
    have hP : (S.saveP n b (3 - d)).2.get j = S.get j := by
      unfold WalS.saveP
      split
      · rfl
      · exact get_write (by omega)
    unfold WalS.saveF WalS.okS
    split
    · rw [ih _ j (by omega) hj, hP]
    · exact hP
theorem BaseZ.make {kind room : Nat} {s l : List Int} (Z : BaseZ S N g cc A) (hs : isSetB s = true) (hl : isSetB l = true) (hk : kind = 1 ∨ kind = 2) (hr : room ≤ 256) (h1 : 1 ≤ n) (h2 : n ≤ 2) (h3 : A n = none) (h4 : ∀ n', 1 ≤ n' → n' < n → (A n').isSome = true) :
    ∃ S', S.makeN (kind : Int) s l (room : Int) = (0, n, S') ∧ BaseZ S' N g cc (upd A n (some ⟨kind, s, l, room, []⟩)) := by
  have B := Z.base
  rcases B.make hs hl hk hr (by omega) with ⟨hall, _⟩ | ⟨n', S', k1, k2, k3, k4, e, B'⟩
  · have := hall n h1 (by omega)
    rw [h3] at this
    cases this
  · obtain rfl : n' = n := by
      rcases Nat.lt_trichotomy n' n with hlt | rfl | hlt
      · have := h4 n' k1 hlt; rw [k3] at this; cases this
      · rfl
      · have := k4 n h1 hlt; rw [h3] at this; cases this
    refine ⟨S', e, ?_⟩
    have hfr : (∀ j, Has S' j → Has S j ∨ j < 24) ∧ ∀ j, j ≠ 0 → (j < 16 + 4 * (n' - 1) ∨ 16 + 4 * (n' - 1) + 4 ≤ j) → S'.get j = S.get j := by
      unfold WalS.makeN at e
      split at e
      · injection e with e _; cases e
      · split at e
        · injection e with _ e
          injection e with en eS
          subst eS
          rw [en]
          refine ⟨fun j hj => ?_, fun j hj0 hj => ?_⟩
          · rcases save_has _ _ _ _ hj with hj | hj
            · exact (has_takeI hj).imp id fun ⟨i, hi, e⟩ => by omega
            · exact .inr (by omega)
          · rw [show (S.takeI 0 64).2.2.save n' _ = WalS.saveF n' _ 4 _ from rfl, saveF_get n' _ 4 _ j (Nat.le_refl _) hj, get_takeI0 hj0]
        · rename_i h5
          injection e with e _
          exact absurd e h5
    have hlo : ∀ j, Has S' j → Zs j := fun j hj => (hfr.1 j hj).elim (Z.lo j) .inl
    have hc : cOf (upd A n' (some ⟨kind, s, l, room, []⟩)) = cOf A := by
      rw [cOf_upd]
      have h0 : cntN (NodeA.data ⟨kind, s, l, room, []⟩).length = cOf A n' := by rw [cOf_none h3]; show cntN 0 = 0; decide
      rw [h0, upd_self]
    refine ⟨B'.few_ hlo, hlo, fun n1 a1 ha1 => ?_, fun n1 x hx => ?_, ?_⟩
    · by_cases e1 : n1 = n'
      · subst e1
        rw [upd_same] at ha1
        cases ha1
        exact ⟨h2, Nat.zero_le _⟩
      · rw [upd_other _ e1] at ha1
        exact Z.small n1 a1 ha1
    · rw [hc] at hx
      have hsome : (A n1).isSome = true := by
        cases e6 : A n1 with
        | none => rw [cOf_none e6] at hx; exact absurd hx (Nat.not_lt_zero _)
        | some a' => rfl
      have hd' := B.dom n1 hsome
      have hne : n1 ≠ n' := fun e => by rw [e, h3] at hsome; cases hsome
      have e7 : S'.nodeB n1 = S.nodeB n1 := nodeB_same fun j h5 h6 => hfr.2 j (by omega) (by omega)
      rw [e7]
      exact Z.blk n1 x hx
    · have := allOf_set (A := A) (a := ⟨kind, s, l, room, []⟩) (show n' < 65 by omega)
      rw [cOf_none h3] at this
      have h0 : withN (cntN (NodeA.data ⟨kind, s, l, room, []⟩).length) = 0 := by show withN (cntN 0) = 0; decide
      have h00 : withN 0 = 0 := by decide
      rw [h0, h00] at this
      have := Z.few
      omega
theorem dropF_low (t : Nat) : ∀ (d : Nat) (b : Bytes) (S : WalS), S.allB ≤ 7600 → b.length = 256 → t + d ≤ 32 → (∀ j, Has (WalS.dropF d t b S).2 j → Has S j ∨ j < 16) ∧ ∀ x, x < t → ent (WalS.dropF d t b S).1 x = ent b x := by
  intro d
  induction d with
  | zero => intro b S _ _ _; exact ⟨fun j h => .inl h, fun x _ => rfl⟩
  | succ d ih =>
    intro b S hall hb htd
    have hpl : placeL (t + d) = 0 := by unfold placeL; rw [if_pos (by omega)]
    have hpa : placeA (t + d) = 140 + 2 * (t + d) := by unfold placeA; rw [if_pos (by omega)]
    have e1 : S.dropB b (t + d) = (put2B b (140 + 2 * (t + d)) 0, (S.give1 b (t + d)).2) := by
      unfold WalS.dropB
      rw [if_pos hpl, hpa]
    have hg : ∀ j, Has (S.give1 b (t + d)).2 j → Has S j ∨ j < 16 := fun j hj => by
      unfold WalS.give1 at hj
      exact (has_giveI hj).imp id fun ⟨i, hi, e⟩ => by omega
    have hall' : (S.give1 b (t + d)).2.allB ≤ 7600 := by
      have : (S.give1 b (t + d)).2.allB = S.allB := by
        obtain ⟨now, e⟩ := Txn.giveI S 1 S.allB (((S.block b (t + d)).2 : Int) - 1)
        unfold WalS.give1
        rw [e]
        rfl
      rw [this]
      exact hall
    unfold WalS.dropF
    rw [e1]
    obtain ⟨h1, h2⟩ := ih (put2B b (140 + 2 * (t + d)) 0) (S.give1 b (t + d)).2 hall' (by rw [put2B_length, hb]) (by omega)
    refine ⟨fun j hj => ?_, fun x hx => ?_⟩
    · rcases h1 j hj with hj | hj
      · exact hg j hj
      · exact .inr hj
    · rw [h2 x hx]
      have := ent_put hb (j := t + d) (x := x) (by omega) (k := 0) (by omega)
      rw [if_neg (by omega)] at this
      exact this
theorem BaseZ.cut {to' : Nat} (Z : BaseZ S N g cc A) (ha : A n = some a) (ht : to' ≤ a.data.length) :
    S.ShrinkOk (S.nodeB n) to' ∧ ∃ S', (S.shrinkS (S.nodeB n) to').save n (S.shrinkB (S.nodeB n) to') = (0, S') ∧ BaseZ S' N g cc (upd A n (some { a with data := a.data.take to' })) := by
  have B := Z.base
  obtain ⟨hok, S3, e3, B3⟩ := B.cut ha ht (by omega)
  obtain ⟨o, R⟩ := B.rdy
  obtain ⟨z1, z2, z3⟩ := B.size_ok ha
  have hsm := Z.small n a ha
  have hca := cOf_some ha
  have hdom := B.dom n (by rw [ha]; rfl)
  have hN2 := B.kb.kp.n_le
  obtain ⟨_, o1, K1, R1, _, _, low, _⟩ := shrink_ok (n := n) (to' := to') B.kb R (by omega) B.big (by rw [hca, z1]) (by omega) (by omega)
  have htk : (a.data.take to').length = to' := by rw [List.length_take]; omega
  have hall : S.allB ≤ 7600 := by unfold WalS.allB; rw [B.kb.size]; omega
  have hle : cntN to' ≤ cntN a.data.length := by unfold cntN; omega
  have hc32 : cntN a.data.length ≤ 32 := by unfold cntN; omega
  obtain ⟨d1, d2⟩ := dropF_low (cntN to') (cntN a.data.length - cntN to') (S.nodeB n) S hall (nodeB_len B.kb n) (by omega)
  have hD : S.shrinkD (S.nodeB n) to' = WalS.dropF (cntN a.data.length - cntN to') (cntN to') (S.nodeB n) S := by unfold WalS.shrinkD; rw [z1]
  have hent : ∀ x, x < cntN to' → ent (S.shrinkB (S.nodeB n) to') x = ent (S.nodeB n) x := fun x hx => by
    unfold WalS.shrinkB
    rw [ent_setSize, hD]
    exact d2 x hx
  have hlo1 : ∀ j, Has (S.shrinkS (S.nodeB n) to') j → Zs j := fun j hj => by
    have hdl : ∀ j, Has (S.shrinkD (S.nodeB n) to').2 j → Zs j := fun j hj => by
      rw [hD] at hj
      rcases d1 j hj with h | h
      · exact Z.lo j h
      · exact .inl (by omega)
    unfold WalS.shrinkS WalS.tailS at hj
    split at hj
    · exact hdl j hj
    · rename_i hm
      unfold WalS.tailW at hj
      have hx : to' / 64 < cntN to' := by unfold cntN; omega
      rw [block_low _ _ (show to' / 64 < 32 by omega)] at hj
      rcases has_write hj with hj | hj
      · exact hdl j hj
      · have h5 := hent (to' / 64) hx
        have h6 := Z.blk n (to' / 64) (by rw [hca]; omega)
        have h7 := R.ent_lo (n := n) (x := to' / 64) (by rw [hca]; omega) (by omega)
        have hj : j = 299 + ent (S.shrinkB (S.nodeB n) to') (to' / 64) := hj
        unfold Zs
        omega
  have hlo : ∀ j, Has S3 j → Zs j := fun j hj => by
    rcases save_has n _ _ j (by rw [e3]; exact hj) with h | h
    · exact hlo1 j h
    · unfold Zs; omega
  have hcA : cOf (upd A n (some { a with data := a.data.take to' })) = upd (cOf A) n (cntN to') := by
    rw [cOf_upd]
    show upd (cOf A) n (cntN (a.data.take to').length) = _
    rw [htk]
  have hb1 : (S.shrinkB (S.nodeB n) to').length = 256 := by
    have := R1.len n
    rwa [upd_same] at this
  refine ⟨hok, S3, e3, B3.few_ hlo, hlo, fun n1 a1 ha1 => ?_, fun n1 x hx => ?_, ?_⟩
  · by_cases e1 : n1 = n
    · subst e1
      rw [upd_same] at ha1
      cases ha1
      exact ⟨hsm.1, by show (a.data.take to').length ≤ 2048; omega⟩
    · rw [upd_other _ e1] at ha1
      exact Z.small n1 a1 ha1
  · obtain ⟨S4, e4, _, n4, g4⟩ := save_ok K1 B.big (by omega) hdom hb1
    have e34 : S4 = S3 := by
      have e5 := e4.symm.trans e3
      injection e5
    subst e34
    rw [hcA] at hx
    by_cases e : n1 = n
    · subst e
      rw [upd_same] at hx
      rw [n4, hent x hx]
      exact Z.blk n1 x (by rw [hca]; omega)
    · rw [upd_other _ e] at hx
      have hsome : (A n1).isSome = true := by
        cases e6 : A n1 with
        | none => rw [cOf_none e6] at hx; exact absurd hx (Nat.not_lt_zero _)
        | some a' => rfl
      have hd' := B.dom n1 hsome
      have e7 : S4.nodeB n1 = S.nodeB n1 := nodeB_same fun j h4 h5 => by
        rw [g4 j (by omega), low j (.inr (by omega))]
      rw [e7]
      exact Z.blk n1 x hx
  · have h1 := allOf_set (A := A) (a := { a with data := a.data.take to' }) (show n < 65 by omega)
    have h2 : cntN (NodeA.data { a with data := a.data.take to' }).length = cntN to' := by show cntN (a.data.take to').length = _; rw [htk]
    rw [h2, hca, withN_small hc32, withN_small (by omega)] at h1
    have := Z.few
    omega
end
end Go.Lz
/-
  A base's calls: a node shrinks.
-/
namespace Go.Proofs.YtjngphffgdjcfaaGreatDoor
open Go.RowKit Go.Lz
theorem setCells_rep {g : Nat} {t : TypeId} {fr : Nat × Nat} (z : Value) : ∀ (n o : Nat) (w : World) (cur : Array Value), w.heap[g]? = some (.cells cur t fr) → o + n ≤ cur.size →
    Chg (· = g) w (w.setCells g o (List.replicate n z)) ∧ ∃ cur', (w.setCells g o (List.replicate n z)).heap[g]? = some (.cells cur' t fr) ∧ cur'.size = cur.size ∧ ∀ j, cur'[j]? = if o ≤ j ∧ j < o + n then some z else cur[j]?
  | 0, o, w, cur, h, _ => ⟨Chg.refl _ _, cur, h, rfl, fun j => by rw [if_neg (by omega)]⟩
  | n + 1, o, w, cur, h, hs => by
    have h1 := heap_set_same h o z
    obtain ⟨c1, cur', h2, h3, h4⟩ := setCells_rep z n (o + 1) (w.setCell ⟨g, o, none⟩ z) _ h1 (by simp; omega)
    refine ⟨((Chg.refl _ w).own o z).trans c1 (fun _ _ h => h), cur', h2, by rw [h3]; simp, fun j => ?_⟩
    rw [h4]
    by_cases e1 : o + 1 ≤ j ∧ j < o + 1 + n
    · rw [if_pos e1, if_pos (by omega)]
    · rw [if_neg e1]
      by_cases e2 : j = o
      · subst e2
        rw [if_pos (by omega), Array.getElem?_setIfInBounds_self_of_lt (by omega)]
      · rw [if_neg (by omega)]
        simp [Ne.symm e2]
theorem Dat_cleared {w : World} {g m cap : Nat} {q : Bytes} (h : Dat 5 w (· = g) (.slice (some ⟨g, 0, none⟩) m cap) q) {a : Nat} (ha : a < q.length) :
    (∀ ty, (Builtin.clear_ #[23] ty #[.slice (some ⟨g, a, none⟩) (m - a) (cap - a)]).run Tryz.prog w = .ok (.tuple #[]) (w.setCells g a (List.replicate (m - a) (u8v 0)))) ∧
    Chg (· = g) w (w.setCells g a (List.replicate (m - a) (u8v 0))) ∧ Dat 5 (w.setCells g a (List.replicate (m - a) (u8v 0))) (· = g) (.slice (some ⟨g, 0, none⟩) m cap) (WalS.clearB q a) := by
  obtain ⟨g', cap', cur, h1, h2, h3, h4, h5, h6, h7⟩ := h
  injection h1 with h1 h8 h9
  injection h1 with h1
  injection h1 with h1
  subst h1 h8 h9
  obtain ⟨c1, cur', k1, k2, k3⟩ := setCells_rep (u8v 0) (q.length - a) a w cur h3 (by omega)
  have hcl := WalS.clearB_length (q := q) (a := a) (by omega)
  refine ⟨fun ty => ?_, c1, g, cap, cur', by rw [hcl], rfl, k1, by rw [hcl]; exact h4, h5, by rw [k2]; exact h6, ?_⟩
  · refine Lib.run_clear_slice w 23 5 ty (u8v 0) Tryz.underlying23 (fun w => by kernel_rfl) rfl rfl g a (q.length - a) (cap - a) (by omega) (fun j hj => ?_) (fun j _ => frozen_of h3 _)
    rw [cell_of h3]
    have : a + j < cur.size := by omega
    simp [this]
  · rw [hcl]
    refine List.ext_getElem? fun j => ?_
    have e7 := congrArg (fun l => l[j]?) h7
    have hcd := WalS.clearB_getD (q := q) (a := a) (by omega) j
    by_cases hj : j < q.length
    · rw [List.getElem?_take_of_lt hj] at e7 ⊢
      rw [Array.getElem?_toList, k3]
      rw [Array.getElem?_toList] at e7
      rw [List.getElem?_map, List.getElem?_eq_getElem (by omega)]
      rw [List.getD_eq_getElem?_getD, List.getElem?_eq_getElem (by omega)] at hcd
      simp only [Option.getD_some] at hcd
      by_cases hja : j < a
      · rw [if_neg (by omega), e7, List.getElem?_map, List.getElem?_eq_getElem hj]
        rw [if_pos hja, List.getD_eq_getElem?_getD, List.getElem?_eq_getElem hj] at hcd
        rw [hcd]
        rfl
      · rw [if_pos (by omega)]
        rw [if_neg hja] at hcd
        rw [hcd]
        rfl
    · rw [List.getElem?_eq_none (by rw [List.length_take]; omega), List.getElem?_eq_none (by rw [List.length_map, hcl]; omega)]
section
variable {w w0 : World} {pb p q pn pk px gb cap n : Nat} {S : WalS} {Fs : Nat → Prop} {b : Bytes}
theorem NSt.giveC (h : NSt w0 w pb p q pn pk px gb cap n S b Fs) (i : Int) : Calls Tryz.prog 108 #[Dptr pk, .int .i64 i] w fun e w' => e = .returned (.int .i64 (S.giveI 1 S.allB i).1) ∧ NSt w0 w' pb p q pn pk px gb cap n (S.giveI 1 S.allB i).2 b Fs := by
  have hl := h.live
  have hall : S.allB = S.size - 300 := rfl
  refine h.base (v := .int .i64 (S.giveI 1 S.allB i).1) (fun _ hB _ _ => ?_) (fun _ h' => ⟨rfl, h'⟩)
  exact (cgive hB.mK hB.nk hB.sto hB.live (by omega) (by unfold sectorsOf; omega) i).mono fun _ _ hd => hB.did (Txn.giveI S 1 S.allB i) hd
theorem NSt.blockC (h : NSt w0 w pb p q pn pk px gb cap n S b Fs) {i : Nat} (hi : i < 864) : Calls Tryz.prog 48 #[Dptr pb, Dptr px, .int .i64 (i : Int)] w fun e w' => e = .returned (.tuple #[.int .i64 ((S.block b i).2 : Int), .int .i64 (S.block b i).1]) ∧ NSt w0 w' pb p q pn pk px gb cap n S b Fs :=
  h.base (fun _ hB _ _ => block_any hB h.node hi) (fun _ h' => ⟨rfl, h'⟩)
theorem NSt.twoC (h : NSt w0 w pb p q pn pk px gb cap n S b Fs) {k : Nat} (hk : k ≤ 254) : Calls Tryz.prog 47 #[.slice (some ⟨gb, k, none⟩) (256 - k) (cap - k)] w fun e w' => e = .returned (.int .i64 (twoN b k : Int)) ∧ NSt w0 w' pb p q pn pk px gb cap n S b Fs :=
  (ntwo h.node hk).mono fun _ _ ⟨he, hb⟩ => ⟨he, h.below hb⟩
theorem NSt.putC (h : NSt w0 w pb p q pn pk px gb cap n S b Fs) {k : Nat} (hk : k ≤ 254) (x : Int) : Calls Tryz.prog 24 #[.slice (some ⟨gb, k, none⟩) (256 - k) (cap - k), .int .i64 x] w fun e w' => e = .returned (.tuple #[]) ∧ NSt w0 w' pb p q pn pk px gb cap n S (put2B b k x) Fs :=
  h.nodeC (fun hx => nput2 hx hk x) (fun _ h' => ⟨rfl, h'⟩)
set_option maxHeartbeats 4000000 in
set_option maxRecDepth 100000 in
theorem shrink_any (h : BaseIn w pb p q pn pk S Fs) (hx : NodeAt w px gb cap n b) (hpx : ¬ Fs px) (hgb : ¬ Fs gb) {m : Nat} (hm : m ≤ nSize b) (hs : nSize b ≤ 55296) (hok : S.ShrinkOk b m) :
    Calls Tryz.prog 93 #[Dptr pb, Dptr px, .int .i64 (m : Int)] w (NBDid w pb p q pn pk px gb cap n (S.shrinkS b m) (S.shrinkB b m) Fs (.int .i64 0)) := by
  obtain ⟨hD, hT⟩ := hok
  have hN0 := h.nst hx hpx hgb
  have hle : cntN m ≤ cntN (nSize b) := by unfold cntN; omega
  have hF8 := cntN_le hs
  have cS := hN0.szN
  have cSz := fun w' => count_any_ w' (n := nSize b) (by omega)
  have cMz := fun w' => count_any_ w' (n := m) (by omega)
  obtain ⟨F, hF⟩ : ∃ F, F = cntN (nSize b) := ⟨_, rfl⟩
  obtain ⟨M, hM⟩ : ∃ M, M = cntN m := ⟨_, rfl⟩
  have hDr : S.shrinkD b m = WalS.dropF (F - M) M b S := by unfold WalS.shrinkD; rw [← hF, ← hM]
  rw [← hF] at cSz
  rw [← hM] at cMz
  rw [← hF, ← hM] at hD hle
  rw [← hF] at hF8
  have hTH : Hid _ := Lib.hid hT
  have hDrH : Hid _ := Lib.hid hDr
  have hDH : Hid _ := Lib.hid hD
  have hMH : Hid _ := Lib.hid hM
  have hN0H : Hid _ := Lib.hid hN0
  clear hT hDr hD hF hM hN0
  go_enter Tryz.func93, Tryz.ntmps93
  go_wp2_with (first
    | (go_at_call 28; refine cS.mono ?_; rintro e w1 ⟨rfl, hN1⟩)
    | (go_at_call 45; refine (cSz _).mono ?_; rintro e w2 ⟨rfl, rfl⟩))
  go_loopg [7, 6, 8, 9, 10, 11, 12, 20, 21, 22, 23, 24, 25, 26, 27, 28, 29, 30, 31, 32, 33, 34, 35, 36, 37, 38, 39, 40, 41, 42, 43, 44, 45, 46, 47, 48, 49, 50, 51, 52, 53, 54, 55, 56, 57, 58, 59, 60, 61, 62, 63, 64, 65, 66, 67, 68, 69, 70, 71, 72, 73, 74, 75, 76, 77, 78, 79, 80, 81, 82, 83, 84, 85] (F - M) (fun g iv _ _ _ _ _ _ _ _ _ _ _ _ _ _ _ _ _ _ _ _ _ _ _ _ _ _ _ _ _ _ _ _ _ _ _ _ _ _ _ _ _ _ _ _ _ _ _ _ _ _ _ _ _ _ _ _ _ _ _ _ _ _ _ _ _ _ _ _ _ _ _ _ wr => ∃ (S1 : WalS) (b1 : Bytes), g ≤ F - M ∧ iv = .int .i64 (((M + g : Nat) : Int) - 1) ∧ NSt w wr pb p q pn pk px gb cap n S1 b1 Fs ∧ WalS.dropF g M b1 S1 = WalS.dropF (F - M) M b S ∧ WalS.DropsOk g M b1 S1)
  case atStart => exact ⟨S, b, Nat.le_refl _, by rw [show M + (F - M) = F by omega], hN1, rfl, hDH.out⟩
  case round =>
    obtain ⟨S1, b1, hg, rfl, hN, hdr, hok⟩ := hrel
    rename World => wr
    have hNH : Hid _ := Lib.hid hN
    have hdrH : Hid _ := Lib.hid hdr
    have hokH : Hid _ := Lib.hid hok
    clear hN hdr hok
    cases gk with
    | succ g =>
      have e1 : (((M + (g + 1) : Nat) : Int) - 1) = ((M + g : Nat) : Int) := by omega
      rw [e1]
      obtain ⟨I, hI⟩ : ∃ I, I = M + g := ⟨_, rfl⟩
      have hge : (M : Int) ≤ (I : Int) := by omega
      have hi8 : I < 864 := by omega
      obtain ⟨⟨q1, q2, q3⟩, hd2⟩ := hokH.out
      rw [← hI] at q1 q2 q3 hd2 ⊢
      obtain ⟨k, hk⟩ : ∃ k, S1.block b1 I = (0, k) := ⟨_, Prod.ext q1 rfl⟩
      have hkb : k < 65536 := by
        have := block_num S1 b1 I
        rw [hk] at this
        exact this
      have cB := hNH.out.blockC hi8
      rw [hk] at cB
      dsimp only at cB
      have hg1 : S1.give1 b1 I = S1.giveI 1 S1.allB ((k : Int) - 1) := by unfold WalS.give1; rw [hk]
      obtain ⟨S2, hS2⟩ : ∃ S2, S1.giveI 1 S1.allB ((k : Int) - 1) = (0, S2) := ⟨_, Prod.ext (by rw [← hg1]; exact q2) rfl⟩
      rw [hS2] at hg1
      have cG : ∀ W, NSt w W pb p q pn pk px gb cap n S1 b1 Fs → Calls Tryz.prog 108 #[Dptr pk, .int .i64 ((k : Int) - 1)] W fun e w' => e = .returned (.int .i64 0) ∧ NSt w w' pb p q pn pk px gb cap n S2 b1 Fs := fun W hW => by
        have := hW.giveC ((k : Int) - 1)
        rw [hS2] at this
        exact this
      have hall2 : S2.allB = S1.allB := by
        have := (Txn.giveI S1 1 S1.allB ((k : Int) - 1)).size
        rw [hS2] at this
        exact congrArg (· - 300) this
      have hdrop : WalS.dropF (g + 1) M b1 S1 = WalS.dropF g M (S1.dropB b1 I).1 (S1.dropB b1 I).2 := by rw [hI]; rfl
      have hdr2 := hdrH.out
      rw [hdrop] at hdr2
      have hdr2H : Hid _ := Lib.hid hdr2
      have hd2H : Hid _ := Lib.hid hd2
      have hS2H : Hid _ := Lib.hid hS2
      have hg1H : Hid _ := Lib.hid hg1
      have hall2H : Hid _ := Lib.hid hall2
      have q3H : Hid _ := Lib.hid q3
      have cP := fun W => place_any W (i := I) (by omega)
      have hIH : Hid _ := Lib.hid hI
      clear e1 hI q1 q2 q3 hk hd2 hdrop hdr2 hS2 hg1 hall2 hokH hdrH
      go_upto_region 9 with (first
        | (go_at_call 45; refine (cMz _).mono ?_; rintro e w2 ⟨rfl, rfl⟩)
        | (go_at_call 48; refine cB.mono ?_; rintro e w5 ⟨rfl, hN5⟩; have ck5 := hN5.cb.2.2.1)
        | (go_at_call 108; refine (cG _ hN5).mono ?_; rintro e w6 ⟨rfl, hN6⟩))
      have ck6 := hN6.cb.2.2.1
      have cx6 := hN6.cx.2
      have hcap := hN6.node.raw.1
      have hcapm := hN6.node.raw.2.1
      rcases (show I < 32 ∨ (32 ≤ I ∧ (I - 32) % 32 = 0) ∨ (32 ≤ I ∧ (I - 32) % 32 ≠ 0) by omega) with h32 | h32 | h32
      · obtain ⟨A, hA⟩ : ∃ A, A = placeA I := ⟨_, rfl⟩
        have p1 : placeL I = 0 := by unfold placeL; rw [if_pos h32]
        have hA8 : A ≤ 202 := by rw [hA]; exact placeA_le.1
        rw [p1, ← hA] at cP
        have hdb : S1.dropB b1 I = (put2B b1 A 0, S2) := by unfold WalS.dropB; rw [if_pos p1, ← hA, hg1H.out]
        have hdbH : Hid _ := Lib.hid hdb
        have hcn : ¬ cap = A := by omega
        have hA256 : A ≤ 256 := by omega
        have hAcap : A ≤ cap := by omega
        have cU := hN6.putC (k := A) (by omega) 0
        clear hA p1 hdb
        have hr1 := hdr2H.out
        have hr2 := hd2H.out
        rw [hdbH.out] at hr1 hr2
        have hr1H : Hid _ := Lib.hid hr1
        have hr2H : Hid _ := Lib.hid hr2
        clear hr1 hr2
        go_wp2_with (first
          | (go_at_call 46; refine (cP _).mono ?_; rintro e w7 ⟨rfl, rfl⟩)
          | (go_at_call 24; refine cU.mono ?_; rintro e w8 ⟨rfl, hN8⟩))
        go_roundg g
        case measure => omega
        case rel => exact ⟨S2, put2B b1 A 0, by omega, by rw [hIH.out], hN8, hr1H.out, hr2H.out⟩
      · obtain ⟨p1, p2⟩ := link_place (i := I) (by omega)
        obtain ⟨A, hA⟩ : ∃ A, A = placeL I := ⟨_, rfl⟩
        have hA1 : 204 ≤ A ∧ A ≤ 254 := by omega
        have p2' : placeA I = 0 := by omega
        rw [p2', ← hA] at cP
        have b1z : ((A : Int) == 0) = false := by rw [beq_eq_false_iff_ne]; omega
        obtain ⟨T, hT⟩ : ∃ T, T = twoN b1 A := ⟨_, rfl⟩
        have hT6 : T < 65536 := by rw [hT]; exact twoN_lt _ _
        have hq3 := q3H.out (by omega) p2'
        have hg2 : S1.give2 (S1.give1 b1 I).2 b1 I = S2.giveI 1 S2.allB ((T : Int) - 1) := by unfold WalS.give2; rw [hg1H.out, ← hall2H.out, ← hA, hT]
        rw [hg2] at hq3
        obtain ⟨S3, hS3⟩ : ∃ S3, S2.giveI 1 S2.allB ((T : Int) - 1) = (0, S3) := ⟨_, Prod.ext hq3 rfl⟩
        have hdb : S1.dropB b1 I = (put2B b1 A 0, S3) := by unfold WalS.dropB; rw [if_neg (by omega), if_pos p2', hg2, hS3, ← hA]
        have hr1 := hdr2H.out
        have hr2 := hd2H.out
        rw [hdb] at hr1 hr2
        have hr1H : Hid _ := Lib.hid hr1
        have hr2H : Hid _ := Lib.hid hr2
        have hcn : ¬ cap = A := by omega
        have hA256 : A ≤ 256 := by omega
        have hAcap : A ≤ cap := by omega
        have cG2 : ∀ W, NSt w W pb p q pn pk px gb cap n S2 b1 Fs → Calls Tryz.prog 108 #[Dptr pk, .int .i64 ((T : Int) - 1)] W fun e w' => e = .returned (.int .i64 0) ∧ NSt w w' pb p q pn pk px gb cap n S3 b1 Fs := fun W hW => by
          have := hW.giveC ((T : Int) - 1)
          rw [hS3] at this
          exact this
        have cT : ∀ W, NSt w W pb p q pn pk px gb cap n S2 b1 Fs → Calls Tryz.prog 47 #[.slice (some ⟨gb, A, none⟩) (256 - A) (cap - A)] W fun e w' => e = .returned (.int .i64 (T : Int)) ∧ NSt w w' pb p q pn pk px gb cap n S2 b1 Fs := fun W hW => by
          have := hW.twoC (k := A) (by omega)
          rw [← hT] at this
          exact this
        have hN6H : Hid _ := Lib.hid hN6
        have hN6d := hN6.below ((Below.refl _ w6).drew)
        have hd0 : w6.drew.cell? ⟨pb, 2, none⟩ = some (Dptr pk) ∧ w6.drew.cell? ⟨px, 1, none⟩ = some (.slice (some ⟨gb, 0, none⟩) 256 cap) := ⟨hN6d.cb.2.2.1, hN6d.cx.2⟩
        clear hr1 hr2 hdb hS3 hg2 hq3 hT p2' hA p1 p2 h32
        go_upto_region 13 with (go_at_call 46; refine (cP _).mono ?_; rintro e w7 ⟨rfl, rfl⟩)
        have hw1 : Hid (IntKind.i64.wrap ((T : Int) - 1) = (T : Int) - 1) := Lib.hid (by rw [IntKind.wrap_i64]; omega)
        go_region_held (fun W => W.cell? ⟨pb, 2, none⟩ = some (Dptr pk) ∧ W.cell? ⟨px, 1, none⟩ = some (.slice (some ⟨gb, 0, none⟩) 256 cap)) (first | exact hd0 | exact hd7 | exact hd8) (first
          | (go_at_call 47; refine (cT _ hN6d).mono ?_; rintro e w7 ⟨rfl, hN7⟩; have hd7 : w7.cell? ⟨pb, 2, none⟩ = some (Dptr pk) ∧ w7.cell? ⟨px, 1, none⟩ = some (.slice (some ⟨gb, 0, none⟩) 256 cap) := ⟨hN7.cb.2.2.1, hN7.cx.2⟩)
          | (go_at_call 108; rw [hw1.out]; refine (cG2 _ hN7).mono ?_; rintro e w8 ⟨rfl, hN8⟩; have hd8 : w8.cell? ⟨pb, 2, none⟩ = some (Dptr pk) ∧ w8.cell? ⟨px, 1, none⟩ = some (.slice (some ⟨gb, 0, none⟩) 256 cap) := ⟨hN8.cb.2.2.1, hN8.cx.2⟩))
        have cU := hN8.putC (k := A) (by omega) 0
        have cx8 := hN8.cx.2
        go_wp2_with (go_at_call 24; refine cU.mono ?_; rintro e w9 ⟨rfl, hN9⟩)
        go_roundg g
        case measure => omega
        case rel => exact ⟨S3, put2B b1 A 0, by omega, by rw [hIH.out], hN9, hr1H.out, hr2H.out⟩
      · have p2' : placeA I ≠ 0 := by
          have := (link_place (i := I) h32.1).2
          omega
        have p1' : placeL I ≠ 0 := by
          have := (link_place (i := I) h32.1).1
          omega
        have hdb : S1.dropB b1 I = (b1, S2) := by unfold WalS.dropB; rw [if_neg p1', if_neg p2', hg1H.out]
        have hr1 := hdr2H.out
        have hr2 := hd2H.out
        rw [hdb] at hr1 hr2
        have hr1H : Hid _ := Lib.hid hr1
        have hr2H : Hid _ := Lib.hid hr2
        obtain ⟨A, hA⟩ : ∃ A, A = placeL I := ⟨_, rfl⟩
        obtain ⟨B, hB⟩ : ∃ B, B = placeA I := ⟨_, rfl⟩
        rw [← hA] at p1'
        rw [← hB] at p2'
        rw [← hA, ← hB] at cP
        have b1z : ((A : Int) == 0) = false := by rw [beq_eq_false_iff_ne]; omega
        have b2z : ((B : Int) == 0) = false := by rw [beq_eq_false_iff_ne]; omega
        clear hr1 hr2 hdb hA hB p1' p2' h32
        go_wp2_with (go_at_call 46; refine (cP _).mono ?_; rintro e w7 ⟨rfl, rfl⟩)
        go_roundg g
        case measure => omega
        case rel => exact ⟨S2, b1, by omega, by rw [hIH.out], hN6, hr1H.out, hr2H.out⟩
    | zero =>
      have e0 : (((M + 0 : Nat) : Int) - 1) = (M : Int) - 1 := by omega
      rw [e0]
      have hge : ¬ (M : Int) ≤ (M : Int) - 1 := by omega
      have hdr : S.shrinkD b m = (b1, S1) := hDrH.out.trans hdrH.out.symm
      have hT := hTH.out
      have hSB : S.shrinkB b m = setSizeB b1 m := by unfold WalS.shrinkB; rw [hdr]
      have hSS : S.shrinkS b m = S1.tailS (setSizeB b1 m) m := by unfold WalS.shrinkS; rw [hdr, hSB]
      rw [hSB, hdr] at hT
      dsimp only at hT
      have hSBH : Hid _ := Lib.hid hSB
      have hSSH : Hid _ := Lib.hid hSS
      have hT2H : Hid _ := Lib.hid hT
      clear hdr hT hSB hSS e0
      have cS2 : Calls Tryz.prog 65 #[Dptr px, .int .i64 (m : Int)] wr fun e w' => e = .returned (.tuple #[]) ∧ NSt w w' pb p q pn pk px gb cap n S1 (setSizeB b1 m) Fs := hNH.out.nodeC (fun hx => setSize_any hx (m : Int)) (fun _ h' => ⟨rfl, h'⟩)
      go_upto_region 18 with (first
        | (go_at_call 45; refine (cMz _).mono ?_; rintro e w2 ⟨rfl, rfl⟩)
        | (go_at_call 65; refine cS2.mono ?_; rintro e w6 ⟨rfl, hN6⟩))
      by_cases h64 : m % 64 = 0
      · have hmz : ((m : Int) % 64 == 0) = true := by rw [beq_iff_eq]; omega
        go_wp2_with fail
        go_ret
        rw [hSSH.out, hSBH.out]
        unfold WalS.tailS
        rw [if_pos h64]
        exact ⟨rfl, hN6⟩
      · have hmz : ((m : Int) % 64 == 0) = false := by rw [beq_eq_false_iff_ne]; omega
        obtain ⟨t1, t2, t3, t4⟩ := hT2H.out h64
        obtain ⟨k, hk⟩ : ∃ k, S1.block (setSizeB b1 m) (m / 64) = (0, k) := ⟨_, Prod.ext t1 rfl⟩
        have hTW : S1.tailS (setSizeB b1 m) m = (S1.tailW (setSizeB b1 m) m).2 := by unfold WalS.tailS; rw [if_neg h64]
        unfold WalS.tailW at hTW t4
        rw [hk] at t2 t3 t4 hTW
        dsimp only at t2 t3 t4 hTW
        have hm864 : m / 64 < 864 := by omega
        have cB := hN6.blockC hm864
        rw [hk] at cB
        have e64 : ((m / 64 : Nat) : Int) = (m : Int) / 64 := by omega
        rw [e64] at cB
        dsimp only at cB
        have hlv := hN6.live
        have hk8 : k ≤ 8000 := by omega
        have hTWH : Hid _ := Lib.hid hTW
        have t4H : Hid _ := Lib.hid t4
        have t3H : Hid _ := Lib.hid t3
        have h64H : Hid _ := Lib.hid h64
        have e64H : Hid _ := Lib.hid e64
        clear t1 hk hTW t4 t3 h64 e64 hlv
        go_upto_region 26 with (first
          | (go_at_call 48; refine cB.mono ?_; rintro e w7 ⟨rfl, hN7⟩; have c07 := hN7.cb.1)
          | (go_at_call 32; refine (hN7.readC (i := 300 + (k : Int) - 1) (k := 299 + k) (by omega) t3H.out).mono ?_; rintro e w8 ⟨v, gv, rfl, hdat, hgg, hN8, hN8c⟩))
        obtain ⟨a, ha⟩ : ∃ a, a = m % 64 := ⟨_, rfl⟩
        have ea : (m : Int) % 64 = (a : Int) := by omega
        have ha64 : a < 64 := by omega
        have ha0 : a ≠ 0 := by have := h64H.out; omega
        have hql : (S1.get (299 + k)).length = 64 := by
          obtain ⟨F', hB', _⟩ := hN8.st
          exact hB'.sto.get_len _
        obtain ⟨g', cv, cur, hv1, hv2, hv3, hv4, hv5, hv6, hv7⟩ := hdat
        have hv2 : g' = gv := hv2
        subst hv2
        rw [hql] at hv1 hv4 hv7
        subst hv1
        have hdat : Dat 5 w8 (· = g') (.slice (some ⟨g', 0, none⟩) 64 cv) (S1.get (299 + k)) := ⟨g', cv, cur, by rw [hql], rfl, hv3, by rw [hql]; exact hv4, hv5, hv6, by rw [hql]; exact hv7⟩
        obtain ⟨hclr, hcc, hd9⟩ := Dat_cleared hdat (a := a) (by rw [hql]; exact ha64)
        have hN9 := hN8c _ hcc
        have c09 := hN9.cb.1
        have hcn : ¬ cv = a := by omega
        have ha64' : a ≤ 64 := by omega
        have hacv : a ≤ cv := by omega
        generalize w8.setCells g' a (List.replicate (64 - a) (u8v 0)) = W9 at *
        have cW := hN9.writeC hd9.src (300 + (k : Int) - 1)
        have haH : Hid _ := Lib.hid ha
        clear ha hdat hv3 hv7 hd9 hcc
        go_wp2_with (go_at_call 33; refine cW.mono ?_; rintro e w10 ⟨rfl, hN10⟩)
        go_ret
        have e9 : (300 + (k : Int) - 1) = ((299 + k : Nat) : Int) := by omega
        have ht4 := t4H.out
        have htw := hTWH.out
        rw [← haH.out, ← e9] at ht4 htw
        rw [hSSH.out, hSBH.out, htw, ht4]
        exact ⟨rfl, hN10⟩
end
end Go.Proofs.YtjngphffgdjcfaaGreatDoor
/-
  The map's calls, as a statement's function meets them: it owns the store; the map is a local block.
-/
namespace Go.Lz
open Go.RowKit
/-- A call works on the thing; local blocks are none of its. -/
theorem Own.stepL {w0 w : World} {T : World → (Nat → Prop) → Prop} {L : Locals} (h : Own w0 w T L) : ∃ F, T w F ∧ (∀ k, F k → w0.heap.size ≤ k ∧ k < w.heap.size) ∧ (∀ b o, L b = some o → ¬ F b ∧ w.heap[b]? = some o) ∧
    ∀ {w' : World} {T' : World → (Nat → Prop) → Prop}, T' w' (ext F w w') → Chg F w w' → Own w0 w' T' L := by
  obtain ⟨F, hT, hF, hb, hL⟩ := h
  refine ⟨F, hT, hF, fun b o e => (hL b o e).2, fun {w' T'} hT' hc => ⟨_, hT', fun k hk => ?_, hb.trans (hc.belowB hb.size (fun j hj h => by have := (hF j h).1; omega)), fun b o ho => ?_⟩⟩
  · have := hb.size
    rcases hk with hk | hk
    · exact ⟨(hF k hk).1, Nat.lt_of_lt_of_le (hF k hk).2 hc.size⟩
    · exact ⟨Nat.le_trans this hk.1, hk.2⟩
  · obtain ⟨h1, h2, h3⟩ := hL b o ho
    refine ⟨h1, fun h => h.elim h2 (fun h => ?_), (hc.block b (lt_of_heap h3) h2).trans h3⟩
    have := lt_of_heap h3
    omega
end Go.Lz
namespace Go.Proofs.YtjngphffgdjcfaaGreatDoor
open Go.RowKit Go.Lz
section
variable {w0 w : World} {p q pm : Nat} {S : WalS} {L : Locals} {N a n cc : Nat} {done is : Nat → Bool}

/-- A map's block. -/
def mapObj (p a n : Nat) : Obj := .cells #[Dptr p, .int .i64 (a : Int), .int .i64 (n : Int)] 117 (0, 0)

/-- The call hands back v; the map is such a one. -/
def ADid (w0 w : World) (p q : Nat) (L : Locals) (N a n cc : Nat) (done is : Nat → Bool) (v : Value) (e : Ending) (w' : World) : Prop :=
  ∃ S, e = .returned v ∧ Own w0 w' (TStore p q S) L ∧ AM S N a n cc done is ∧ w.heap.size ≤ w'.heap.size

theorem map5 (h : Own w0 w (TStore p q S) L) (hL : L pm = some (mapObj p a n)) : ∃ F, StoreAt Tryz.prog w p q S F ∧ MapO w pm p a n ∧ ¬ F pm ∧
    ∀ {w' : World} {S' : WalS}, StoreAt Tryz.prog w' p q S' (ext F w w') → Chg F w w' → Own w0 w' (TStore p q S') L := by
  obtain ⟨F, hS, hF, hl, hgo⟩ := h.stepL
  exact ⟨F, hS, (hl _ _ hL).2, (hl _ _ hL).1, fun hS' hc => hgo hS' hc⟩

theorem same5 {F : Nat → Prop} {v : Value} {e : Ending} {w' : World} (A : AM S N a n cc done is) (hgo : ∀ {w' : World} {S' : WalS}, StoreAt Tryz.prog w' p q S' (ext F w w') → Chg F w w' → Own w0 w' (TStore p q S') L) (h : Same w p q S F v e w') : ADid w0 w p q L N a n cc done is v e w' := by
  obtain ⟨j, h1, h2, h3⟩ := h
  exact ⟨_, h1, hgo h2 h3, A.cnt j, h3.size⟩

theorem take5_full (h : Own w0 w (TStore p q S) L) (hL : L pm = some (mapObj p a n)) (A : AM S N a n cc done is) (hall : ∀ i, i < n → is i = true) : Calls Tryz.prog 23 #[Dptr pm] w (ADid w0 w p q L N a n cc done is (.tuple #[.int .i64 0, .int .i64 60])) := by
  obtain ⟨F, hS, hM, hn, hgo⟩ := map5 h hL
  refine (take_ok hM hn hS A.isDead A.hn A.fits').mono ?_
  rintro e w' (⟨_, h2⟩ | ⟨i, hi, hb, _⟩)
  · exact same5 A hgo h2
  · rw [A.bit i (sectorsOf_lt hi), hall i hi] at hb
    cases hb

theorem take5_at (h : Own w0 w (TStore p q S) L) (hL : L pm = some (mapObj p a n)) (A : AM S N a n cc done is) {i : Nat} (hi : i < n) (h0 : is i = false) (h1 : ∀ k, k < i → is k = true) : Calls Tryz.prog 23 #[Dptr pm] w (ADid w0 w p q L N a n cc done (upd is i true) (.tuple #[.int .i64 (i : Int), .int .i64 0])) := by
  obtain ⟨F, hS, hM, hn, hgo⟩ := map5 h hL
  refine (take_ok hM hn hS A.isDead A.hn A.fits').mono ?_
  rintro e w' (⟨hall, _⟩ | ⟨k, hk, hb, hlow, j, he, h2, h3⟩)
  · have := hall i hi
    rw [A.bit i (sectorsOf_lt hi), h0] at this
    cases this
  · obtain rfl : k = i := by
      rcases Nat.lt_trichotomy k i with hlt | rfl | hlt
      · rw [A.bit k (sectorsOf_lt hk), h1 k hlt] at hb
        cases hb
      · rfl
      · have := hlow i hlt
        rw [A.bit i (sectorsOf_lt hi), h0] at this
        cases this
    obtain ⟨e0, A'⟩ := A.set hi true
    rw [if_pos e0] at he
    exact ⟨_, he, hgo h2 h3, A'.cnt j, h3.size⟩

theorem give5_out (h : Own w0 w (TStore p q S) L) (hL : L pm = some (mapObj p a n)) {i : Int} (hi : i < 0 ∨ (n : Int) ≤ i) : Calls Tryz.prog 108 #[Dptr pm, .int .i64 i] w fun e w' => e = .returned (.int .i64 1) ∧ w = w' := by
  obtain ⟨F, hS, hM, hn, hgo⟩ := map5 h hL
  exact give_out hM hi
theorem give5_free (h : Own w0 w (TStore p q S) L) (hL : L pm = some (mapObj p a n)) (A : AM S N a n cc done is) {i : Nat} (hi : i < n) (h0 : is i = false) : Calls Tryz.prog 108 #[Dptr pm, .int .i64 (i : Int)] w (ADid w0 w p q L N a n cc done is (.int .i64 1)) := by
  obtain ⟨F, hS, hM, hn, hgo⟩ := map5 h hL
  exact (give_free hM hS A.isDead (A.at_ hi) hi A.hn ((A.bit i (sectorsOf_lt hi)).trans h0)).mono fun e w' h2 => same5 A hgo h2
theorem give5_ok (h : Own w0 w (TStore p q S) L) (hL : L pm = some (mapObj p a n)) (A : AM S N a n cc done is) {i : Nat} (hi : i < n) (h0 : is i = true) : Calls Tryz.prog 108 #[Dptr pm, .int .i64 (i : Int)] w (ADid w0 w p q L N a n cc done (upd is i false) (.int .i64 0)) := by
  obtain ⟨F, hS, hM, hn, hgo⟩ := map5 h hL
  refine (give_ok hM hn hS A.isDead (A.at_ hi) hi A.hn ((A.bit i (sectorsOf_lt hi)).trans h0)).mono ?_
  rintro e w' ⟨j, h1, h2, h3⟩
  obtain ⟨e0, A'⟩ := A.set hi false
  rw [e0] at h1
  exact ⟨_, h1, hgo h2 h3, A'.cnt j, h3.size⟩
theorem taken5_out (h : Own w0 w (TStore p q S) L) (hL : L pm = some (mapObj p a n)) {i : Int} (hi : i < 0 ∨ (n : Int) ≤ i) : Calls Tryz.prog 49 #[Dptr pm, .int .i64 i] w fun e w' => e = .returned (.tuple #[.bool false, .int .i64 1]) ∧ w = w' := by
  obtain ⟨F, hS, hM, hn, hgo⟩ := map5 h hL
  exact taken_out hM hi
theorem taken5_ok (h : Own w0 w (TStore p q S) L) (hL : L pm = some (mapObj p a n)) (A : AM S N a n cc done is) {i : Nat} (hi : i < n) : Calls Tryz.prog 49 #[Dptr pm, .int .i64 (i : Int)] w (ADid w0 w p q L N a n cc done is (.tuple #[.bool (is i), .int .i64 0])) := by
  obtain ⟨F, hS, hM, hn, hgo⟩ := map5 h hL
  refine (taken_ok hM hS A.isDead (A.at_ hi) hi A.hn).mono ?_
  rintro e w' ⟨j, h1, h2, h3⟩
  rw [A.bit i (sectorsOf_lt hi)] at h1
  exact ⟨_, h1, hgo (wat_ext h2) h3, A.cnt j, h3.size⟩
theorem count5 (h : Own w0 w (TStore p q S) L) (hL : L pm = some (mapObj p a n)) (A : AM S N a n cc done is) : Calls Tryz.prog 89 #[Dptr pm] w (ADid w0 w p q L N a n cc done is (.tuple #[.int .i64 (cntI is n : Int), .int .i64 0])) := by
  obtain ⟨F, hS, hM, hn, hgo⟩ := map5 h hL
  refine (count_ok hM hn hS A.isDead A.hn A.fits').mono fun e w' h2 => ?_
  rw [A.count] at h2
  exact same5 A hgo h2
/-- A new map on a store. -/
theorem new5 (h : Own w0 w (TStore p q S) L) (a n : Nat) (hf : mapFits S.size a n = true) : Calls Tryz.prog 53 #[Dptr p, .int .i64 (a : Int), .int .i64 (n : Int)] w fun e w' => ∃ pm, e = .returned (.tuple #[Dptr pm, .int .i64 0]) ∧ Own w0 w' (TStore p q S) (upd L pm (some (mapObj p a n))) ∧ L pm = none ∧ w.heap.size ≤ w'.heap.size := by
  obtain ⟨F, hS, _⟩ := h.step
  refine (anew_any hS a n).mono ?_
  rintro e w' (⟨_, h1, h2⟩ | ⟨h1, _⟩)
  · subst h2
    exact ⟨w.heap.size, h1, h.local_ (keepsStore p q S) ((Below.refl _ w).alloc (Nat.le_refl _) _) (Nat.le_refl _) (heap_alloc_new w _), h.none_ (Nat.le_refl _), by simp⟩
  · rw [hf] at h1
    cases h1
end
end Go.Proofs.YtjngphffgdjcfaaGreatDoor
