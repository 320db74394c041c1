/-
  The texts InP9 InPA InPB Law5a Tb1 InG InH InI InJ, one behind the other.
-/
import Derived.Test.YtbnoebdpbpjbkaaMIB14
import Derived.Deep.RegionHeld
import Derived.Deep.RegionLaw
/-
  A base, plain: Write, Read, Make.
-/
namespace Go.Lz
open Go.RowKit Go.Proofs.Ytbnoebdpbpjbkaa
section
variable {S S1 : WalS} {N cc m n i k : Nat} {g : Nat → Bytes} {o : Owner} {on : Nat → Bool} {nb : Nat → Bytes} {c : Nat → Nat} {X : Nat → Nat → UInt8} {A : Nodes} {a : NodeA}
theorem grow_cost {len at' L M : Nat} (hM : M = max len (at' + L)) (hL : L ≠ 0) (hl : at' + L - min at' len ≤ 6144) : (cntN M - cntN len) + (nlN (cntN M) - nlN (cntN len)) + oldN (cntN len) at' L ≤ 101 := by
  unfold oldN
  rw [if_neg hL]
  unfold nlN cntN
  omega
theorem BaseP.writeB {at' : Nat} {p : Bytes} (B : BaseP S N g cc m A) (ha : A n = some a) (hp : p ≠ []) (hr : at' + p.length ≤ 64 * a.room) (hl : at' + p.length - min at' a.data.length ≤ 6144) (hm : m ≤ 5) :
    (S.freeB + withN (cOf A n) < withN (cntN (at' + p.length)) ∧ S.writeB n (S.nodeB n) at' p = (60, S)) ∨
    ∃ S', S.writeB n (S.nodeB n) at' p = (0, S') ∧ BaseP S' N g cc (m + 106) (upd A n (some { a with data := wrB a.data at' p })) := by
  obtain ⟨o, R⟩ := B.rdy
  have hN := B.big
  have M := B.node n a ha
  have hca := cOf_some ha
  have hroom : a.room ≤ 256 := by have := M.ok.room; rw [M.room] at this; exact this
  have hszr : a.data.length ≤ 64 * a.room := by have := M.ok.size; rw [M.room, M.size] at this; exact this
  have hpl : p.length ≠ 0 := fun e => hp (List.eq_nil_of_length_eq_zero e)
  obtain ⟨T, hT⟩ : ∃ T, T = max a.data.length (at' + p.length) := ⟨_, rfl⟩
  have hcost := grow_cost hT hpl hl
  have hTc : cntN a.data.length ≤ cntN T := by unfold cntN; omega
  obtain ⟨d, hd⟩ : ∃ d : NodeA, d = { a with data := wrB a.data at' p } := ⟨_, rfl⟩
  have hdl : d.data.length = T := by rw [hd, hT]; exact wrB_length _ _ _
  have hnl := nlN_mono hTc
  -- the node has its blocks
  have key : ∀ b1 S1 o1, S.roomy (S.nodeB n) (at' + p.length) = (0, b1, S1) → Kb S1 N g cc (m + (cntN T - cntN a.data.length) + (nlN (cntN T) - nlN (cntN a.data.length)) + 1) → Ready S1 N (onOf A) (upd S.nodeB n b1) (upd (cOf A) n (cntN T)) o1 (xOf A) → (∀ x, x < 140 → (x < 3 ∨ 7 ≤ x) → b1.getD x 0 = (S.nodeB n).getD x 0) → nSize b1 = T → (∀ j, j = 0 ∨ (16 ≤ j ∧ j < 300) → S1.get j = S.get j) → (∀ x, cntN a.data.length ≤ x → x < cntN T → Has S1 (299 + blkG S1.get b1 x)) → S1.freeB + withN (cntN T) = S.freeB + withN (cOf A n) →
      ∃ S', S.writeB n (S.nodeB n) at' p = (0, S') ∧ BaseP S' N g cc (m + 106) (upd A n (some d)) := by
    intro b1 S1 o1 e1 K1 R1 hh hs low fresh hf
    obtain ⟨S2, e2, K2, R2, l2, f2⟩ := eachW_ok hN (n := n) (fr := cntN a.data.length) p.length (i := at') (p := p) K1 R1 (by rw [upd_same]; unfold cntN; omega) (Nat.le_refl _) (fun x h1 h2 => by rw [upd_same] at h2 ⊢; exact fresh x h1 h2) (by omega)
    rw [upd_same] at e2
    rw [← xOf_write ha, ← hd] at R2
    have hcd : cOf (upd A n (some d)) = upd (cOf A) n (cntN T) := by rw [cOf_upd, hdl]
    rw [← hcd] at R2
    have hb1 : b1.length = 256 := by have := R1.len n; rwa [upd_same] at this
    obtain ⟨S3, e3, B3⟩ := B.saved (d := d) ha K2 R2 (fun j hj => (l2 j hj).trans (low j hj)) (by rw [hd]; exact M.sized (by rw [hb1, R.len]) hh (by rw [hs, hT, wrB_length]) (by rw [wrB_length]; omega)) (by rw [hdl, f2]; exact hf) (by omega)
    refine ⟨S3, ?_, ⟨B3.kb.mono (by omega), B3.big, B3.bit, B3.dom, B3.rdy, B3.node, B3.free⟩⟩
    unfold WalS.writeB
    rw [e1, if_pos rfl]
    show (if (S1.writeAll b1 at' p).1 = 0 then (S1.writeAll b1 at' p).2.1.save n b1 else _) = _
    unfold WalS.writeAll
    rw [e2, if_pos rfl]
    exact e3
  rw [hd] at key
  by_cases hg : a.data.length < at' + p.length
  · have hT2 : T = at' + p.length := by omega
    rcases grow_ok (m' := at' + p.length) B.kb R hN (show onOf A n = true by unfold onOf; rw [ha]; rfl) (by rw [hca, M.size]) (by rw [M.size]; omega) (by omega) (fun x hx => by
      rw [xOf_some ha, List.getD_eq_getElem?_getD, List.getElem?_eq_none (by rw [hca] at hx; unfold cntN at hx; omega)]; rfl) (by rw [hca, ← hT2]; omega) with ⟨h1, h2⟩ | ⟨b', S1, o1, e1, K1, R1, hh, hs, low, fresh, hf, _⟩
    · refine .inl ⟨h1, ?_⟩
      unfold WalS.writeB WalS.roomy
      rw [M.size, if_pos hg, h2, if_neg (show ¬ (60 : Int) = 0 by decide)]
    · rw [hca, ← hT2] at K1
      rw [← hT2] at R1 hs hf
      refine .inr (key b' S1 o1 ?_ K1 R1 hh hs low (fun x h1 h2 => fresh x (by rw [hca]; exact h1) (by rw [← hT2]; exact h2)) hf)
      unfold WalS.roomy
      rw [M.size, if_pos hg, e1]
  · have hT2 : T = a.data.length := by omega
    refine .inr (key (S.nodeB n) S o ?_ (B.kb.mono (by omega)) ?_ (fun _ _ _ => rfl) (by rw [M.size, hT2]) (fun _ _ => rfl) (fun x h1 h2 => by rw [hT2] at h2; omega) (by rw [hT2, hca]))
    · unfold WalS.roomy
      rw [M.size, if_neg hg]
    · rw [upd_self, hT2, ← hca, upd_self]
      exact R
theorem BaseP.nodeE (B : BaseP S N g cc m A) (z : Int) : S.nodeE z = if 1 ≤ z ∧ (A z.toNat).isSome = true then 0 else 61 := by
  unfold WalS.nodeE
  by_cases h : z < 1 ∨ 64 < z
  · rw [if_pos h, if_neg]
    rintro ⟨h1, h2⟩
    have := B.dom _ h2
    omega
  · rw [if_neg h, B.bit z.toNat (by omega) (by omega)]
    by_cases h2 : (A z.toNat).isSome = true
    · rw [if_pos h2, if_pos ⟨by omega, h2⟩]
    · rw [if_neg h2, if_neg (fun h3 => h2 h3.2)]

/-- Bytes of a node are read. -/
theorem eachR_ok (R : Ready S N on nb c o X) (K : Kb S N g cc m) (hN : 400 ≤ N) : ∀ (d : Nat) {i j : Nat} {out : Bytes}, i ≤ j → j ≤ 64 * c n → j - i ≤ d → eachF readStep (nb n) d i j S out = (0, S, out ++ (List.range (j - i)).map fun x => X n (i + x)) := by
  intro d
  induction d with
  | zero =>
    intro i j out h1 h2 h3
    have : j - i = 0 := by omega
    rw [this]
    unfold eachF
    simp
  | succ d ih =>
    intro i j out h1 h2 h3
    unfold eachF
    by_cases h : i < j
    · obtain ⟨a, ha⟩ : ∃ a, a = min (64 - i % 64) (j - i) := ⟨_, rfl⟩
      have hi : i / 64 < c n := by omega
      have hsz : ¬ S.size ≤ 299 + blkG S.get (nb n) (i / 64) := by
        have := (R.lay.blk n _ hi).2.1
        rw [K.size]
        omega
      rw [if_pos h, R.block K hN hi, if_pos rfl, ← ha]
      unfold readStep
      rw [if_neg hsz]
      show (if (0 : Int) = 0 then _ else _) = _
      rw [if_pos rfl]
      unfold readStep at ih
      rw [ih (i := i + a) (j := j) (by omega) h2 (by omega)]
      have e1 : ((S.get (299 + blkG S.get (nb n) (i / 64))).drop (i % 64)).take a = (List.range a).map fun x => X n (i + x) := by
        have hlen := K.len (299 + blkG S.get (nb n) (i / 64))
        apply List.ext_getElem
        · rw [List.length_take, List.length_drop, List.length_map, List.length_range, hlen]; omega
        · intro x hx1 hx2
          have hx : x < a := by simpa using hx2
          have hd := R.dat n (i / 64) (i % 64 + x) hi (by omega)
          rw [List.getD_eq_getElem?_getD, List.getElem?_eq_getElem (by omega)] at hd
          simp only [List.getElem_take, List.getElem_drop, List.getElem_map, List.getElem_range]
          rw [show i + x = 64 * (i / 64) + (i % 64 + x) by omega]
          exact hd
      have e2 : j - i = a + (j - (i + a)) := by omega
      rw [e1, e2, List.range_add, List.map_append, List.map_map, List.append_assoc]
      have e3 : (List.range (j - (i + a))).map (fun x => X n (i + a + x)) = (List.range (j - (i + a))).map ((fun x => X n (i + x)) ∘ fun x => a + x) := by
        apply List.map_congr_left
        intro x _
        show X n (i + a + x) = X n (i + (a + x))
        rw [Nat.add_assoc]
      rw [e3]
    · rw [if_neg h]
      have : j - i = 0 := by omega
      rw [this]
      simp
theorem BaseP.readN {at' k : Nat} (B : BaseP S N g cc m A) (ha : A n = some a) : S.readN (n : Int) (at' : Int) (k : Int) = (0, (a.data.drop (min at' a.data.length)).take k) := by
  obtain ⟨o, R⟩ := B.rdy
  have M := B.node n a ha
  have hn := B.dom n (by rw [ha]; rfl)
  unfold WalS.readN
  rw [B.nodeE, Int.toNat_natCast, ha, if_pos (⟨by omega, rfl⟩ : (1 : Int) ≤ (n : Int) ∧ (some a).isSome = true), if_neg (by decide), if_neg (by omega), Int.toNat_natCast, Int.toNat_natCast]
  have e : S.readAll (S.nodeB n) at' k = (0, S, (a.data.drop (min at' a.data.length)).take k) := by
    unfold WalS.readAll
    rw [M.size, eachR_ok R B.kb B.big _ (by omega) (by rw [cOf_some ha]; unfold cntN; omega) (by omega)]
    congr 2
    rw [List.nil_append]
    apply List.ext_getElem
    · rw [List.length_map, List.length_range, List.length_take, List.length_drop]; omega
    · intro x h1 h2
      rw [List.length_map, List.length_range] at h1
      simp only [List.getElem_take, List.getElem_drop, List.getElem_map, List.getElem_range]
      rw [xOf_some ha, List.getD_eq_getElem?_getD, List.getElem?_eq_getElem (by omega)]
      rfl
  rw [e, if_pos rfl]
end
end Go.Lz
/-
  A base, plain: Make; Write with its refusals; commits, aborts; a new base.
-/
namespace Go.Lz
open Go.RowKit Go.Proofs.Ytbnoebdpbpjbkaa
section
variable {S S1 : WalS} {N cc m n i k : Nat} {g : Nat → Bytes} {o : Owner} {on : Nat → Bool} {nb : Nat → Bytes} {c : Nat → Nat} {X : Nat → Nat → UInt8} {A : Nodes} {a : NodeA}
theorem zero256_getD (j : Nat) : zero256.getD j 0 = 0 := by
  unfold zero256
  rw [List.getD_eq_getElem?_getD, List.getElem?_replicate]
  by_cases h : j < 256
  · rw [if_pos h]; rfl
  · rw [if_neg h]; rfl
theorem mkNode_facts {kind room : Nat} {s l : List Int} (hs : isSetB s = true) (hl : isSetB l = true) (hk : kind = 1 ∨ kind = 2) (hr : room ≤ 256) :
    (mkNode (kind : Int) (room : Int) (setCode s ++ setCode l)).length = 256 ∧ NodeSays (mkNode (kind : Int) (room : Int) (setCode s ++ setCode l)) ⟨kind, s, l, room, []⟩ ∧ ∀ j, j < 58 → ent (mkNode (kind : Int) (room : Int) (setCode s ++ setCode l)) j = 0 := by
  have h1 := isSetB_len hs
  have h2 := isSetB_len hl
  have hcl : (setCode s ++ setCode l).length ≤ 130 := by rw [List.length_append, setCode_len, setCode_len]; omega
  obtain ⟨q, hq⟩ : ∃ q, q = put2B (zero256.set 0 (lowByte (kind : Int))) 1 (room : Int) := ⟨_, rfl⟩
  obtain ⟨cd, hcd⟩ : ∃ cd, cd = setCode s ++ setCode l := ⟨_, rfl⟩
  have hql : q.length = 256 := by rw [hq, put2B_length, List.length_set]; unfold zero256; rw [List.length_replicate]
  have hmk : mkNode (kind : Int) (room : Int) (setCode s ++ setCode l) = splice q 7 cd := by unfold mkNode; rw [hq, hcd]
  rw [hmk]
  rw [← hcd] at hcl
  have hg := fun j => splice_getD (b := q) (p := cd) (a := 7) (by omega) j
  have q3 : ∀ j, 3 ≤ j → q.getD j 0 = 0 := fun j hj => by rw [hq, put2_getD _ _ (by omega), getD_set_other _ (by omega)]; exact zero256_getD j
  have q0 : q.getD 0 0 = lowByte (kind : Int) := by rw [hq, put2_getD _ _ (by omega), getD_set_same _ (by unfold zero256; rw [List.length_replicate]; omega)]
  have q1 : twoN q 1 = room := by rw [hq]; exact twoN_put2 _ (by rw [List.length_set]; unfold zero256; rw [List.length_replicate]; omega) (by omega)
  have hroom : nRoom (splice q 7 cd) = room := by
    unfold nRoom twoN
    rw [hg, hg, if_neg (by omega), if_neg (by omega)]
    exact q1
  have hsize : nSize (splice q 7 cd) = 0 := by
    unfold nSize twoN
    rw [hg, hg, hg, hg, if_neg (by omega), if_neg (by omega), if_neg (by omega), if_neg (by omega), q3 _ (by omega), q3 _ (by omega), q3 _ (by omega), q3 _ (by omega)]
    rfl
  have hkind : ((splice q 7 cd).getD 0 0).toNat = kind := by
    rw [hg, if_neg (by omega), q0]
    rcases hk with rfl | rfl <;> rfl
  refine ⟨by rw [length_splice _ _ _ (by omega), hql], ⟨⟨hs, hl, ⟨(q.drop (7 + cd.length)).take (133 - cd.length), ?_⟩, by rw [hkind]; exact hk, by rw [hroom]; exact hr, by rw [hsize]; exact Nat.zero_le _⟩, hkind, hroom, hsize⟩, fun j hj => ?_⟩
  · rw [← hcd]
    unfold splice
    rw [List.drop_append_of_le_length (by rw [List.length_take]; omega), List.drop_eq_nil_of_le (by rw [List.length_take]; omega), List.nil_append, List.take_append, List.take_of_length_le (by omega)]
  · unfold ent twoN
    rw [hg, hg, if_neg (by omega), if_neg (by omega), q3 _ (by omega), q3 _ (by omega)]
    rfl
/-- A node that is not there is made. -/
theorem BaseP.make {kind room : Nat} {s l : List Int} (B : BaseP S N g cc m A) (hs : isSetB s = true) (hl : isSetB l = true) (hk : kind = 1 ∨ kind = 2) (hr : room ≤ 256) (hm : m + 4 ≤ 111) :
    ((∀ n, 1 ≤ n → n ≤ 64 → (A n).isSome = true) ∧ S.makeN (kind : Int) s l (room : Int) = (60, 0, S)) ∨
    ∃ n S', 1 ≤ n ∧ n ≤ 64 ∧ A n = none ∧ (∀ n', 1 ≤ n' → n' < n → (A n').isSome = true) ∧ S.makeN (kind : Int) s l (room : Int) = (0, n, S') ∧ BaseP S' N g cc (m + 4) (upd A n (some ⟨kind, s, l, room, []⟩)) := by
  have hgood : ¬ (((kind : Int) ≠ 1 ∧ (kind : Int) ≠ 2) ∨ (isSetB s && isSetB l) = false ∨ (room : Int) < 0 ∨ 256 < (room : Int)) := by
    rw [hs, hl]
    rintro (h | h | h | h)
    · omega
    · cases h
    · omega
    · omega
  have hN := B.big
  have hN2 := B.kb.kp.n_le
  unfold WalS.makeN
  rw [if_neg hgood]
  rcases least_free (S.bit 0) 64 with h | ⟨i, hi, h0, h1⟩
  · refine .inl ⟨fun n hn1 hn2 => by rw [← B.bit n hn1 hn2]; exact h _ (by omega), ?_⟩
    rw [WalS.takeI_none h, if_neg (show ¬ (60 : Int) = 0 by decide)]
  · obtain ⟨S1, e1, b1⟩ := B.kb.takeI (by omega) (a := 0) (n := 64) (i := i) (by omega) (by omega) hi h0 h1
    have hAn : A (i + 1) = none := by
      have := B.bit (i + 1) (by omega) (by omega)
      rw [Nat.add_sub_cancel, h0] at this
      cases e : A (i + 1) with
      | none => rfl
      | some a => rw [e] at this; cases this
    obtain ⟨f1, f2, f3⟩ := mkNode_facts hs hl hk hr
    obtain ⟨q, hq⟩ : ∃ q, q = mkNode (kind : Int) (room : Int) (setCode s ++ setCode l) := ⟨_, rfl⟩
    rw [← hq] at f1 f2 f3
    obtain ⟨S3, e3, K3, n3, g3⟩ := save_ok b1.kb hN hm (n := i + 1) (by omega) f1
    rw [e1, if_pos rfl]
    refine .inr ⟨i + 1, S3, by omega, by omega, hAn, fun n' h2 h3 => by rw [← B.bit n' h2 (by omega)]; exact h1 _ (by omega), ?_, ?_⟩
    · show ((S1.save (i + 1) (mkNode (kind : Int) (room : Int) (setCode s ++ setCode l))).1, i + 1, (S1.save (i + 1) (mkNode (kind : Int) (room : Int) (setCode s ++ setCode l))).2) = _
      rw [← hq, e3]
    · obtain ⟨o, R⟩ := B.rdy
      have hget : ∀ j, j ≠ 0 → (j < 16 + 4 * i ∨ 16 + 4 * i + 4 ≤ j) → S3.get j = S.get j := fun j h2 h3 => by rw [g3 j (by omega), b1.get j (by omega)]
      have hoth : ∀ n', 1 ≤ n' → n' ≤ 64 → n' ≠ i + 1 → S3.nodeB n' = S.nodeB n' := fun n' h1 h2 h3 => nodeB_same fun j h4 h5 => hget j (by omega) (by omega)
      have hc : cOf (upd A (i + 1) (some ⟨kind, s, l, room, []⟩)) = cOf A := by
        rw [cOf_upd]
        have h0 : cntN (NodeA.data ⟨kind, s, l, room, []⟩).length = cOf A (i + 1) := by rw [cOf_none hAn]; show cntN 0 = 0; decide
        rw [h0, upd_self]
      have hx : xOf (upd A (i + 1) (some ⟨kind, s, l, room, []⟩)) = xOf A := by
        funext n' x
        unfold xOf
        by_cases e : n' = i + 1
        · subst e; rw [upd_same, hAn]; rfl
        · rw [upd_other _ e]
      refine ⟨K3, hN, fun n' h2 h3 => ?_, fun n' h => ?_, ⟨o, ?_⟩, fun n' a' h => ?_, ?_⟩
      · have h4 := B.bit n' h2 h3
        have h5 := b1.bit (n' - 1)
        have h6 : S3.bit 0 (n' - 1) = S1.bit 0 (n' - 1) := by
          unfold WalS.bit
          rw [g3 _ (by omega)]
        rw [h6, h5]
        by_cases e : n' = i + 1
        · subst e; rw [if_pos (by omega), upd_same]; rfl
        · rw [if_neg (by omega), upd_other _ e]; exact h4
      · by_cases e : n' = i + 1
        · omega
        · rw [upd_other _ e] at h; exact B.dom n' h
      · have R1 := R.low (S' := S3) hN2 (fun j hj => hget j (by omega) (by omega))
        rw [hc, hx]
        have hbl : ∀ n', 0 < cOf A n' → S3.nodeB n' = S.nodeB n' := fun n' h => by
          have h2 : (A n').isSome = true := by
            cases e : A n' with
            | none => rw [cOf_none e] at h; omega
            | some a => rfl
          have h3 := B.dom n' h2
          refine hoth n' h3.1 h3.2 (fun e => ?_)
          rw [e, hAn] at h2
          cases h2
        have hb2 : ∀ n' i', i' < cOf A n' → blkG S3.get (S3.nodeB n') i' = blkG S3.get (S.nodeB n') i' := fun n' i' h => by rw [hbl n' (by omega)]
        refine ⟨R1.lay.congr hb2 (fun n' j hj => ?_), R1.bits, fun n' i' j h2 h3 => by rw [hb2 n' i' h2]; exact R1.dat n' i' j h2 h3, fun n' => nodeB_len K3 n', fun n' hn' j hj hj2 => ?_⟩
        · rw [hbl n' (Nat.pos_of_ne_zero fun e => ?_)]
          have h0 : nlN 0 = 0 := rfl
          rw [e, h0] at hj
          omega
        · by_cases e : n' = i + 1
          · subst e; rw [n3]; exact f3 _ (by omega)
          · have h2 : (A n').isSome = true := by unfold onOf at hn'; rwa [upd_other _ e] at hn'
            have h3 := B.dom n' h2
            rw [hoth n' h3.1 h3.2 e]
            exact R1.zer n' h2 j hj hj2
      · by_cases e : n' = i + 1
        · subst e
          rw [upd_same] at h
          injection h with h
          subst h
          rw [n3]
          exact f2
        · rw [upd_other _ e] at h
          have := B.dom n' (by rw [h]; rfl)
          rw [hoth n' this.1 this.2 e]
          exact B.node n' a' h
      · have h2 : allOf (upd A (i + 1) (some ⟨kind, s, l, room, []⟩)) = allOf A := by unfold allOf; rw [hc]
        rw [h2, freeB_low B.kb K3 (fun j h2 h3 => hget j (by omega) (by omega))]
        exact B.free
theorem BaseP.make_bad {kind room : Int} {s l : List Int} (h : (kind ≠ 1 ∧ kind ≠ 2) ∨ (isSetB s && isSetB l) = false ∨ room < 0 ∨ 256 < room) : S.makeN kind s l room = (1, 0, S) := by
  unfold WalS.makeN
  rw [if_pos h]
theorem BaseP.mono (B : BaseP S N g cc m A) {m' : Nat} (h : m ≤ m') : BaseP S N g cc m' A := ⟨B.kb.mono h, B.big, B.bit, B.dom, B.rdy, B.node, B.free⟩
/-- The same sectors, the same base. -/
theorem BaseP.same {S' : WalS} {cc' m' : Nat} {g' : Nat → Bytes} (B : BaseP S N g cc m A) (K' : Kb S' N g' cc' m') (h : ∀ k, k < N → S'.get k = S.get k) : BaseP S' N g' cc' m' A := by
  obtain ⟨o, R⟩ := B.rdy
  have hN := B.big
  have hN2 := B.kb.kp.n_le
  have hb : ∀ a i, a + i / 512 < N → S'.bit a i = S.bit a i := fun a i hi => by unfold WalS.bit; rw [h _ hi]
  have hnb : ∀ n, 1 ≤ n → n ≤ 64 → S'.nodeB n = S.nodeB n := fun n h1 h2 => nodeB_same fun j h3 h4 => h j (by omega)
  have hl : ∀ n' j, j < nlN (cOf A n') → S'.get (299 + ent (S.nodeB n') (32 + j)) = S.get (299 + ent (S.nodeB n') (32 + j)) := fun n' j hj => h _ (by have := (R.lay.lst n' j hj).1; omega)
  have hbl : ∀ n' i', i' < cOf A n' → blkG S'.get (S.nodeB n') i' = blkG S.get (S.nodeB n') i' := fun n' i' hi' => R.lay.frame hl hi'
  have R' : Ready S' N (onOf A) S.nodeB (cOf A) o (xOf A) := ⟨R.lay.congrF hl, fun k h1 h2 => by rw [hb _ _ (by omega)]; exact R.bits k h1 h2, fun n' i' j hi' hj => by rw [hbl n' i' hi', h _ (by have := (R.lay.blk n' i' hi').2.1; omega)]; exact R.dat n' i' j hi' hj, R.len, R.zer⟩
  refine ⟨K', hN, fun n h1 h2 => by rw [hb _ _ (by omega)]; exact B.bit n h1 h2, B.dom, ⟨o, R'.swap (fun n hn => ?_) (fun n hn => off_cOf n hn) (fun n => nodeB_len K' n)⟩, fun n a ha => ?_, ?_⟩
  · have := B.dom n hn
    exact hnb n this.1 this.2
  · have := B.dom n (by rw [ha]; rfl)
    rw [hnb n this.1 this.2]
    exact B.node n a ha
  · have e : cntI (S'.bit 1) (N - 300) = cntI (S.bit 1) (N - 300) := cntI_congr fun j hj => hb _ _ (by omega)
    rw [freeB_eq K', e, ← freeB_eq B.kb]
    exact B.free
theorem BaseP.commit (B : BaseP S N g cc m A) (hcc : cc < 1000000) : S.commit.1 = 0 ∧ BaseP S.commit.2 N S.get (cc + 1) 0 A := by
  obtain ⟨e, K, h⟩ := B.kb.commit hcc
  exact ⟨e, B.same K h⟩
/-- What was committed is the base A. -/
def Done (N : Nat) (g : Nat → Bytes) (A : Nodes) : Prop := ∃ (S : WalS) (g' : Nat → Bytes) (cc m : Nat), BaseP S N g' cc m A ∧ ∀ k, k < N → g k = S.get k
theorem BaseP.done (B : BaseP S N g cc m A) : Done N S.get A := ⟨S, g, cc, m, B, fun _ _ => rfl⟩
theorem BaseP.aborted {A0 : Nodes} (B : BaseP S N g cc m A) (hd : Done N g A0) : BaseP S.aborted N g cc 0 A0 := by
  obtain ⟨S0, g', cc', m', B0, hg⟩ := hd
  obtain ⟨K, h⟩ := B.kb.aborted
  exact B0.same K (fun k hk => (h k hk).trans (hg k hk))
end
end Go.Lz
/-
  A base, plain: a new one; Write with its refusals; what Check needs.
-/
namespace Go.Lz
open Go.RowKit Go.Proofs.Ytbnoebdpbpjbkaa
section
variable {S S1 : WalS} {N cc m n i k : Nat} {g : Nat → Bytes} {o : Owner} {A : Nodes} {a : NodeA}
theorem cntI_none {is : Nat → Bool} {m : Nat} (h : ∀ i, i < m → is i = false) : cntI is m = 0 := by
  induction m with
  | zero => rfl
  | succ m ih => rw [cntI_succ, ih (fun i hi => h i (by omega)), h m (by omega)]; rfl
theorem sumF_zero {f : Nat → Nat} {m : Nat} (h : ∀ k, k < m → f k = 0) : sumF f m = 0 := by
  induction m with
  | zero => rfl
  | succ m ih => unfold sumF; rw [ih (fun k hk => h k (by omega)), h m (by omega)]
theorem BaseP.new {M : Nat} (h1 : 700 ≤ M) (h2 : M ≤ 8192) : BaseP (newS M) (M - 300) (fun _ => zero64) 0 0 (fun _ => none) := by
  obtain ⟨K, hn⟩ := Kp.new (n := M) (by omega) h2
  have hz : ∀ k, k < M - 300 → (newS M).get k = zero64 := fun k hk => by rw [K.get hk, hn]; rfl
  have hb0 : ∀ j, j < 512 → bitB zero64 j = false := by decide +kernel
  have hb : ∀ b i, b + i / 512 < M - 300 → (newS M).bit b i = false := fun b i h => by unfold WalS.bit; rw [hz _ h]; exact hb0 _ (by omega)
  have KB : Kb (newS M) (M - 300) (fun _ => zero64) 0 0 := ⟨K, by rw [hn, heavyF_none]; exact Nat.le_refl _⟩
  refine ⟨KB, by omega, fun n h3 h4 => by rw [hb _ _ (by omega)]; rfl, fun n h => (by cases h), ⟨fun _ => none, ⟨⟨fun n i h => (by simp [cOf] at h), fun n j h => ?_, fun n => ?_, fun n => ?_, fun k n x h => (by cases h)⟩, fun k h3 h4 => by rw [hb _ _ (by omega)]; rfl, fun n i j h => (by simp [cOf] at h), fun n => nodeB_len KB n, fun n h => (by cases h)⟩⟩, fun n a h => (by cases h), ?_⟩
  · have h0 : nlN (cOf (fun _ => none) n) = 0 := by rw [cOf_none rfl]; decide
    rw [h0] at h
    omega
  · exact Nat.zero_le _
  · have h0 : nlN (cOf (fun _ => none) n) = 0 := by rw [cOf_none rfl]; decide
    rw [h0]
    exact Nat.zero_le _
  · have e : cntI ((newS M).bit 1) (M - 300 - 300) = 0 := cntI_none fun i hi => hb _ _ (by omega)
    rw [freeB_eq KB, e]
    have : allOf (fun _ => none) = 0 := sumF_zero fun k hk => by rw [cOf_none rfl]; decide
    rw [this]
    omega
/-- Write, with its refusals. -/
theorem BaseP.write_none (B : BaseP S N g cc m A) {z at' : Int} {p : Bytes} (h : S.nodeE z ≠ 0) : S.writeN z at' p = (61, S) := by
  unfold WalS.writeN
  rw [if_pos h]
  rw [B.nodeE] at h ⊢
  split at h
  · exact absurd rfl h
  · rename_i h2
    rw [if_neg h2]
theorem BaseP.nodeE_some (B : BaseP S N g cc m A) (ha : A n = some a) : S.nodeE (n : Int) = 0 := by
  have := B.dom n (by rw [ha]; rfl)
  rw [B.nodeE, Int.toNat_natCast, ha, if_pos ⟨by omega, rfl⟩]
theorem BaseP.write_room (B : BaseP S N g cc m A) (ha : A n = some a) {at' : Nat} {p : Bytes} (h : 64 * a.room < p.length ∨ 64 * a.room < at' + p.length) : S.writeN (n : Int) (at' : Int) p = (72, S) := by
  unfold WalS.writeN
  rw [B.nodeE_some ha, if_neg (by decide), if_neg (by omega), Int.toNat_natCast, Int.toNat_natCast, (B.node n a ha).room, if_pos h]
theorem BaseP.write_ok (B : BaseP S N g cc m A) (ha : A n = some a) {at' : Nat} {p : Bytes} (hr : at' + p.length ≤ 64 * a.room) (hp : p ≠ []) (hl : at' + p.length - min at' a.data.length ≤ 6144) (hm : m ≤ 5) :
    (S.freeB + withN (cOf A n) < withN (cntN (at' + p.length)) ∧ S.writeN (n : Int) (at' : Int) p = (60, S)) ∨
    ∃ S', S.writeN (n : Int) (at' : Int) p = (0, S') ∧ BaseP S' N g cc (m + 106) (upd A n (some { a with data := wrB a.data at' p })) := by
  unfold WalS.writeN
  rw [B.nodeE_some ha, if_neg (by decide), if_neg (by omega), Int.toNat_natCast, Int.toNat_natCast, (B.node n a ha).room, if_neg (by omega), if_neg hp, (B.node n a ha).size, if_neg (by omega)]
  exact B.writeB ha hp hr hl hm
end
end Go.Lz
/-
  The map's calls, as a statement's function meets them: it owns the store; the map is a local block.
-/
namespace Go.Lz
open Go.RowKit
/-- A call works on the thing; local blocks are none of its. -/
theorem Own.stepL {w0 w : World} {T : World → (Nat → Prop) → Prop} {L : Locals} (h : Own w0 w T L) : ∃ F, T w F ∧ (∀ k, F k → w0.heap.size ≤ k ∧ k < w.heap.size) ∧ (∀ b o, L b = some o → ¬ F b ∧ w.heap[b]? = some o) ∧
    ∀ {w' : World} {T' : World → (Nat → Prop) → Prop}, T' w' (ext F w w') → Chg F w w' → Own w0 w' T' L := by
  obtain ⟨F, hT, hF, hb, hL⟩ := h
  refine ⟨F, hT, hF, fun b o e => (hL b o e).2, fun {w' T'} hT' hc => ⟨_, hT', fun k hk => ?_, hb.trans (hc.belowB hb.size (fun j hj h => by have := (hF j h).1; omega)), fun b o ho => ?_⟩⟩
  · have := hb.size
    rcases hk with hk | hk
    · exact ⟨(hF k hk).1, Nat.lt_of_lt_of_le (hF k hk).2 hc.size⟩
    · exact ⟨Nat.le_trans this hk.1, hk.2⟩
  · obtain ⟨h1, h2, h3⟩ := hL b o ho
    refine ⟨h1, fun h => h.elim h2 (fun h => ?_), (hc.block b (lt_of_heap h3) h2).trans h3⟩
    have := lt_of_heap h3
    omega
end Go.Lz
namespace Go.Proofs.Ytbnoebdpbpjbkaa
open Go.RowKit Go.Lz
section
variable {w0 w : World} {p q pm : Nat} {S : WalS} {L : Locals} {N a n cc : Nat} {done is : Nat → Bool}

/-- A map's block. -/
def mapObj (p a n : Nat) : Obj := .cells #[Dptr p, .int .i64 (a : Int), .int .i64 (n : Int)] 126 (0, 0)

/-- The call hands back v; the map is such a one. -/
def ADid (w0 w : World) (p q : Nat) (L : Locals) (N a n cc : Nat) (done is : Nat → Bool) (v : Value) (e : Ending) (w' : World) : Prop :=
  ∃ S, e = .returned v ∧ Own w0 w' (TStore p q S) L ∧ AM S N a n cc done is ∧ w.heap.size ≤ w'.heap.size

theorem map5 (h : Own w0 w (TStore p q S) L) (hL : L pm = some (mapObj p a n)) : ∃ F, StoreAt Try.prog w p q S F ∧ MapO w pm p a n ∧ ¬ F pm ∧
    ∀ {w' : World} {S' : WalS}, StoreAt Try.prog w' p q S' (ext F w w') → Chg F w w' → Own w0 w' (TStore p q S') L := by
  obtain ⟨F, hS, hF, hl, hgo⟩ := h.stepL
  exact ⟨F, hS, (hl _ _ hL).2, (hl _ _ hL).1, fun hS' hc => hgo hS' hc⟩

theorem same5 {F : Nat → Prop} {v : Value} {e : Ending} {w' : World} (A : AM S N a n cc done is) (hgo : ∀ {w' : World} {S' : WalS}, StoreAt Try.prog w' p q S' (ext F w w') → Chg F w w' → Own w0 w' (TStore p q S') L) (h : Same w p q S F v e w') : ADid w0 w p q L N a n cc done is v e w' := by
  obtain ⟨j, h1, h2, h3⟩ := h
  exact ⟨_, h1, hgo h2 h3, A.cnt j, h3.size⟩

theorem take5_full (h : Own w0 w (TStore p q S) L) (hL : L pm = some (mapObj p a n)) (A : AM S N a n cc done is) (hall : ∀ i, i < n → is i = true) : Calls Try.prog 54 #[Dptr pm] w (ADid w0 w p q L N a n cc done is (.tuple #[.int .i64 0, .int .i64 60])) := by
  obtain ⟨F, hS, hM, hn, hgo⟩ := map5 h hL
  refine (take_ok hM hn hS A.isDead A.hn A.fits').mono ?_
  rintro e w' (⟨_, h2⟩ | ⟨i, hi, hb, _⟩)
  · exact same5 A hgo h2
  · rw [A.bit i (sectorsOf_lt hi), hall i hi] at hb
    cases hb

theorem take5_at (h : Own w0 w (TStore p q S) L) (hL : L pm = some (mapObj p a n)) (A : AM S N a n cc done is) {i : Nat} (hi : i < n) (h0 : is i = false) (h1 : ∀ k, k < i → is k = true) : Calls Try.prog 54 #[Dptr pm] w (ADid w0 w p q L N a n cc done (upd is i true) (.tuple #[.int .i64 (i : Int), .int .i64 0])) := by
  obtain ⟨F, hS, hM, hn, hgo⟩ := map5 h hL
  refine (take_ok hM hn hS A.isDead A.hn A.fits').mono ?_
  rintro e w' (⟨hall, _⟩ | ⟨k, hk, hb, hlow, j, he, h2, h3⟩)
  · have := hall i hi
    rw [A.bit i (sectorsOf_lt hi), h0] at this
    cases this
  · obtain rfl : k = i := by
      rcases Nat.lt_trichotomy k i with hlt | rfl | hlt
      · rw [A.bit k (sectorsOf_lt hk), h1 k hlt] at hb
        cases hb
      · rfl
      · have := hlow i hlt
        rw [A.bit i (sectorsOf_lt hi), h0] at this
        cases this
    obtain ⟨e0, A'⟩ := A.set hi true
    rw [if_pos e0] at he
    exact ⟨_, he, hgo h2 h3, A'.cnt j, h3.size⟩

theorem give5_out (h : Own w0 w (TStore p q S) L) (hL : L pm = some (mapObj p a n)) {i : Int} (hi : i < 0 ∨ (n : Int) ≤ i) : Calls Try.prog 55 #[Dptr pm, .int .i64 i] w fun e w' => e = .returned (.int .i64 1) ∧ w = w' := by
  obtain ⟨F, hS, hM, hn, hgo⟩ := map5 h hL
  exact give_out hM hi
theorem give5_free (h : Own w0 w (TStore p q S) L) (hL : L pm = some (mapObj p a n)) (A : AM S N a n cc done is) {i : Nat} (hi : i < n) (h0 : is i = false) : Calls Try.prog 55 #[Dptr pm, .int .i64 (i : Int)] w (ADid w0 w p q L N a n cc done is (.int .i64 1)) := by
  obtain ⟨F, hS, hM, hn, hgo⟩ := map5 h hL
  exact (give_free hM hS A.isDead (A.at_ hi) hi A.hn ((A.bit i (sectorsOf_lt hi)).trans h0)).mono fun e w' h2 => same5 A hgo h2
theorem give5_ok (h : Own w0 w (TStore p q S) L) (hL : L pm = some (mapObj p a n)) (A : AM S N a n cc done is) {i : Nat} (hi : i < n) (h0 : is i = true) : Calls Try.prog 55 #[Dptr pm, .int .i64 (i : Int)] w (ADid w0 w p q L N a n cc done (upd is i false) (.int .i64 0)) := by
  obtain ⟨F, hS, hM, hn, hgo⟩ := map5 h hL
  refine (give_ok hM hn hS A.isDead (A.at_ hi) hi A.hn ((A.bit i (sectorsOf_lt hi)).trans h0)).mono ?_
  rintro e w' ⟨j, h1, h2, h3⟩
  obtain ⟨e0, A'⟩ := A.set hi false
  rw [e0] at h1
  exact ⟨_, h1, hgo h2 h3, A'.cnt j, h3.size⟩
theorem taken5_out (h : Own w0 w (TStore p q S) L) (hL : L pm = some (mapObj p a n)) {i : Int} (hi : i < 0 ∨ (n : Int) ≤ i) : Calls Try.prog 57 #[Dptr pm, .int .i64 i] w fun e w' => e = .returned (.tuple #[.bool false, .int .i64 1]) ∧ w = w' := by
  obtain ⟨F, hS, hM, hn, hgo⟩ := map5 h hL
  exact taken_out hM hi
theorem taken5_ok (h : Own w0 w (TStore p q S) L) (hL : L pm = some (mapObj p a n)) (A : AM S N a n cc done is) {i : Nat} (hi : i < n) : Calls Try.prog 57 #[Dptr pm, .int .i64 (i : Int)] w (ADid w0 w p q L N a n cc done is (.tuple #[.bool (is i), .int .i64 0])) := by
  obtain ⟨F, hS, hM, hn, hgo⟩ := map5 h hL
  refine (taken_ok hM hS A.isDead (A.at_ hi) hi A.hn).mono ?_
  rintro e w' ⟨j, h1, h2, h3⟩
  rw [A.bit i (sectorsOf_lt hi)] at h1
  exact ⟨_, h1, hgo (wat_ext h2) h3, A.cnt j, h3.size⟩
theorem count5 (h : Own w0 w (TStore p q S) L) (hL : L pm = some (mapObj p a n)) (A : AM S N a n cc done is) : Calls Try.prog 56 #[Dptr pm] w (ADid w0 w p q L N a n cc done is (.tuple #[.int .i64 (cntI is n : Int), .int .i64 0])) := by
  obtain ⟨F, hS, hM, hn, hgo⟩ := map5 h hL
  refine (count_ok hM hn hS A.isDead A.hn A.fits').mono fun e w' h2 => ?_
  rw [A.count] at h2
  exact same5 A hgo h2
theorem commit5 (h : Own w0 w (TStore p q S) L) (A : AM S N a n cc done is) (hc : cc < 1000000) : Calls Try.prog 42 #[Dptr p] w (ADid w0 w p q L N a n (cc + 1) is is (.int .i64 0)) := by
  obtain ⟨e0, A'⟩ := A.commit hc
  refine (commit4 h).mono ?_
  rintro e w' ⟨h1, h2, h3⟩
  rw [e0] at h1
  exact ⟨_, h1, h2, A', h3⟩
theorem abort5 (h : Own w0 w (TStore p q S) L) (A : AM S N a n cc done is) : Calls Try.prog 48 #[Dptr p] w (ADid w0 w p q L N a n cc done done (.tuple #[])) := by
  refine (abort4 h).mono ?_
  rintro e w' ⟨h1, h2, h3⟩
  exact ⟨_, h1, h2, A.aborted, h3⟩

/-- A new map on a store. -/
theorem new5 (h : Own w0 w (TStore p q S) L) (a n : Nat) (hf : mapFits S.size a n = true) : Calls Try.prog 37 #[Dptr p, .int .i64 (a : Int), .int .i64 (n : Int)] w fun e w' => ∃ pm, e = .returned (.tuple #[Dptr pm, .int .i64 0]) ∧ Own w0 w' (TStore p q S) (upd L pm (some (mapObj p a n))) ∧ L pm = none ∧ w.heap.size ≤ w'.heap.size := by
  obtain ⟨F, hS, _⟩ := h.step
  refine (anew_any hS a n).mono ?_
  rintro e w' (⟨_, h1, h2⟩ | ⟨h1, _⟩)
  · subst h2
    exact ⟨w.heap.size, h1, h.local_ (keepsStore p q S) ((Below.refl _ w).alloc (Nat.le_refl _) _) (Nat.le_refl _) (heap_alloc_new w _), h.none_ (Nat.le_refl _), by simp⟩
  · rw [hf] at h1
    cases h1
end
end Go.Proofs.Ytbnoebdpbpjbkaa
/-
  A base's calls, as a statement's function meets them: it owns the store; the base is three local blocks.
-/
namespace Go.Lz
open Go.RowKit Go.Proofs.Ytbnoebdpbpjbkaa
section
variable {S : WalS} {N cc m : Nat} {g : Nat → Bytes} {A : Nodes} {g0 : Nat → Bytes} {c0 d0 : Nat} {h0 : Nat → Nat → Bytes}
theorem Live.wc (h : Live S g0) (c : Int) : Live (S.wc c) g0 := ⟨⟨h.ok.n, h.ok.now, h.ok.wait⟩, ⟨h.dok.n, h.dok.fuse, h.dok.last, h.dok.wait⟩, h.dead, h.ddead, h.quiet.core rfl rfl rfl, h.waitN, h.nowN⟩
theorem Rec.wc (r : Rec S N c0 d0 h0) (c : Int) : Rec (S.wc c) N c0 d0 h0 := by
  obtain ⟨g0, hl, h1, h2⟩ := r.ex
  exact ⟨⟨g0, hl.wc c, h1, h2⟩, r.size, r.all, r.last, r.le, r.small⟩
theorem Kp.wc (K : Kp S N g cc) (c : Int) : Kp (S.wc c) N g cc := by
  obtain ⟨h, c0, d, r, hc, hg⟩ := K.ex
  exact ⟨⟨h, c0, d, r.wc c, hc, hg⟩, ⟨K.well.dead, K.well.fuse⟩⟩
theorem Kb.wc (K : Kb S N g cc m) (c : Int) : Kb (S.wc c) N g cc m := ⟨K.kp.wc c, K.few⟩
theorem BaseP.wc (B : BaseP S N g cc m A) (c : Int) : BaseP (S.wc c) N g cc m A := B.same (B.kb.wc c) (fun _ _ => rfl)
/-- A call works on the thing: its blocks, or new ones, are the thing's then; a new block that is none of them may be a local one. -/
theorem Own.stepG {w0 w : World} {T : World → (Nat → Prop) → Prop} {L : Locals} (h : Own w0 w T L) : ∃ F, T w F ∧ (∀ k, F k → w0.heap.size ≤ k ∧ k < w.heap.size) ∧ (∀ b o, L b = some o → ¬ F b ∧ w.heap[b]? = some o) ∧
    ∀ {w' : World} {T' : World → (Nat → Prop) → Prop} {F' : Nat → Prop}, T' w' F' → (∀ k, F' k → F k ∨ w.heap.size ≤ k) → (∀ k, F' k → k < w'.heap.size) → Chg F w w' →
      Own w0 w' T' L ∧ ∀ g o, w.heap.size ≤ g → ¬ F' g → w'.heap[g]? = some o → Own w0 w' T' (upd L g (some o)) := by
  obtain ⟨F, hT, hF, hb, hL⟩ := h
  refine ⟨F, hT, hF, fun b o ho => (hL b o ho).2, fun {w' T' F'} hT' h1 h2 hc => ?_⟩
  have hs := hb.size
  have hF' : ∀ k, F' k → w0.heap.size ≤ k ∧ k < w'.heap.size := fun k hk => by
    refine ⟨(h1 k hk).elim (fun h => (hF k h).1) (fun h => by omega), h2 k hk⟩
  have hb' : Below w0.heap.size w0 w' := hb.trans (hc.belowB hs (fun j hj h => by have := (hF j h).1; omega))
  have hL' : ∀ b o, L b = some o → w0.heap.size ≤ b ∧ ¬ F' b ∧ w'.heap[b]? = some o := fun b o ho => by
    obtain ⟨h3, h4, h5⟩ := hL b o ho
    have h6 := lt_of_heap h5
    exact ⟨h3, fun h => (h1 b h).elim h4 (fun h => by omega), (hc.block b h6 h4).trans h5⟩
  refine ⟨⟨F', hT', hF', hb', hL'⟩, fun g o hg hn ho => ⟨F', hT', hF', hb', fun b o' ho' => ?_⟩⟩
  by_cases e : b = g
  · subst e
    rw [upd_same] at ho'
    cases ho'
    exact ⟨by omega, hn, ho⟩
  · rw [upd_other _ e] at ho'
    exact hL' b o' ho'
end
end Go.Lz
namespace Go.Proofs.Ytbnoebdpbpjbkaa
open Go.RowKit Go.Lz
section
variable {w0 w : World} {p q pb pn pk n N cc m : Nat} {A A0 : Nodes} {a : NodeA} {L : Locals} {G : Nat → Prop}
/-- The store holds the nodes A; A0 were committed. -/
def TB (p q N : Nat) (A A0 : Nodes) (cc m : Nat) : World → (Nat → Prop) → Prop := fun w F => ∃ S g, StoreC Try.prog w p q S F ∧ BaseP S N g cc m A ∧ Done N g A0
theorem keepsTB (p q N : Nat) (A A0 : Nodes) (cc m : Nat) : Keeps (TB p q N A A0 cc m) := fun _ _ _ _ ⟨S, g, h, B, D⟩ hc hM => ⟨S, g, StoreC.chg h hc hM, B, D⟩
def baseObj (p pn pk N : Nat) : Obj := .cells #[Dptr p, Dptr pn, Dptr pk, .int .i64 ((N - 300 : Nat) : Int)] 136 (0, 0)
structure BaseL (L : Locals) (pb p pn pk N : Nat) : Prop where
  b : L pb = some (baseObj p pn pk N)
  n : L pn = some (mapObj p 0 64)
  k : L pk = some (mapObj p 1 (N - 300))
/-- Blocks that are the caller's, or local. -/
def Mine (w0 : World) (L : Locals) (k : Nat) : Prop := k < w0.heap.size ∨ ∃ o, L k = some o
theorem base6 (h : Own w0 w (TB p q N A A0 cc m) L) (hL : BaseL L pb p pn pk N) : ∃ F S g, BaseIn w pb p q pn pk S F ∧ BaseP S N g cc m A ∧ Done N g A0 ∧ (∀ k, Mine w0 L k → ¬ F k ∧ k < w.heap.size) ∧
    ∀ {w' : World} {F' : Nat → Prop} {S' : WalS} {g' : Nat → Bytes} {cc' m' : Nat} {A' A0' : Nodes}, BaseIn w' pb p q pn pk S' F' → (∀ k, F' k → F k ∨ w.heap.size ≤ k) → Chg F w w' → BaseP S' N g' cc' m' A' → Done N g' A0' →
      Own w0 w' (TB p q N A' A0' cc' m') L ∧ ∀ g o, w.heap.size ≤ g → ¬ F' g → w'.heap[g]? = some o → Own w0 w' (TB p q N A' A0' cc' m') (upd L g (some o)) := by
  have hs := h.size
  obtain ⟨F, ⟨S, g, hS, B, D⟩, hF, hl, hgo⟩ := h.stepG
  have hall : S.allB = N - 300 := by unfold WalS.allB; rw [B.kb.size]
  refine ⟨F, S, g, ⟨hS, ?_, (hl _ _ hL.n).2, ?_, (hl _ _ hL.b).1, (hl _ _ hL.n).1, (hl _ _ hL.k).1, by rw [B.kb.size]; exact B.big, B.kb.kp.isDead⟩, B, D, fun k hk => ?_, fun hB h1 hC B' D' => hgo ⟨_, _, hB.sto, B', D'⟩ h1 hB.sto.lt hC⟩
  · rw [hall]; exact (hl _ _ hL.b).2
  · rw [hall]; exact (hl _ _ hL.k).2
  · rcases hk with hk | ⟨o, hk⟩
    · exact ⟨fun h => by have := (hF k h).1; omega, by omega⟩
    · exact ⟨(hl k o hk).1, lt_of_heap (hl k o hk).2⟩
theorem make6_bad {vS vI : Value} {s l : List Int} {kind room : Int} (h : Own w0 w (TB p q N A A0 cc m) L) (hL : BaseL L pb p pn pk N) (hS : IntsAt w G vS s) (hI : IntsAt w G vI l) (hb : (kind ≠ 1 ∧ kind ≠ 2) ∨ (isSetB s && isSetB l) = false ∨ room < 0 ∨ 256 < room) :
    Calls Try.prog 85 #[Dptr pb, .int .i64 kind, .agg #[vS, vI], .int .i64 room] w (Did w0 w (TB p q N A A0 cc m) L (.tuple #[.int .i64 0, .int .i64 1])) := by
  obtain ⟨F, S, g, hB, B, D, _, hgo⟩ := base6 h hL
  refine (make_any hB hS hI kind room).mono ?_
  rw [BaseP.make_bad (S := S) hb]
  rintro e w' ⟨he, ⟨F', hB', hF'⟩, hC⟩
  exact ⟨he, (hgo hB' hF' hC B D).1, hC.size⟩
theorem make6_full {vS vI : Value} {s l : List Int} {kind room : Nat} (h : Own w0 w (TB p q N A A0 cc m) L) (hL : BaseL L pb p pn pk N) (hS : IntsAt w G vS s) (hI : IntsAt w G vI l) (hs : isSetB s = true) (hl : isSetB l = true) (hk : kind = 1 ∨ kind = 2) (hr : room ≤ 256) (hm : m + 4 ≤ 111) (hall : ∀ n, 1 ≤ n → n ≤ 64 → (A n).isSome = true) :
    Calls Try.prog 85 #[Dptr pb, .int .i64 (kind : Int), .agg #[vS, vI], .int .i64 (room : Int)] w (Did w0 w (TB p q N A A0 cc m) L (.tuple #[.int .i64 0, .int .i64 60])) := by
  obtain ⟨F, S, g, hB, B, D, _, hgo⟩ := base6 h hL
  refine (make_any hB hS hI kind room).mono ?_
  rcases B.make hs hl hk hr hm with ⟨_, e⟩ | ⟨n, S', h1, h2, h3, _⟩
  · rw [e]
    rintro e w' ⟨he, ⟨F', hB', hF'⟩, hC⟩
    exact ⟨he, (hgo hB' hF' hC B D).1, hC.size⟩
  · have := hall n h1 h2
    rw [h3] at this
    cases this
theorem make6_ok {vS vI : Value} {s l : List Int} {kind room : Nat} (h : Own w0 w (TB p q N A A0 cc m) L) (hL : BaseL L pb p pn pk N) (hS : IntsAt w G vS s) (hI : IntsAt w G vI l) (hs : isSetB s = true) (hl : isSetB l = true) (hk : kind = 1 ∨ kind = 2) (hr : room ≤ 256) (hm : m + 4 ≤ 111) (h1 : 1 ≤ n) (h2 : n ≤ 64) (h3 : A n = none) (h4 : ∀ n', 1 ≤ n' → n' < n → (A n').isSome = true) :
    Calls Try.prog 85 #[Dptr pb, .int .i64 (kind : Int), .agg #[vS, vI], .int .i64 (room : Int)] w (Did w0 w (TB p q N (upd A n (some ⟨kind, s, l, room, []⟩)) A0 cc (m + 4)) L (.tuple #[.int .i64 (n : Int), .int .i64 0])) := by
  obtain ⟨F, S, g, hB, B, D, _, hgo⟩ := base6 h hL
  refine (make_any hB hS hI kind room).mono ?_
  rcases B.make hs hl hk hr hm with ⟨hall, _⟩ | ⟨n', S', k1, k2, k3, k4, e, B'⟩
  · have := hall n h1 h2
    rw [h3] at this
    cases this
  · obtain rfl : n' = n := by
      rcases Nat.lt_trichotomy n' n with hlt | rfl | hlt
      · have := h4 n' k1 hlt; rw [k3] at this; cases this
      · rfl
      · have := k4 n h1 hlt; rw [h3] at this; cases this
    rw [e]
    rintro e w' ⟨he, ⟨F', hB', hF'⟩, hC⟩
    exact ⟨he, (hgo hB' hF' hC B' D).1, hC.size⟩
/-- A node's number is one that is there. -/
def IsN (A : Nodes) (z : Int) : Prop := 1 ≤ z ∧ (A z.toNat).isSome = true
theorem BaseP.nodeE_no {S : WalS} {g : Nat → Bytes} (B : BaseP S N g cc m A) {z : Int} (h : ¬ IsN A z) : S.nodeE z = 61 := by
  rw [B.nodeE]
  exact if_neg h
theorem BaseP.sizes {S : WalS} {g : Nat → Bytes} (B : BaseP S N g cc m A) {z : Int} (h : S.nodeE z = 0) : nSize (S.nodeB z.toNat) ≤ 55296 ∧ nRoom (S.nodeB z.toNat) ≤ 864 := by
  have h1 : IsN A z := by
    apply Classical.byContradiction
    intro hn
    rw [BaseP.nodeE_no B hn] at h
    cases h
  obtain ⟨a, ha⟩ := Option.isSome_iff_exists.1 h1.2
  have hd := B.node _ a ha
  have h2 := hd.ok.size
  have h3 := hd.ok.room
  omega
section
variable {data : Bytes} {ad : Option Addr} {cp Ln : Nat}
theorem write6_none {z : Int} {at' : Int} (h : Own w0 w (TB p q N A A0 cc m) L) (hL : BaseL L pb p pn pk N) (hl : Ln = data.length) (hv : data ≠ [] → Src 5 w G (.slice ad Ln cp) data) (hG : ∀ k, G k → Mine w0 L k) (hdl : Ln ≤ maxLen) (hz : ¬ IsN A z) :
    Calls Try.prog 86 #[Dptr pb, .int .i64 z, .int .i64 at', .slice ad Ln cp] w (Did w0 w (TB p q N A A0 cc m) L (.int .i64 61)) := by
  obtain ⟨F, S, g, hB, B, D, hM, hgo⟩ := base6 h hL
  refine (iwrite_any hB z at' hl hv (fun k hk => hM k (hG k hk)) (fun e => BaseP.sizes B e) hdl).mono ?_
  rw [B.write_none (by rw [BaseP.nodeE_no B hz]; decide)]
  rintro e w' ⟨he, ⟨F', hB', hF'⟩, hC⟩
  exact ⟨he, (hgo hB' hF' hC B D).1, hC.size⟩
theorem write6_neg {at' : Int} (h : Own w0 w (TB p q N A A0 cc m) L) (hL : BaseL L pb p pn pk N) (hl : Ln = data.length) (hv : data ≠ [] → Src 5 w G (.slice ad Ln cp) data) (hG : ∀ k, G k → Mine w0 L k) (hdl : Ln ≤ maxLen) (ha : A n = some a) (hn : at' < 0) :
    Calls Try.prog 86 #[Dptr pb, .int .i64 (n : Int), .int .i64 at', .slice ad Ln cp] w (Did w0 w (TB p q N A A0 cc m) L (.int .i64 1)) := by
  obtain ⟨F, S, g, hB, B, D, hM, hgo⟩ := base6 h hL
  refine (iwrite_any hB n at' hl hv (fun k hk => hM k (hG k hk)) (fun e => BaseP.sizes B e) hdl).mono ?_
  have e : S.writeN n at' data = (1, S) := by unfold WalS.writeN; rw [if_neg (by rw [B.nodeE_some ha]; decide), if_pos hn]
  rw [e]
  rintro e w' ⟨he, ⟨F', hB', hF'⟩, hC⟩
  exact ⟨he, (hgo hB' hF' hC B D).1, hC.size⟩
theorem write6_room {at' : Nat} (h : Own w0 w (TB p q N A A0 cc m) L) (hL : BaseL L pb p pn pk N) (hl : Ln = data.length) (hv : data ≠ [] → Src 5 w G (.slice ad Ln cp) data) (hG : ∀ k, G k → Mine w0 L k) (hdl : Ln ≤ maxLen) (ha : A n = some a) (hr : 64 * a.room < data.length ∨ 64 * a.room < at' + data.length) :
    Calls Try.prog 86 #[Dptr pb, .int .i64 (n : Int), .int .i64 (at' : Int), .slice ad Ln cp] w (Did w0 w (TB p q N A A0 cc m) L (.int .i64 72)) := by
  obtain ⟨F, S, g, hB, B, D, hM, hgo⟩ := base6 h hL
  refine (iwrite_any hB n at' hl hv (fun k hk => hM k (hG k hk)) (fun e => BaseP.sizes B e) hdl).mono ?_
  rw [B.write_room ha hr]
  rintro e w' ⟨he, ⟨F', hB', hF'⟩, hC⟩
  exact ⟨he, (hgo hB' hF' hC B D).1, hC.size⟩
theorem BaseP.writeN_in {S : WalS} {g : Nat → Bytes} (B : BaseP S N g cc m A) (ha : A n = some a) {at' : Nat} (hr : at' + data.length ≤ 64 * a.room) :
    S.writeN n at' data = if data = [] then (0, S) else if 6144 < at' + data.length - min at' a.data.length then (5, S) else S.writeB n (S.nodeB n) at' data := by
  have hd := B.node n a ha
  unfold WalS.writeN
  rw [if_neg (by rw [B.nodeE_some ha]; decide), if_neg (by omega), Int.toNat_natCast, Int.toNat_natCast, hd.room, hd.size, if_neg (by omega)]
theorem write6_empty {at' : Nat} (h : Own w0 w (TB p q N A A0 cc m) L) (hL : BaseL L pb p pn pk N) (hl : Ln = 0) (ha : A n = some a) (hr : at' ≤ 64 * a.room) :
    Calls Try.prog 86 #[Dptr pb, .int .i64 (n : Int), .int .i64 (at' : Int), .slice ad Ln cp] w (Did w0 w (TB p q N A A0 cc m) L (.int .i64 0)) := by
  obtain ⟨F, S, g, hB, B, D, hM, hgo⟩ := base6 h hL
  refine (iwrite_any (data := []) (G := fun _ => False) hB n at' hl (fun h => absurd rfl h) (fun k hk => hk.elim) (fun e => BaseP.sizes B e) (by rw [hl]; decide)).mono ?_
  rw [BaseP.writeN_in (data := []) B ha (by simpa using hr), if_pos rfl]
  rintro e w' ⟨he, ⟨F', hB', hF'⟩, hC⟩
  exact ⟨he, (hgo hB' hF' hC B D).1, hC.size⟩
theorem write6_big {at' : Nat} (h : Own w0 w (TB p q N A A0 cc m) L) (hL : BaseL L pb p pn pk N) (hl : Ln = data.length) (hv : data ≠ [] → Src 5 w G (.slice ad Ln cp) data) (hG : ∀ k, G k → Mine w0 L k) (hdl : Ln ≤ maxLen) (ha : A n = some a) (hr : at' + data.length ≤ 64 * a.room) (hne : data ≠ []) (hb : 6144 < at' + data.length - min at' a.data.length) :
    Calls Try.prog 86 #[Dptr pb, .int .i64 (n : Int), .int .i64 (at' : Int), .slice ad Ln cp] w (Did w0 w (TB p q N A A0 cc m) L (.int .i64 5)) := by
  obtain ⟨F, S, g, hB, B, D, hM, hgo⟩ := base6 h hL
  refine (iwrite_any hB n at' hl hv (fun k hk => hM k (hG k hk)) (fun e => BaseP.sizes B e) hdl).mono ?_
  rw [BaseP.writeN_in B ha hr, if_neg hne, if_pos hb]
  rintro e w' ⟨he, ⟨F', hB', hF'⟩, hC⟩
  exact ⟨he, (hgo hB' hF' hC B D).1, hC.size⟩
/-- There is room for it. -/
theorem write6_ok {at' : Nat} (h : Own w0 w (TB p q N A A0 cc m) L) (hL : BaseL L pb p pn pk N) (hl : Ln = data.length) (hv : data ≠ [] → Src 5 w G (.slice ad Ln cp) data) (hG : ∀ k, G k → Mine w0 L k) (hdl : Ln ≤ maxLen) (ha : A n = some a) (hr : at' + data.length ≤ 64 * a.room) (hne : data ≠ []) (hb : at' + data.length - min at' a.data.length ≤ 6144) (hm : m ≤ 5) (hfit : allOf A + withN (cntN (at' + data.length)) ≤ N - 300) :
    Calls Try.prog 86 #[Dptr pb, .int .i64 (n : Int), .int .i64 (at' : Int), .slice ad Ln cp] w (Did w0 w (TB p q N (upd A n (some { a with data := wrB a.data at' data })) A0 cc (m + 106)) L (.int .i64 0)) := by
  obtain ⟨F, S, g, hB, B, D, hM, hgo⟩ := base6 h hL
  refine (iwrite_any hB n at' hl hv (fun k hk => hM k (hG k hk)) (fun e => BaseP.sizes B e) hdl).mono ?_
  rcases B.write_ok ha hr hne hb hm with ⟨hf, _⟩ | ⟨S', e, B'⟩
  · have := B.free
    omega
  · rw [e]
    rintro e w' ⟨he, ⟨F', hB', hF'⟩, hC⟩
    exact ⟨he, (hgo hB' hF' hC B' D).1, hC.size⟩
end
/-- Bytes that a call hands back: none, or a row that is a local block then. -/
def OutO (w0 w w' : World) (T : World → (Nat → Prop) → Prop) (L : Locals) (v : Value) (out : Bytes) : Prop :=
  (out = [] ∧ v = .slice none 0 0 ∧ Own w0 w' T L) ∨ ∃ g o, BufO 5 g o v out ∧ w.heap.size ≤ g ∧ Own w0 w' T (upd L g (some o))
theorem OutO.own {w' : World} {T : World → (Nat → Prop) → Prop} {v : Value} {out : Bytes} (h : OutO w0 w w' T L v out) (hw : Own w0 w T L) : Own w0 w' T L := by
  rcases h with ⟨_, _, h⟩ | ⟨g, o, _, hg, h⟩
  · exact h
  · exact h.drop (hw.none_ hg)
def RDid (w0 w : World) (T : World → (Nat → Prop) → Prop) (L : Locals) (out : Bytes) (er : Int) (e : Ending) (w' : World) : Prop :=
  ∃ v, e = .returned (.tuple #[v, .int .i64 er]) ∧ OutO w0 w w' T L v out ∧ w.heap.size ≤ w'.heap.size
theorem iread6 {z at' k : Int} {er : Int} {out : Bytes} (h : Own w0 w (TB p q N A A0 cc m) L) (hL : BaseL L pb p pn pk N) (hr : ∀ S g, BaseP S N g cc m A → S.readN z at' k = (er, out)) :
    Calls Try.prog 87 #[Dptr pb, .int .i64 z, .int .i64 at', .int .i64 k] w (RDid w0 w (TB p q N A A0 cc m) L out er) := by
  obtain ⟨F, S, g, hB, B, D, hM, hgo⟩ := base6 h hL
  refine (iread_any hB z at' k (fun e => (BaseP.sizes B e).1)).mono ?_
  rintro e w' ⟨F', v, ⟨hB', hF', hC⟩, he, ho⟩
  rw [hr S g B] at he ho
  obtain ⟨h1, h2⟩ := hgo hB' hF' hC B D
  refine ⟨v, he, ?_, hC.size⟩
  rcases ho with ⟨e1, e2⟩ | ⟨gg, hd, hg, hn⟩
  · exact .inl ⟨e1, e2, h1⟩
  · obtain ⟨g', rfl, hbuf⟩ := hd.buf
    obtain ⟨o, ho, hbo⟩ := hbuf.bufO
    exact .inr ⟨_, o, hbo, hg, h2 _ o hg hn ho⟩
theorem read6_none {z at' k : Int} (h : Own w0 w (TB p q N A A0 cc m) L) (hL : BaseL L pb p pn pk N) (hz : ¬ IsN A z) : Calls Try.prog 87 #[Dptr pb, .int .i64 z, .int .i64 at', .int .i64 k] w (RDid w0 w (TB p q N A A0 cc m) L [] 61) :=
  iread6 h hL fun S g B => by unfold WalS.readN; rw [BaseP.nodeE_no B hz, if_pos (by decide)]
theorem read6_neg {at' k : Int} (h : Own w0 w (TB p q N A A0 cc m) L) (hL : BaseL L pb p pn pk N) (ha : A n = some a) (hn : at' < 0 ∨ k < 0) : Calls Try.prog 87 #[Dptr pb, .int .i64 (n : Int), .int .i64 at', .int .i64 k] w (RDid w0 w (TB p q N A A0 cc m) L [] 1) :=
  iread6 h hL fun S g B => by unfold WalS.readN; rw [B.nodeE_some ha, if_neg (by decide), if_pos hn]
theorem read6_ok {at' k : Nat} (h : Own w0 w (TB p q N A A0 cc m) L) (hL : BaseL L pb p pn pk N) (ha : A n = some a) : Calls Try.prog 87 #[Dptr pb, .int .i64 (n : Int), .int .i64 (at' : Int), .int .i64 (k : Int)] w (RDid w0 w (TB p q N A A0 cc m) L ((a.data.drop (min at' a.data.length)).take k) 0) :=
  iread6 h hL fun _ _ B => B.readN ha
theorem commit6 (h : Own w0 w (TB p q N A A0 cc m) L) (hc : cc < 1000000) : Calls Try.prog 42 #[Dptr p] w (Did w0 w (TB p q N A A (cc + 1) 0) L (.int .i64 0)) := by
  obtain ⟨F, ⟨S, g, ⟨c, hS⟩, B, D⟩, hF, hl, hgo⟩ := h.stepG
  have B1 := B.wc c
  obtain ⟨e0, B2⟩ := B1.commit hc
  refine (commit_any hS).mono ?_
  rintro e w' ⟨he, h1, h2⟩
  rw [e0] at he
  exact ⟨he, (hgo (T' := TB p q N A A (cc + 1) 0) ⟨_, _, h1.toC, B2, B1.done⟩ (fun k hk => hk.elim .inl fun h => .inr h.1) (fun k hk => h1.toC.lt k hk) h2).1, h2.size⟩
theorem abort6 (h : Own w0 w (TB p q N A A0 cc m) L) : Calls Try.prog 48 #[Dptr p] w (Did w0 w (TB p q N A0 A0 cc 0) L (.tuple #[])) := by
  obtain ⟨F, ⟨S, g, ⟨c, hS⟩, B, D⟩, hF, hl, hgo⟩ := h.stepG
  have B1 := B.wc c
  have B2 := B1.aborted D
  refine (abort_any hS).mono ?_
  rintro e w' ⟨he, h1, h2⟩
  exact ⟨he, (hgo (T' := TB p q N A0 A0 cc 0) ⟨_, _, h1.toC, B2, D⟩ (fun k hk => hk.elim .inl fun h => .inr h.1) (fun k hk => h1.toC.lt k hk) h2).1, h2.size⟩
theorem blocks6 (h : Own w0 w (TB p q N A A0 cc m) L) (hL : BaseL L pb p pn pk N) : Calls Try.prog 120 #[Dptr pb] w (Did w0 w (TB p q N A A0 cc m) L (.tuple #[.int .i64 ((N - 300 - allOf A : Nat) : Int), .int .i64 ((N - 300 : Nat) : Int)])) := by
  obtain ⟨F, S, g, hB, B, D, hM, hgo⟩ := base6 h hL
  refine (blocks_any hB).mono ?_
  rintro e w' ⟨he, ⟨F', hB', hF'⟩, hC⟩
  have h1 : S.freeB = N - 300 - allOf A := by have := B.free; omega
  have h2 : S.allB = N - 300 := by unfold WalS.allB; rw [B.kb.size]
  rw [h1, h2] at he
  exact ⟨he, (hgo hB' hF' hC B D).1, hC.size⟩
end
end Go.Proofs.Ytbnoebdpbpjbkaa
/-
  A base's calls: Check.
-/
namespace Go.Lz
open Go.RowKit Go.Proofs.Ytbnoebdpbpjbkaa
/-- Numbers in cells. -/
abbrev natsV (n : Nat) (u : Nat → Nat) : Array Value := vec n fun k => .int .i64 (u k : Int)
theorem natsV_set (n : Nat) (u : Nat → Nat) (k x : Nat) : (natsV n u).setIfInBounds k (.int .i64 (x : Int)) = natsV n (upd u k x) := by
  rw [vec_set]
  apply vec_congr
  intro j _
  by_cases e : j = k
  · subst e; simp
  · rw [upd_other _ e, upd_other _ e]
end Go.Lz
namespace Go.Proofs.Ytbnoebdpbpjbkaa
open Go.RowKit Go.Lz
section
variable {w w0 : World} {pb p q pn pk px gb cap n q1 q3 gu : Nat} {S : WalS} {Fs : Nat → Prop} {b : Bytes} {u : Nat → Nat}
theorem mknats (W : World) (n : Nat) (hn : n ≤ 100000) : (Instr.makeSlice 22 (.int .i64 (n : Int)) (.int .i64 (n : Int))).run Try.prog W = .ok (.slice (some ⟨W.heap.size, 0, none⟩) n n) (W.alloc (.cells (natsV n fun _ => 0) 3)) := by
  have h : (Try.prog.info? 3).map (fun i => (i.zero, i.size, i.bytes)) = some (some (.int .i64 0), 1, 8) := by kernel_rfl
  obtain ⟨i, hi, hz, hs, hb⟩ := info_parts h
  exact make_one Try.underlying22 hi hz hs rfl W n (by rw [hb]; omega) (by omega)
set_option maxHeartbeats 2000000 in
set_option maxRecDepth 100000 in
theorem use_any {all k : Nat} (c1 : w.cell? ⟨q1, 0, none⟩ = some (Dptr pb)) (c3 : w.cell? ⟨pb, 3, none⟩ = some (.int .i64 (all : Int))) (cq : w.heap[q3]? = some (.cells #[.slice (some ⟨gu, 0, none⟩) (all + 1) (all + 1)] 22 (0, 0))) (cg : w.heap[gu]? = some (.cells (natsV (all + 1) u) 3 (0, 0))) (hk : 1 ≤ k ∧ k ≤ all) (hu : u k = 0) (hne : q3 ≠ gu) :
    Calls Try.prog 108 #[.int .i64 (k : Int), .pointer (some ⟨q1, 0, none⟩), .pointer (some ⟨q3, 0, none⟩)] w fun e w' => e = .returned (.bool true) ∧ w'.heap[gu]? = some (.cells (natsV (all + 1) (upd u k 1)) 3 (0, 0)) ∧ Chg (· = gu) w w' := by
  have cu : w.cell? ⟨q3, 0, none⟩ = some (.slice (some ⟨gu, 0, none⟩) (all + 1) (all + 1)) := cell_of cq 0
  have ck : w.cell? ⟨gu, k, none⟩ = some (.int .i64 0) := by
    rw [cell_of cg, vec_at _ (by omega), hu]; rfl
  have fk : w.frozen? ⟨gu, k, none⟩ = false := frozen_of cg k
  have k1 : k < all + 1 := by omega
  have n1 : ¬ (k : Int) < 1 := by omega
  have n2 : ¬ (all : Int) < (k : Int) := by omega
  have cu2 : (w.setCell ⟨gu, k, none⟩ (.int .i64 1)).cell? ⟨q3, 0, none⟩ = some (.slice (some ⟨gu, 0, none⟩) (all + 1) (all + 1)) := cell_of ((heap_set_other hne _).trans cq) 0
  have cgH : Hid _ := Lib.hid cg
  go_enter Try.func108, Try.ntmps108
  go_wp2_with fail
  go_ret
  have h2 := (Chg.refl (· = gu) w).own k (.int .i64 1)
  refine ⟨rfl, ?_, h2⟩
  rw [heap_set_same cgH.out k, ← natsV_set]
  rfl
end
end Go.Proofs.Ytbnoebdpbpjbkaa
/-
  A base's calls: Check.
-/
namespace Go.Proofs.Ytbnoebdpbpjbkaa
open Go.RowKit Go.Lz
section
variable {w w0 : World} {pb p q pn pk px gb cap n q1 q3 gu all : Nat} {S : WalS} {Fs G G' : Nat → Prop} {b : Bytes} {u : Nat → Nat}
/-- While all is checked: the base, who uses which block so far (u); G: blocks that nobody else changes. -/
structure CSt (w0 w : World) (pb p q pn pk q1 q3 gu all : Nat) (S : WalS) (Fs G : Nat → Prop) (u : Nat → Nat) : Prop where
  st : ∃ F, BaseIn w pb p q pn pk S F ∧ (∀ k, F k → Fs k ∨ w0.heap.size ≤ k) ∧ ∀ k, G k → ¬ F k ∧ k < w.heap.size
  gs : G q1 ∧ G q3 ∧ G gu
  b1 : w.heap[q1]? = some (.cells #[Dptr pb] 106 (0, 0))
  b3 : w.heap[q3]? = some (.cells #[.slice (some ⟨gu, 0, none⟩) (all + 1) (all + 1)] 22 (0, 0))
  bg : w.heap[gu]? = some (.cells (natsV (all + 1) u) 3 (0, 0))
  chg : Chg Fs w0 w
  le : w0.heap.size ≤ gu
  ne : q1 ≠ gu ∧ q3 ≠ gu
  old : pb < w0.heap.size ∧ pn < w0.heap.size ∧ pk < w0.heap.size
theorem CSt.c1 (h : CSt w0 w pb p q pn pk q1 q3 gu all S Fs G u) : w.cell? ⟨q1, 0, none⟩ = some (Dptr pb) := cell_of h.b1 0
theorem CSt.c3 (h : CSt w0 w pb p q pn pk q1 q3 gu all S Fs G u) : w.cell? ⟨q3, 0, none⟩ = some (.slice (some ⟨gu, 0, none⟩) (all + 1) (all + 1)) := cell_of h.b3 0
theorem CSt.cb (h : CSt w0 w pb p q pn pk q1 q3 gu all S Fs G u) : w.cell? ⟨pb, 3, none⟩ = some (.int .i64 (S.allB : Int)) := by
  obtain ⟨⟨F, hB, _⟩, _⟩ := h
  exact hB.c3
theorem CSt.cK (h : CSt w0 w pb p q pn pk q1 q3 gu all S Fs G u) : w.cell? ⟨pb, 2, none⟩ = some (Dptr pk) := by
  obtain ⟨⟨F, hB, _⟩, _⟩ := h
  exact hB.c2
theorem CSt.less (h : CSt w0 w pb p q pn pk q1 q3 gu all S Fs G u) (hG : ∀ k, G' k → G k) (hs : G' q1 ∧ G' q3 ∧ G' gu) : CSt w0 w pb p q pn pk q1 q3 gu all S Fs G' u := by
  obtain ⟨⟨F, hB, hF, hk⟩, _, h2, h3, h4, h5, h6, h7, h8⟩ := h
  exact ⟨⟨F, hB, hF, fun k e => hk k (hG k e)⟩, hs, h2, h3, h4, h5, h6, h7, h8⟩
/-- The base goes on, all of it in F. -/
theorem CSt.on {w' : World} {F F2 : Nat → Prop} (h : CSt w0 w pb p q pn pk q1 q3 gu all S Fs G u) (hF : ∀ k, F k → Fs k ∨ w0.heap.size ≤ k) (hk : ∀ k, G k → ¬ F k ∧ k < w.heap.size) (hB2 : BaseIn w' pb p q pn pk S F2) (hF2 : ∀ k, F2 k → F k ∨ w.heap.size ≤ k) (hC2 : Chg F w w') : CSt w0 w' pb p q pn pk q1 q3 gu all S Fs G u := by
  obtain ⟨_, hs, h2, h3, h4, h5, h6, h7, h8⟩ := h
  refine ⟨⟨F2, hB2, fun k e => (hF2 k e).elim (hF k) (fun h => .inr (Nat.le_trans h5.size h)), fun k e => ⟨fun e2 => (hF2 k e2).elim (hk k e).1 (fun h => by have := (hk k e).2; omega), Nat.lt_of_lt_of_le (hk k e).2 hC2.size⟩⟩, hs, (hC2.block _ (hk _ hs.1).2 (hk _ hs.1).1).trans h2, (hC2.block _ (hk _ hs.2.1).2 (hk _ hs.2.1).1).trans h3, (hC2.block _ (hk _ hs.2.2).2 (hk _ hs.2.2).1).trans h4, h5.trans hC2 (fun k hk2 h => (hF k h).elim id (fun h => by omega)), h6, h7, h8⟩
/-- A call on the base. -/
theorem CSt.base {f : FuncId} {args : Array Value} {v : Value} {Q : Ending → World → Prop} (h : CSt w0 w pb p q pn pk q1 q3 gu all S Fs G u) (hc : ∀ F', BaseIn w pb p q pn pk S F' → Calls Try.prog f args w (BDid w pb p q pn pk S F' v)) (hQ : ∀ w', CSt w0 w' pb p q pn pk q1 q3 gu all S Fs G u → Chg (fun k => ¬ G k) w w' → Q (.returned v) w') : Calls Try.prog f args w Q := by
  have h' := h
  obtain ⟨⟨F, hB, hF, hk⟩, _⟩ := h'
  refine (hc F hB).mono ?_
  rintro e w' ⟨rfl, ⟨F2, hB2, hF2⟩, hC2⟩
  exact hQ w' (h.on hF hk hB2 hF2 hC2) (hC2.mono (fun k _ e e2 => (hk k e2).1 e))
/-- A block is used. -/
theorem CSt.use {Q : Ending → World → Prop} {k : Nat} (h : CSt w0 w pb p q pn pk q1 q3 gu all S Fs G u) (ha : S.allB = all) (hk : 1 ≤ k ∧ k ≤ all) (hu : u k = 0) (hQ : ∀ w', CSt w0 w' pb p q pn pk q1 q3 gu all S Fs G (upd u k 1) → Chg (· = gu) w w' → Q (.returned (.bool true)) w') : Calls Try.prog 108 #[.int .i64 (k : Int), .pointer (some ⟨q1, 0, none⟩), .pointer (some ⟨q3, 0, none⟩)] w Q := by
  have cb := h.cb
  rw [ha] at cb
  refine (use_any h.c1 cb h.b3 h.bg hk hu h.ne.2).mono ?_
  rintro e w' ⟨rfl, hg2, hC⟩
  obtain ⟨⟨F, hB, hF, hk⟩, hs, h2, h3, h4, h5, h6, h7, h8⟩ := h
  refine hQ w' ⟨⟨F, hB.chg hC (fun k e e2 => ?_), hF, fun k e => ⟨(hk k e).1, Nat.lt_of_lt_of_le (hk k e).2 hC.size⟩⟩, hs, (hC.block _ (lt_of_heap h2) h7.1).trans h2, (hC.block _ (lt_of_heap h3) h7.2).trans h3, hg2, h5.trans hC (fun k h8 e => by omega), h6, h7, h8⟩ hC
  have e2 : k = gu := e2
  subst e2
  rcases e with e | e | e | e
  · exact (hk _ hs.2.2).1 e
  · omega
  · omega
  · omega
/-- A node is loaded. -/
theorem CSt.load {Q : Ending → World → Prop} {z : Int} (h : CSt w0 w pb p q pn pk q1 q3 gu all S Fs G u) (hE : S.nodeE z = 0) (hQ : ∀ w' px gb cap, CSt w0 w' pb p q pn pk q1 q3 gu all S Fs (fun k => G k ∨ k = px ∨ k = gb) u → NodeAt w' px gb cap z.toNat (S.nodeB z.toNat) → px ≠ gu → gb ≠ gu → Chg (fun k => ¬ G k) w w' → Q (.returned (.tuple #[Dptr px, .int .i64 0])) w') : Calls Try.prog 101 #[Dptr pb, .int .i64 z] w Q := by
  have h' := h
  obtain ⟨⟨F, hB, hF, hk⟩, hs, _⟩ := h'
  refine (load_yes hB hE).mono ?_
  rintro e w' ⟨px, gb, cap, rfl, hB2, hC2, hx, h1, h2, h3, h4⟩
  have hgu := (hk _ hs.2.2).2
  have h9 := h.on hF hk hB2 (fun k e => .inl e) hC2
  have hlx := hx.raw.2.2.2.1
  have hlg := hx.raw.2.2.1
  refine hQ w' px gb cap ⟨⟨F, hB2, hF, fun k e => ?_⟩, ⟨.inl hs.1, .inl hs.2.1, .inl hs.2.2⟩, h9.b1, h9.b3, h9.bg, h9.chg, h9.le, h9.ne, h9.old⟩ hx (by omega) (by omega) (hC2.mono (fun k _ e e2 => (hk k e2).1 e))
  rcases e with e | rfl | rfl
  · exact ⟨(hk k e).1, Nat.lt_of_lt_of_le (hk k e).2 hC2.size⟩
  · exact ⟨h3, hlx⟩
  · exact ⟨h4, hlg⟩
/-- Something new is made. -/
theorem CSt.below {w' : World} (h : CSt w0 w pb p q pn pk q1 q3 gu all S Fs G u) (hb : Below w.heap.size w w') : CSt w0 w' pb p q pn pk q1 q3 gu all S Fs G u := by
  have h' := h
  obtain ⟨⟨F, hB, hF, hk⟩, _⟩ := h'
  exact h.on hF hk (hB.below hb) (fun k e => .inl e) (Chg.of_below hb)
end
end Go.Proofs.Ytbnoebdpbpjbkaa
/-
  A base's calls: what Check counts, plain.
-/
namespace Go.Lz
open Go.RowKit Go.Proofs.Ytbnoebdpbpjbkaa
/-- How often a block was seen: the nodes P are done, of node n the first i blocks and their lists. -/
def usedU (o : Owner) (P : List Int) (n i k : Nat) : Nat := match o k with
  | none => 0
  | some (n', x) => if (n' : Int) ∈ P ∨ (n' = n ∧ (x < i ∨ (1000 ≤ x ∧ x < 1000 + nlN i))) then 1 else 0
/-- Of node n's next block the list is seen too. -/
def usedL (o : Owner) (P : List Int) (n i k : Nat) : Nat := match o k with
  | none => 0
  | some (n', x) => if (n' : Int) ∈ P ∨ (n' = n ∧ (x < i ∨ (1000 ≤ x ∧ x < 1000 + nlN (i + 1)))) then 1 else 0
section
variable {S : WalS} {N cc m n i k : Nat} {g : Nat → Bytes} {o : Owner} {on : Nat → Bool} {nb : Nat → Bytes} {c : Nat → Nat} {X : Nat → Nat → UInt8} {P : List Int}
theorem usedU_some {n' x : Nat} (h : o k = some (n', x)) : usedU o P n i k = if (n' : Int) ∈ P ∨ (n' = n ∧ (x < i ∨ (1000 ≤ x ∧ x < 1000 + nlN i))) then 1 else 0 := by unfold usedU; rw [h]
theorem usedU_none (h : o k = none) : usedU o P n i k = 0 := by unfold usedU; rw [h]
theorem usedL_some {n' x : Nat} (h : o k = some (n', x)) : usedL o P n i k = if (n' : Int) ∈ P ∨ (n' = n ∧ (x < i ∨ (1000 ≤ x ∧ x < 1000 + nlN (i + 1)))) then 1 else 0 := by unfold usedL; rw [h]
theorem usedL_none (h : o k = none) : usedL o P n i k = 0 := by unfold usedL; rw [h]
theorem usedL_old (h : ¬ (32 ≤ i ∧ (i - 32) % 32 = 0)) : usedL o P n i = usedU o P n i := by
  have := nlN_succ i
  rw [if_neg h] at this
  funext k
  unfold usedL usedU
  rw [this]
theorem usedU_start : usedU o [] n 0 = fun _ => 0 := by
  funext k
  cases h : o k with
  | none => exact usedU_none h
  | some y =>
    obtain ⟨n', x⟩ := y
    have h0 : nlN 0 = 0 := by decide
    rw [usedU_some h, if_neg]
    rintro (h | ⟨_, h | h⟩)
    · cases h
    · omega
    · omega
theorem usedU_any (n n2 : Nat) : usedU o P n 0 = usedU o P n2 0 := by
  have h0 : nlN 0 = 0 := by decide
  funext k
  cases h : o k with
  | none => rw [usedU_none h, usedU_none h]
  | some y =>
    obtain ⟨n', x⟩ := y
    rw [usedU_some h, usedU_some h, h0]
    by_cases hp : (n' : Int) ∈ P
    · rw [if_pos (.inl hp), if_pos (.inl hp)]
    · rw [if_neg (by rintro (h | ⟨_, h | h⟩); exact hp h; omega; omega), if_neg (by rintro (h | ⟨_, h | h⟩); exact hp h; omega; omega)]
/-- A list is seen. -/
theorem usedL_new (R : Ready S N on nb c o X) (hi : i < c n) (h32 : 32 ≤ i) (hm : (i - 32) % 32 = 0) (hP : (n : Int) ∉ P) : usedU o P n i (ent (nb n) (32 + (i - 32) / 32)) = 0 ∧ usedL o P n i = upd (usedU o P n i) (ent (nb n) (32 + (i - 32) / 32)) 1 := by
  have hj := nlN_at h32 hi
  obtain ⟨_, ho⟩ := R.lay.lst n _ hj
  have hnl := nlN_new hm
  have hs := nlN_succ i
  rw [if_pos ⟨h32, hm⟩] at hs
  have hc := R.lay.cle n
  refine ⟨?_, ?_⟩
  · rw [usedU_some ho, if_neg]
    rintro (h | ⟨_, h | h⟩)
    · exact hP h
    · omega
    · omega
  · funext k
    by_cases e : k = ent (nb n) (32 + (i - 32) / 32)
    · subst e
      rw [upd_same, usedL_some ho, if_pos (.inr ⟨rfl, by omega⟩)]
    · rw [upd_other _ e]
      cases h : o k with
      | none => rw [usedU_none h, usedL_none h]
      | some y =>
        obtain ⟨n', x⟩ := y
        rw [usedU_some h, usedL_some h]
        by_cases h2 : (n' : Int) ∈ P ∨ (n' = n ∧ (x < i ∨ (1000 ≤ x ∧ x < 1000 + nlN i)))
        · rw [if_pos h2, if_pos (h2.imp id fun h => ⟨h.1, by omega⟩)]
        · rw [if_neg h2, if_neg]
          rintro (h3 | ⟨rfl, h3⟩)
          · exact h2 (.inl h3)
          · by_cases h4 : x = 1000 + nlN i
            · rcases R.lay.rev k n' x h with ⟨h5, _⟩ | ⟨j, h5, h6, h7⟩
              · omega
              · have : j = (i - 32) / 32 := by omega
                rw [this] at h7
                exact e h7.symm
            · exact h2 (.inr ⟨rfl, by omega⟩)
/-- A block is seen. -/
theorem usedU_next (R : Ready S N on nb c o X) (hi : i < c n) (hP : (n : Int) ∉ P) : usedL o P n i (blkG S.get (nb n) i) = 0 ∧ usedU o P n (i + 1) = upd (usedL o P n i) (blkG S.get (nb n) i) 1 := by
  obtain ⟨_, _, ho⟩ := R.lay.blk n i hi
  have hc := R.lay.cle n
  refine ⟨?_, ?_⟩
  · rw [usedL_some ho, if_neg]
    rintro (h | ⟨_, h | h⟩)
    · exact hP h
    · omega
    · omega
  · funext k
    by_cases e : k = blkG S.get (nb n) i
    · subst e
      rw [upd_same, usedU_some ho, if_pos (.inr ⟨rfl, by omega⟩)]
    · rw [upd_other _ e]
      cases h : o k with
      | none => rw [usedU_none h, usedL_none h]
      | some y =>
        obtain ⟨n', x⟩ := y
        rw [usedU_some h, usedL_some h]
        by_cases h2 : (n' : Int) ∈ P ∨ (n' = n ∧ (x < i ∨ (1000 ≤ x ∧ x < 1000 + nlN (i + 1))))
        · rw [if_pos h2, if_pos (h2.imp id fun h => ⟨h.1, by omega⟩)]
        · rw [if_neg h2, if_neg]
          rintro (h3 | ⟨rfl, h3⟩)
          · exact h2 (.inl h3)
          · by_cases h4 : x = i
            · subst h4
              rcases R.lay.rev k n' x h with ⟨h5, h6⟩ | ⟨j, h5, h6, h7⟩
              · exact e h6.symm
              · omega
            · exact h2 (.inr ⟨rfl, by omega⟩)
/-- A node is done. -/
theorem usedU_done (R : Ready S N on nb c o X) (n2 : Nat) : usedU o P n (c n) = usedU o (P ++ [(n : Int)]) n2 0 := by
  have h0 : nlN 0 = 0 := by decide
  funext k
  cases h : o k with
  | none => rw [usedU_none h, usedU_none h]
  | some y =>
    obtain ⟨n', x⟩ := y
    rw [usedU_some h, usedU_some h]
    by_cases h2 : (n' : Int) ∈ P ∨ n' = n
    · rw [if_pos, if_pos (.inl (by
        rcases h2 with h2 | h2
        · exact List.mem_append_left _ h2
        · rw [h2]; exact List.mem_append_right _ (List.mem_singleton.2 rfl)))]
      rcases h2 with h2 | rfl
      · exact .inl h2
      · refine .inr ⟨rfl, ?_⟩
        rcases R.lay.rev k n' x h with ⟨h5, h6⟩ | ⟨j, h5, h6, h7⟩
        · exact .inl h5
        · exact .inr (by omega)
    · rw [if_neg, if_neg]
      · rintro (h3 | ⟨_, h3⟩)
        · rcases List.mem_append.1 h3 with h3 | h3
          · exact h2 (.inl h3)
          · exact h2 (.inr (by have := List.mem_singleton.1 h3; omega))
        · omega
      · rintro (h3 | ⟨h3, _⟩)
        · exact h2 (.inl h3)
        · exact h2 (.inr h3)
/-- All nodes are done. -/
theorem usedU_all (R : Ready S N on nb c o X) (hP : ∀ n', 0 < c n' → (n' : Int) ∈ P) (n k : Nat) : usedU o P n 0 k = if (o k).isSome then 1 else 0 := by
  cases h : o k with
  | none => rw [usedU_none h]; rfl
  | some y =>
    obtain ⟨n', x⟩ := y
    have h0 : nlN 0 = 0 := by decide
    rw [usedU_some h, if_pos (.inl (hP n' (by
      rcases R.lay.rev k n' x h with ⟨h5, h6⟩ | ⟨j, h5, h6, h7⟩
      · omega
      · refine Nat.pos_of_ne_zero fun e => ?_
        rw [e, h0] at h5
        omega)))]
    rfl
end
end Go.Lz
/-
  A base's calls: Check.
-/
namespace Go.Proofs.Ytbnoebdpbpjbkaa
open Go.RowKit Go.Lz
section
variable {w w0 : World} {pb p q pn pk px gb cap n q1 q3 gu all N cc m : Nat} {S : WalS} {Fs G G' : Nat → Prop} {b : Bytes} {u : Nat → Nat} {A : Nodes} {g : Nat → Bytes} {o : Owner}
theorem mem_nodesL (B : BaseP S N g cc m A) {z : Int} : z ∈ S.nodesL ↔ ∃ n : Nat, z = (n : Int) ∧ (A n).isSome = true := by
  unfold WalS.nodesL WalS.nodesF
  rw [List.mem_map]
  constructor
  · rintro ⟨k, hk, rfl⟩
    obtain ⟨h1, h2⟩ := List.mem_filter.1 hk
    have h3 : k < 64 := by simpa using h1
    exact ⟨k + 1, by omega, by rw [← B.bit (k + 1) (by omega) (by omega)]; exact h2⟩
  · rintro ⟨n, rfl, h⟩
    have := B.dom n h
    refine ⟨n - 1, List.mem_filter.2 ⟨by simp; omega, ?_⟩, by omega⟩
    rw [B.bit n this.1 this.2]
    exact h
theorem nodesL_nodup (S : WalS) : S.nodesL.Nodup := by
  unfold WalS.nodesL WalS.nodesF
  refine List.Pairwise.map (S := fun a b => a ≠ b) _ (fun a b (h : a ≠ b) => by omega) (List.Pairwise.filter _ ?_)
  exact List.nodup_range
end
end Go.Proofs.Ytbnoebdpbpjbkaa
