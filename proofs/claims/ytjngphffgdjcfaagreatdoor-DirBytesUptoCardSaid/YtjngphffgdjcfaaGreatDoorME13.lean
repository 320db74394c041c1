/-
  The texts InB InC Lb1 Lb2 Lb3 InD, one behind the other.
-/
import Derived.Test.YtjngphffgdjcfaaGreatDoorME12
import Derived.Laws.CopyOwn
import Derived.Deep.LoopGhost
import Derived.BigQuiet
import Derived.Deep.QuietTactic
/-
  A base's calls: bytes of a node are written, piece by piece.
-/
namespace Go.Lz
open Go.RowKit Go.Proofs.YtjngphffgdjcfaaGreatDoor
/-- A piece is written. -/
def writeStep (S : WalS) (p : Bytes) (sec at' m : Nat) : Int × WalS × Bytes :=
  if S.size ≤ sec then (1, S, p) else ((S.write (sec : Int) (splice (S.get sec) at' (p.take m))).1, (S.write (sec : Int) (splice (S.get sec) at' (p.take m))).2, p.drop m)
end Go.Lz
namespace Go.Proofs.YtjngphffgdjcfaaGreatDoor
open Go.RowKit Go.Lz
section
variable {w w0 w' : World} {pb p q pn pk px gb cap n q4 po : Nat} {S S' : WalS} {Fs G : Nat → Prop} {b rest : Bytes}
theorem Src.tail {tS : TypeId} {w : World} {g off m cap : Nat} {G : Nat → Prop} {b : Bytes} (h : Src tS w G (.slice (some ⟨g, off, none⟩) m cap) b) {k : Nat} (hk : k ≤ m) : Src tS w G (.slice (if cap = k then some ⟨g, off, none⟩ else some ⟨g, off + k, none⟩) (m - k) (cap - k)) (b.drop k) := by
  obtain ⟨g', off', cap', cur, fr, h1, h2, h3, h4, h5, h6⟩ := h
  injection h1 with e1 e2 e3
  injection e1 with e1
  injection e1 with ea eb
  subst ea eb e3
  have hl : (b.drop k).length = m - k := by rw [List.length_drop]; omega
  have key : ∀ o, (cap = k ∨ o = off + k) → Src tS w G (.slice (some ⟨g, o, none⟩) (m - k) (cap - k)) (b.drop k) := fun o ho => by
    refine ⟨g, o, cap - k, cur, fr, by rw [hl], h2, h3, by omega, by omega, fun j u hj => ?_⟩
    have hjl : j < (b.drop k).length := by
      have := (List.getElem?_eq_some_iff.1 hj).1
      simpa using this
    rcases ho with ho | ho
    · omega
    · rw [ho, Nat.add_assoc]
      apply h6 (k + j) u
      rw [List.getElem?_map] at hj ⊢
      rwa [List.getElem?_drop] at hj
  by_cases hc : cap = k
  · rw [if_pos hc]
    exact key off (.inl hc)
  · rw [if_neg hc]
    exact key _ (.inr rfl)
theorem splice_take64 {l : List Value} {bs c : Bytes} {i : Nat} (h : l.take 64 = bs.map u8v) (hb : bs.length = 64) (hi : i + c.length ≤ 64) : (splice l i (c.map u8v)).take 64 = (splice bs i c).map u8v := by
  have hl : 64 ≤ l.length := by
    have := congrArg List.length h
    rw [List.length_take, List.length_map, hb] at this
    omega
  have hsl : (splice bs i c).length = 64 := by rw [length_splice _ _ _ (by omega), hb]
  have e : splice l i (c.map u8v) = splice (l.take 64) i (c.map u8v) ++ l.drop 64 := by
    unfold splice
    rw [List.length_map, List.append_assoc, List.append_assoc, List.take_take, Nat.min_eq_left (by omega), ← List.drop_append_of_le_length (by rw [List.length_take]; omega), List.take_append_drop]
  rw [e, List.take_append_of_le_length (by rw [length_splice _ _ _ (by rw [List.length_take, List.length_map]; omega), List.length_take]; omega), h]
  have e2 : splice (bs.map u8v) i (c.map u8v) = (splice bs i c).map u8v := by
    unfold splice
    simp [List.map_take, List.map_drop]
  rw [e2, List.take_of_length_le (by rw [List.length_map, hsl]; exact Nat.le_refl _)]
/-- While bytes are written: the base, the node, what is still to be written. -/
structure WSt (w0 w : World) (pb p q pn pk px gb cap n q4 po : Nat) (S : WalS) (b rest : Bytes) (Fs G : Nat → Prop) : Prop where
  st : ∃ F v, BaseIn w pb p q pn pk S F ∧ (∀ k, F k → Fs k ∨ w0.heap.size ≤ k) ∧ ¬ F px ∧ ¬ F gb ∧ ¬ F q4 ∧ ¬ F po ∧ w.heap[po]? = some (.cells #[v] 23 (0, 0)) ∧ (∃ tS, Src tS w G v rest) ∧ (∀ k, G k → ¬ F k)
  node : NodeAt w px gb cap n b
  q4b : w.heap[q4]? = some (.cells #[Dptr pb] 25 (0, 0))
  chg : Chg (fun k => Fs k ∨ k = gb ∨ k = po) w0 w
  qpo : q4 ≠ po
theorem WSt.c4 (h : WSt w0 w pb p q pn pk px gb cap n q4 po S b rest Fs G) : w.cell? ⟨q4, 0, none⟩ = some (Dptr pb) := cell_of h.q4b 0
theorem WSt.cb (h : WSt w0 w pb p q pn pk px gb cap n q4 po S b rest Fs G) : w.cell? ⟨pb, 0, none⟩ = some (Dptr p) := by
  obtain ⟨⟨F, sv, hB, _⟩, _⟩ := h
  exact hB.c0
theorem src_lt {t : TypeId} {w : World} {G : Nat → Prop} {v : Value} {b : Bytes} (h : Src t w G v b) : ∃ g, v.ownBlock = some g ∧ G g ∧ g < w.heap.size ∧ Src t w (· = g) v b := by
  obtain ⟨g, off, cap, cur, fr, rfl, h2, h3, h4⟩ := h
  exact ⟨g, rfl, h2, lt_of_heap h3, g, off, cap, cur, fr, rfl, rfl, h3, h4⟩
/-- A call on the base. -/
theorem WSt.base {f : FuncId} {args : Array Value} {v : Value} {Q : Ending → World → Prop} (h : WSt w0 w pb p q pn pk px gb cap n q4 po S b rest Fs G) (hc : ∀ F', BaseIn w pb p q pn pk S F' → NodeAt w px gb cap n b → Calls Tryz.prog f args w (BDid w pb p q pn pk S' F' v)) (hG : ∀ k, G k → k < w.heap.size) (hQ : ∀ w', w.heap.size ≤ w'.heap.size → WSt w0 w' pb p q pn pk px gb cap n q4 po S' b rest Fs G → Q (.returned v) w') : Calls Tryz.prog f args w Q := by
  obtain ⟨⟨F, sv, hB, hF, h1, h2, h3, h4, h5, h6, h7⟩, hx, hq, hC, hqp⟩ := h
  refine (hc F hB hx).mono ?_
  rintro e w' ⟨rfl, ⟨F2, hB2, hF2⟩, hC2⟩
  have hlx := hx.raw.2.2.2.1
  have hlg := hx.raw.2.2.1
  have l4 := lt_of_heap hq
  have lp := lt_of_heap h5
  refine hQ _ hC2.size ⟨⟨F2, sv, hB2, fun k hk => (hF2 k hk).elim (hF k) (fun h => .inr (Nat.le_trans hC.size h)), fun hk => (hF2 _ hk).elim h1 (fun h => by omega), fun hk => (hF2 _ hk).elim h2 (fun h => by omega), fun hk => (hF2 _ hk).elim h3 (fun h => by omega), fun hk => (hF2 _ hk).elim h4 (fun h => by omega), (hC2.block _ lp h4).trans h5, h6.imp fun _ h => h.chg hC2 h7, fun k hk hf => (hF2 _ hf).elim (h7 k hk) (fun h => by have := hG k hk; omega)⟩, hx.chg hC2 h1 h2, (hC2.block _ l4 h3).trans hq, hC.trans hC2 (fun k hk h => .inl ((hF k h).elim id (fun h => by omega))), hqp⟩

set_option maxRecDepth 100000 in
set_option maxHeartbeats 2000000 in
theorem write1_any (h : WSt w0 w pb p q pn pk px gb cap n q4 po S b rest Fs G) (hG : ∀ k, G k → k < w0.heap.size) (hpo : w0.heap.size ≤ po) (hbs : pb < w0.heap.size ∧ pn < w0.heap.size ∧ pk < w0.heap.size) {sec at' m : Nat} (ha : at' + m ≤ 64) (hm : 1 ≤ m) (hr : m ≤ rest.length) : Calls Tryz.prog 31 #[.int .i64 (sec : Int), .int .i64 (at' : Int), .int .i64 (m : Int), .pointer (some ⟨q4, 0, none⟩), .pointer (some ⟨po, 0, none⟩)] w fun e w' => e = .returned (.int .i64 (writeStep S rest sec at' m).1) ∧ WSt w0 w' pb p q pn pk px gb cap n q4 po (writeStep S rest sec at' m).2.1 b (writeStep S rest sec at' m).2.2 Fs G := by
  have c4 := h.c4
  have cb := h.cb
  unfold writeStep
  by_cases hout : S.size ≤ sec
  · rw [if_pos hout]
    have cR : Calls Tryz.prog 32 #[Dptr p, .int .i64 (sec : Int)] w fun e w' => e = .returned (.tuple #[.slice none 0 0, .int .i64 1]) ∧ w = w' := by
      obtain ⟨⟨F, sv, hB, _⟩, _⟩ := h
      exact cread_out hB.sto (.inr (by omega)) hB.live
    go_enter Tryz.func31, Tryz.ntmps31
    go_wp2_with (go_at_call 32; refine cR.mono ?_; rintro e w3 ⟨rfl, rfl⟩)
    go_ret
    exact ⟨rfl, h⟩
  · rw [if_neg hout]
    obtain ⟨⟨F, sv, hB, hF, h1, h2, h3, h4, h5, ⟨tS, h6⟩, h7⟩, hx, hq, hC, hqp⟩ := h
    have cR := cread_ok hB.sto (i := (sec : Int)) (k := sec) rfl hB.live (by omega)
    have hlen := hB.sto.get_len sec
    have hlenH : Hid _ := Lib.hid hlen
    have hlt := hB.sto.lt
    clear hlen
    go_enter Tryz.func31, Tryz.ntmps31
    go_upto_region 4 with (go_at_call 32; refine cR.mono ?_; rintro e w3 ⟨v, g3, rfl, hv3, hg3, hs3, hC3⟩)
    have hb3 := hB.step hs3 (Txn.refl S) (fun k hk => .inl hk) hC3
    have hx3 := hx.chg hC3 h1 h2
    have hq3 := (hC3.block _ (lt_of_heap hq) h3).trans hq
    have hpo3 := (hC3.block _ (lt_of_heap h5) h4).trans h5
    have hsrc3 := h6.chg hC3 h7
    have cpo3 : w3.cell? ⟨po, 0, none⟩ = some sv := cell_of hpo3 0
    obtain ⟨g', cap3, cur3, rfl, hgg, hd1, hd2, hd3, hd4, hd5⟩ := hv3
    have hgg : g' = g3 := hgg
    subst hgg
    obtain ⟨gs, offs, caps, curs, frs, rfl, hgs, hs1, hs2, hs3', hs4⟩ := id hsrc3
    have hnl : ((rest.take m).map u8v).length = m := by rw [List.length_map, List.length_take]; omega
    have hnews : ∀ j u, ((rest.take m).map u8v)[j]? = some u → w3.cell? ⟨gs, offs + j, none⟩ = some u := fun j u hj => by
      apply hs4 j u
      rw [List.getElem?_map] at hj ⊢
      rw [List.getElem?_take] at hj
      split at hj
      · exact hj
      · cases hj
    have hgG := hG gs hgs
    have hnlH : Hid _ := Lib.hid hnl
    have hnewsH : Hid _ := Lib.hid hnews
    have hs4H : Hid _ := Lib.hid hs4
    have hd5H : Hid _ := Lib.hid hd5
    clear hnl hnews hs4 hs1 hd5
    rw [hlenH.out] at hd2 ⊢
    have hca : ¬ cap3 = at' := by omega
    have hmi : (m : Int) ≤ (caps : Int) := by omega
    have hmr : (m : Int) ≤ (rest.length : Int) := by omega
    have hai : (at' : Int) ≤ 64 := by omega
    have hab : Hid (at' + m ≤ 64) := Lib.hid ha
    have hszw := hC.size
    have hszw3 := hC3.size
    have hu8 : (Tryz.prog.info? 5).map (·.size) = some 1 := by kernel_rfl
    have hlp := lt_of_heap h5
    go_region_law ((refine step_copy_splice (by rfl) _ _ 23 23 (by rfl) 5 Tryz.underlying23 hu8 (some ⟨g', at', none⟩) (some ⟨gs, offs, none⟩) (64 - at') (cap3 - at') m caps (by rfl) (by rfl) g' at' cur3.toList 5 (by exact hd1) ((rest.take m).map u8v) (by rw [hnlH.out]; have := hab.out; exact (Nat.min_eq_left (by omega)).symm) (fun _ => ⟨rfl, _, rfl, Src.news hnewsH.out⟩) (by rw [hnlH.out]; simp; have := hab.out; omega) (by exact oneCells _) g' w3 (Below.refl g' w3).drew (Nat.le_refl _) ?_; intro w4 hw4 hb4))
    have hc4 : Chg (fun k => g' ≤ k) w3 w4 := ⟨hb4.os, hb4.tape, hb4.output, hb4.size, fun k _ hn => hb4.block k (by omega)⟩
    have e1 := lt_of_heap hB.blk
    have e2 := lt_of_heap hB.mN
    have e3 := lt_of_heap hB.mK
    have e4 := hx.raw.2.2.2.1
    have e5 := hx.raw.2.2.1
    have e6 := lt_of_heap hq
    have hB4 := hb3.chg hc4 (fun k hk e => by
      rcases hk with hk | hk | hk | hk
      · have := hlt k hk; omega
      all_goals omega)
    have hx4 := hx3.chg hc4 (fun e => by omega) (fun e => by omega)
    have hq4 := (hc4.block _ (lt_of_heap hq3) (fun e => by omega)).trans hq3
    have hpo4 := (hc4.block _ (lt_of_heap hpo3) (fun e => by omega)).trans hpo3
    have hsrc4 := hsrc3.chg (w' := w4) (M := fun k => k = po ∨ (g' ≤ k)) ((hc4.mono (fun _ _ h => .inr h))) (fun k hk e => by have := hG k hk; omega)
    have cpo4 : w4.cell? ⟨po, 0, none⟩ = some _ := cell_of hpo4 0
    have fpo4 : w4.frozen? ⟨po, 0, none⟩ = false := frozen_of hpo4 0
    have htk : ∀ (l : List Value) (bs : Bytes), bs.length = 64 → l.take 64 = bs.map u8v → (splice l at' ((rest.take m).map u8v)).take 64 = (splice bs at' (rest.take m)).map u8v := fun l bs hbs hl => splice_take64 hl hbs (by rw [← List.length_map (f := u8v), hnlH.out]; exact hab.out)
    have hdat4 : Dat 5 w4 (· = g') (.slice (some ⟨g', 0, none⟩) 64 cap3) (splice (S.get sec) at' (rest.take m)) := by
      have hsl : (splice (S.get sec) at' (rest.take m)).length = 64 := by
        rw [length_splice _ _ _ (by rw [hlenH.out, ← List.length_map (f := u8v), hnlH.out]; exact hab.out), hlenH.out]
      have hd5 := hd5H.out
      rw [hlenH.out] at hd5
      have hls := length_splice cur3.toList at' ((rest.take m).map u8v) (by rw [hnlH.out]; simp; have := hab.out; omega)
      refine ⟨g', cap3, _, by rw [hsl], rfl, hw4.out, by rw [hsl]; exact hd2, hd3, by simp at hls ⊢; omega, ?_⟩
      rw [hsl]
      exact htk _ _ hlenH.out hd5
    have hC4 : Chg (fun k => Fs k ∨ k = gb ∨ k = po) w0 w4 := (hC.trans hC3 (fun k hk h => .inl ((hF k h).elim id (fun h => by omega)))).trans hc4 (fun k hk e => by omega)
    have hdat4H : Hid _ := Lib.hid hdat4
    have hC4H : Hid _ := Lib.hid hC4
    have hB4H : Hid _ := Lib.hid hB4
    have hx4H : Hid _ := Lib.hid hx4
    have hq4H : Hid _ := Lib.hid hq4
    have hpo4H : Hid _ := Lib.hid hpo4
    have hsrc4H : Hid _ := Lib.hid hsrc4
    clear hdat4 hC4 hB4 hx4 hq4 hpo4 hsrc4 htk hsrc3 hpo3 hq3 hx3 hb3 hc4 hb4 hw4 hu8 hd1 cR hs3 hC3 hC hx hq h5 h6 hB cpo3
    obtain ⟨v2, hv2⟩ : ∃ v2 : Value, v2 = .slice (if caps = m then some ⟨gs, offs, none⟩ else some ⟨gs, offs + m, none⟩) (rest.length - m) (caps - m) := ⟨_, rfl⟩
    have hsrc5 : Src tS w4 G v2 (rest.drop m) := by rw [hv2]; exact Src.tail hsrc4H.out hr
    have hc5 : Chg (· = po) w4 (w4.setCell ⟨po, 0, none⟩ v2) := (Chg.refl _ w4).own 0 _
    have hB5 := hB4H.out.chg hc5 (fun k hk e => by
      have e : k = po := e
      rcases hk with hk | hk | hk | hk
      · exact h4 (e ▸ hk)
      all_goals omega)
    have hgpo : gb ≠ po := fun e => by
      obtain ⟨g2, cap2, cur, _, hF2, hh, _⟩ := hx4H.out.dat
      have hF2 : g2 = gb := hF2
      subst hF2
      rw [e] at hh
      exact absurd rfl (ne_of_elem hh hpo4H.out (by decide))
    have hppo : px ≠ po := fun e => by
      have hh := hx4H.out.blk
      rw [e] at hh
      exact absurd rfl (ne_of_elem hh hpo4H.out (by decide))
    have hx5 := hx4H.out.chg hc5 hppo hgpo
    have hq5 := (hc5.block _ (lt_of_heap hq4H.out) hqp).trans hq4H.out
    have hpo5 : (w4.setCell ⟨po, 0, none⟩ v2).heap[po]? = some (.cells #[v2] 23 (0, 0)) := by
      have := heap_set_same hpo4H.out 0 v2
      simpa using this
    have hs5 := hsrc5.chg hc5 (fun k hk e => by have := hG k hk; have e : k = po := e; omega)
    have hdat5 := hdat4H.out.chg hc5 (fun k hk e => by have hk : k = g' := hk; have e : k = po := e; omega)
    have hC5 := hC4H.out.trans hc5 (fun k _ e => .inr (.inr e))
    have c45 : (w4.setCell ⟨po, 0, none⟩ v2).cell? ⟨q4, 0, none⟩ = some (Dptr pb) := cell_of hq5 0
    have cb5 := hB5.c0
    have cW := cwrite hB5.sto hdat5.src (sec : Int)
    have hB5H : Hid _ := Lib.hid hB5
    have hx5H : Hid _ := Lib.hid hx5
    have hq5H : Hid _ := Lib.hid hq5
    have hpo5H : Hid _ := Lib.hid hpo5
    have hs5H : Hid _ := Lib.hid hs5
    have hC5H : Hid _ := Lib.hid hC5
    have hv2H : Hid _ := Lib.hid hv2
    have hv2s : ∃ ad k c, v2 = .slice ad k c := ⟨_, _, _, hv2⟩
    clear hB5 hx5 hq5 hpo5 hs5 hC5 hdat5 hsrc5 hv2 hc5
    have hsz5 : (w4.setCell ⟨po, 0, none⟩ v2).heap.size = w4.heap.size := by simp [World.setCell]
    by_cases hcm : caps = m
    all_goals
      have hv3 := hv2H.out
      first | rw [if_pos hcm, hcm, Nat.sub_self] at hv3 | rw [if_neg hcm] at hv3
      subst hv3
      go_wp2_with (go_at_call 33; refine cW.mono ?_; rintro e w6 ⟨rfl, hs6, hC6⟩)
      go_ret
      have hlx := hx5H.out.raw.2.2.2.1
      have hlg := hx5H.out.raw.2.2.1
      have l4 := lt_of_heap hq5H.out
      have lp := lt_of_heap hpo5H.out
      have lC := hC5H.out.size
      exact ⟨rfl, ⟨⟨_, _, hB5H.out.step hs6 (Txn.write S _ _) (fun k hk => hk.imp id (·.1)) hC6, fun k hk => hk.elim (hF k) (fun h => .inr (by have := h.1; omega)), fun hk => hk.elim h1 (fun h => by have := h.1; omega), fun hk => hk.elim h2 (fun h => by have := h.1; omega), fun hk => hk.elim h3 (fun h => by have := h.1; omega), fun hk => hk.elim h4 (fun h => by have := h.1; omega), (hC6.block _ lp h4).trans hpo5H.out, ⟨_, hs5H.out.chg hC6 h7⟩, fun k hk hf => hf.elim (h7 k hk) (fun h => by have := h.1; have := hG k hk; omega)⟩, hx5H.out.chg hC6 h1 h2, (hC6.block _ l4 h3).trans hq5H.out, hC5H.out.trans hC6 (fun k hk h => .inl ((hF k h).elim id (fun h => by omega))), hqp⟩⟩
end
end Go.Proofs.YtjngphffgdjcfaaGreatDoor
/-
  A base's calls: Write.
-/
namespace Go.Lz
open Go.RowKit Go.Proofs.YtjngphffgdjcfaaGreatDoor
def WalS.writeAll (S : WalS) (b : Bytes) (at' : Nat) (p : Bytes) : Int × WalS × Bytes := eachF writeStep b p.length at' (at' + p.length) S p
/-- A node with room for so many bytes. -/
def WalS.roomy (S : WalS) (b : Bytes) (m : Nat) : Int × Bytes × WalS := if nSize b < m then S.grow b m else (0, b, S)
/-- What Write does with a node. -/
def WalS.writeB (S : WalS) (n : Nat) (b : Bytes) (at' : Nat) (p : Bytes) : Int × WalS :=
  if (S.roomy b (at' + p.length)).1 = 0 then
    let r := (S.roomy b (at' + p.length)).2.2.writeAll (S.roomy b (at' + p.length)).2.1 at' p
    if r.1 = 0 then r.2.1.save n (S.roomy b (at' + p.length)).2.1 else (r.1, r.2.1)
  else ((S.roomy b (at' + p.length)).1, (S.roomy b (at' + p.length)).2.2)
def WalS.writeN (S : WalS) (n at' : Int) (p : Bytes) : Int × WalS :=
  if S.nodeE n ≠ 0 then (S.nodeE n, S) else if at' < 0 then (1, S) else
  if 64 * nRoom (S.nodeB n.toNat) < p.length ∨ 64 * nRoom (S.nodeB n.toNat) < at'.toNat + p.length then (72, S) else
  if p = [] then (0, S) else
  if 6144 < at'.toNat + p.length - min at'.toNat (nSize (S.nodeB n.toNat)) then (5, S) else
  S.writeB n.toNat (S.nodeB n.toNat) at'.toNat p
end Go.Lz
namespace Go.Proofs.YtjngphffgdjcfaaGreatDoor
open Go.RowKit Go.Lz
section
variable {w w0 w' : World} {pb p q pn pk px gb cap n q4 po : Nat} {S S' : WalS} {Fs G : Nat → Prop} {b data : Bytes}
/-- What a look at a node's room and size, and at what is to be written, tells in any world that has all of w. -/
structure Look (w : World) (px q4 po : Nat) (pb : Nat) (R z : Nat) (v : Value) : Prop where
  room : ∀ W : BelowOf w, Calls Tryz.prog 27 #[Dptr px] W.val fun e w'' => e = .returned (.int .i64 (R : Int)) ∧ ∃ q : BelowOf w, w'' = q.val
  size : ∀ W : BelowOf w, Calls Tryz.prog 28 #[Dptr px] W.val fun e w'' => e = .returned (.int .i64 (z : Int)) ∧ ∃ q : BelowOf w, w'' = q.val
  c4 : ∀ W : BelowOf w, W.val.cell? ⟨q4, 0, none⟩ = some (Dptr pb)
  cp : ∀ W : BelowOf w, W.val.cell? ⟨po, 0, none⟩ = some v
theorem NodeAt.look {v : Value} (hx : NodeAt w px gb cap n b) (hq : w.heap[q4]? = some (.cells #[Dptr pb] 25 (0, 0))) (hp : w.heap[po]? = some (.cells #[v] 23 (0, 0))) : Look w px q4 po pb (nRoom b) (nSize b) v :=
  ⟨fun W => Calls.below_of (room_any_ (hx.below W.prop)), fun W => Calls.below_of (nsize_any (hx.below W.prop)), fun W => cell_of ((W.prop.block _ (lt_of_heap hq)).trans hq) 0, fun W => cell_of ((W.prop.block _ (lt_of_heap hp)).trans hp) 0⟩
theorem writeStep_len {S : WalS} (o : Bytes) (s a m : Nat) : o.length ≤ (writeStep S o s a m).2.2.length + m := by
  unfold writeStep
  split
  · exact Nat.le_add_right _ _
  · show _ ≤ (o.drop m).length + m
    rw [List.length_drop]
    omega
theorem eachW_any {rest : Bytes} (h : WSt w0 w pb p q pn pk px gb cap n q4 po S b rest Fs G) (hG : ∀ k, G k → k < w0.heap.size) (hpo : w0.heap.size ≤ po) (hbs : pb < w0.heap.size ∧ pn < w0.heap.size ∧ pk < w0.heap.size) {i : Nat} (hj : i + rest.length ≤ 55296) :
    Calls Tryz.prog 30 #[Dptr pb, Dptr px, .int .i64 (i : Int), .int .i64 ((i + rest.length : Nat) : Int), .func (.func 31) #[] #[.pointer (some ⟨q4, 0, none⟩), .pointer (some ⟨po, 0, none⟩)]] w fun e w' => e = .returned (.int .i64 (eachF writeStep b (i + rest.length - i) i (i + rest.length) S rest).1) ∧ WSt w0 w' pb p q pn pk px gb cap n q4 po (eachF writeStep b (i + rest.length - i) i (i + rest.length) S rest).2.1 b (eachF writeStep b (i + rest.length - i) i (i + rest.length) S rest).2.2 Fs G := by
  refine (each_write (pb := pb) (px := px) (b := b) (fun w' S' out f => WSt w0 w' pb p q pn pk px gb cap n q4 po S' b out Fs G ∧ i + rest.length ≤ out.length + f) writeStep _ _ (i := i) (j := i + rest.length) ?_ ?_ (fun S i => block_num S b i) hj (S := S) (a := rest) ⟨h, by omega⟩).mono ?_
  · rintro w1 S1 a f k ⟨hR, hl⟩ hk
    have hsz := hR.chg.size
    exact hR.base (fun F' hB hx => block_any hB hx hk) (fun k hk => Nat.lt_of_lt_of_le (hG k hk) hsz) (fun w' _ h' => ⟨rfl, h', hl⟩)
  · rintro w1 S1 a f sec at' m ⟨hR, hl⟩ hif hat hfm ham hm hsec
    refine (write1_any hR hG hpo hbs ham hm (sec := sec) (by omega)).mono ?_
    rintro e w' ⟨he, h'⟩
    have := writeStep_len (S := S1) a sec at' m
    exact ⟨he, h', by omega⟩
  · rintro e w' ⟨he, f, ⟨hR, _⟩, _⟩
    exact ⟨he, hR⟩
theorem WSt.cpo {rest : Bytes} (h : WSt w0 w pb p q pn pk px gb cap n q4 po S b rest Fs G) : ∃ ad k c, w.cell? ⟨po, 0, none⟩ = some (.slice ad k c) ∧ k = rest.length := by
  obtain ⟨⟨F, sv, hB, hF, h1, h2, h3, h4, h5, h6, h7⟩, _⟩ := h
  obtain ⟨_, g, off, cap, cur, fr, rfl, _⟩ := h6
  exact ⟨_, _, _, cell_of h5 0, rfl⟩
theorem WSt.bst {rest : Bytes} (h : WSt w0 w pb p q pn pk px gb cap n q4 po S b rest Fs G) (h1 : w0.heap.size ≤ gb) (h2 : w0.heap.size ≤ po) : BSt w0 w pb p q pn pk S Fs := by
  obtain ⟨⟨F, sv, hB, hF, _⟩, _, _, hC, _⟩ := h
  exact ⟨F, hB, hF, hC.mono (fun k hk h => h.elim id (fun h => by omega))⟩
set_option maxRecDepth 100000 in
set_option maxHeartbeats 4000000 in
theorem iwrite_any (h : BaseIn w pb p q pn pk S Fs) (n at' : Int) {ad : Option Addr} {cp L : Nat} (hL : L = data.length) (hv : data ≠ [] → ∃ tS, Src tS w G (.slice ad L cp) data) (hG : ∀ k, G k → ¬ Fs k ∧ k < w.heap.size) (hsz : S.nodeE n = 0 → nSize (S.nodeB n.toNat) ≤ 55296 ∧ nRoom (S.nodeB n.toNat) ≤ 864) (hdl : L ≤ maxLen) :
    Calls Tryz.prog 9 #[Dptr pb, .int .i64 n, .int .i64 at', .slice ad L cp] w (BDid w pb p q pn pk (S.writeN n at' data).2 Fs (.int .i64 (S.writeN n at' data).1)) := by
  have hszH : Hid _ := Lib.hid hsz
  have hvH : Hid _ := Lib.hid hv
  have hLH : Hid _ := Lib.hid hL
  clear hL
  have hc0 : Chg (fun _ => False) w ((w.alloc (.cells #[Dptr pb] 25)).alloc (.cells #[.slice ad L cp] 23)) := ((Chg.refl _ w).alloc _).alloc _
  have h1 := h.chg hc0 (fun _ _ h => h)
  have hq0 : ((w.alloc (.cells #[Dptr pb] 25)).alloc (.cells #[.slice ad L cp] 23)).heap[w.heap.size]? = some (.cells #[Dptr pb] 25 (0, 0)) := by
    have := ((Below.refl (w.alloc (.cells #[Dptr pb] 25)).heap.size _).alloc (Nat.le_refl _) (.cells #[.slice ad L cp] 23)).block w.heap.size (by simp)
    rw [this]
    exact heap_alloc_new w _
  have hp0 : ((w.alloc (.cells #[Dptr pb] 25)).alloc (.cells #[.slice ad L cp] 23)).heap[w.heap.size + 1]? = some (.cells #[.slice ad L cp] 23 (0, 0)) := by
    have := heap_alloc_new (w.alloc (.cells #[Dptr pb] 25)) (.cells #[.slice ad L cp] 23)
    simpa using this
  have cq0 : ((w.alloc (.cells #[Dptr pb] 25)).alloc (.cells #[.slice ad L cp] 23)).cell? ⟨w.heap.size, 0, none⟩ = some (Dptr pb) := cell_of hq0 0
  have hFl := h.sto.lt
  obtain ⟨w1, hw1⟩ : ∃ w1, w1 = (w.alloc (.cells #[Dptr pb] 25)).alloc (.cells #[.slice ad L cp] 23) := ⟨_, rfl⟩
  have hs1 : w1.heap.size = w.heap.size + 2 := by rw [hw1]; simp
  rw [← hw1] at h1 hc0 hq0 cq0 hp0
  have hw1H : Hid _ := Lib.hid hw1
  have hC0H : Hid _ := Lib.hid hc0
  unfold WalS.writeN
  rcases Classical.em (S.nodeE n = 0) with hE | hE
  · have cL := load_yes h1 hE
    rw [if_neg (by rw [hE]; decide)]
    obtain ⟨hbz, hbr⟩ := hszH.out hE
    clear hw1 hc0 hszH hsz hv
    by_cases ha : at' < 0
    · rw [if_pos ha]
      go_enter Tryz.func9, Tryz.ntmps9
      go_wp2_with (rw [← hw1H.out]; go_at_call 26; refine cL.mono ?_; rintro e w2 ⟨px, gb, cap, rfl, hB2, hC2, _⟩)
      go_ret
      exact BSt.did ⟨Fs, hB2, fun _ h => .inl h, (hC0H.out.mono (fun _ _ h => h.elim)).trans hC2 (fun _ _ h => h)⟩ rfl
    · rw [if_neg ha]
      obtain ⟨A, rfl⟩ : ∃ A : Nat, at' = (A : Int) := ⟨at'.toNat, by omega⟩
      rw [Int.toNat_natCast]
      obtain ⟨bb, hbb⟩ : ∃ bb, bb = S.nodeB n.toNat := ⟨_, rfl⟩
      rw [← hbb] at cL hbz hbr ⊢
      clear hbb
      obtain ⟨R, hR⟩ : ∃ R, R = nRoom bb := ⟨_, rfl⟩
      obtain ⟨z, hz⟩ : ∃ z, z = nSize bb := ⟨_, rfl⟩
      rw [← hR] at hbr ⊢
      rw [← hz] at hbz ⊢
      obtain ⟨N, hN⟩ : ∃ N, N = n.toNat := ⟨_, rfl⟩
      rw [← hN] at cL ⊢
      have hNn := nodeE_num hE
      have hN1 : 1 ≤ N ∧ N ≤ 64 := by omega
      clear hN hNn
      rw [← hLH.out]
      have hRH : Hid _ := Lib.hid hR
      have hzH : Hid _ := Lib.hid hz
      clear hR hz
      by_cases hroom : 64 * R < L ∨ 64 * R < A + L
      · rw [if_pos hroom]
        by_cases hr1 : 64 * R < L
        · have hb1 : decide ((64 : Int) * (R : Int) < (L : Int)) = true := decide_eq_true (by omega)
          go_enter Tryz.func9, Tryz.ntmps9
          go_upto_region 6 with (rw [← hw1H.out]; go_at_call 26; refine cL.mono ?_; rintro e w2 ⟨px, gb, cap, rfl, hB2, hC2, hx2, hpx, hgb, hnpx, hngb⟩)
          have hq2 := (hC2.block _ (lt_of_heap hq0) (fun hk => by have := hFl _ hk; omega)).trans hq0
          have hp2 := (hC2.block _ (lt_of_heap hp0) (fun hk => by have := hFl _ hk; omega)).trans hp0
          have hLk := hx2.look hq2 hp2
          rw [← hRH.out, ← hzH.out] at hLk
          obtain ⟨cRm, cSz, d4, d7⟩ := hLk
          have hwR : IntKind.i64.wrap ((64 : Int) * (R : Int)) = (64 : Int) * (R : Int) := by rw [IntKind.wrap_i64]; omega
          refine wp_region_below (by kernel_rfl) (by kernel_rfl) ?_
          repeat (any_goals (first | go_big_quiet_skip | quiet_step (first
            | (go_at_call 27; with_reducible exact cRm _))))
          refine wpQuiet_nil ?_
          rintro wq ⟨⟨_, hq⟩, rfl⟩
          go_wp2_with fail
          go_ret
          exact (BSt.below ⟨Fs, hB2, fun _ h => .inl h, (hC0H.out.mono (fun _ _ h => h.elim)).trans hC2 (fun _ _ h => h)⟩ hq).did rfl
        · have hb1 : decide ((64 : Int) * (R : Int) < (L : Int)) = false := decide_eq_false (by omega)
          have hb2 : decide ((64 : Int) * (R : Int) - (L : Int) < (A : Int)) = true := decide_eq_true (by omega)
          go_enter Tryz.func9, Tryz.ntmps9
          go_upto_region 6 with (rw [← hw1H.out]; go_at_call 26; refine cL.mono ?_; rintro e w2 ⟨px, gb, cap, rfl, hB2, hC2, hx2, hpx, hgb, hnpx, hngb⟩)
          have hq2 := (hC2.block _ (lt_of_heap hq0) (fun hk => by have := hFl _ hk; omega)).trans hq0
          have hp2 := (hC2.block _ (lt_of_heap hp0) (fun hk => by have := hFl _ hk; omega)).trans hp0
          have hLk := hx2.look hq2 hp2
          rw [← hRH.out, ← hzH.out] at hLk
          obtain ⟨cRm, cSz, d4, d7⟩ := hLk
          have hwR : IntKind.i64.wrap ((64 : Int) * (R : Int)) = (64 : Int) * (R : Int) := by rw [IntKind.wrap_i64]; omega
          have hwL : IntKind.i64.wrap ((64 : Int) * (R : Int) - (L : Int)) = (64 : Int) * (R : Int) - (L : Int) := by rw [IntKind.wrap_i64]; omega
          refine wp_region_below (by kernel_rfl) (by kernel_rfl) ?_
          repeat (any_goals (first | go_big_quiet_skip | quiet_step (first
            | (go_at_call 27; with_reducible exact cRm _))))
          refine wpQuiet_nil ?_
          rintro wq ⟨⟨_, hq⟩, rfl⟩
          go_wp2_with fail
          go_ret
          exact (BSt.below ⟨Fs, hB2, fun _ h => .inl h, (hC0H.out.mono (fun _ _ h => h.elim)).trans hC2 (fun _ _ h => h)⟩ hq).did rfl
      · rw [if_neg hroom]
        have hb1 : decide ((64 : Int) * (R : Int) < (L : Int)) = false := decide_eq_false (by omega)
        have hb2 : decide ((64 : Int) * (R : Int) - (L : Int) < (A : Int)) = false := decide_eq_false (by omega)
        have hwR : IntKind.i64.wrap ((64 : Int) * (R : Int)) = (64 : Int) * (R : Int) := by rw [IntKind.wrap_i64]; omega
        have hwL : IntKind.i64.wrap ((64 : Int) * (R : Int) - (L : Int)) = (64 : Int) * (R : Int) - (L : Int) := by rw [IntKind.wrap_i64]; omega
        have hAL : A + L ≤ 64 * R := by omega
        by_cases hd0 : data = []
        · rw [if_pos hd0]
          have hL0 : L = 0 := by rw [hLH.out, hd0]; rfl
          have hL0z : ((L : Int) == 0) = true := by rw [hL0]; rfl
          clear hL0
          go_enter Tryz.func9, Tryz.ntmps9
          go_upto_region 6 with (rw [← hw1H.out]; go_at_call 26; refine cL.mono ?_; rintro e w2 ⟨px, gb, cap, rfl, hB2, hC2, hx2, hpx, hgb, hnpx, hngb⟩)
          have hq2 := (hC2.block _ (lt_of_heap hq0) (fun hk => by have := hFl _ hk; omega)).trans hq0
          have hp2 := (hC2.block _ (lt_of_heap hp0) (fun hk => by have := hFl _ hk; omega)).trans hp0
          have hLk := hx2.look hq2 hp2
          rw [← hRH.out, ← hzH.out] at hLk
          obtain ⟨cRm, cSz, d4, d7⟩ := hLk
          refine wp_region_below (by kernel_rfl) (by kernel_rfl) ?_
          repeat (any_goals (first | go_big_quiet_skip | quiet_step (first
            | (go_at_call 27; with_reducible exact cRm _))))
          refine wpQuiet_nil ?_
          rintro wq ⟨⟨_, hq⟩, rfl⟩
          have d7q := d7 ⟨wq, hq⟩
          go_wp2_with fail
          go_ret
          exact (BSt.below ⟨Fs, hB2, fun _ h => .inl h, (hC0H.out.mono (fun _ _ h => h.elim)).trans hC2 (fun _ _ h => h)⟩ hq).did rfl
        · rw [if_neg hd0]
          have hL1 : 1 ≤ L := by rw [hLH.out]; exact List.length_pos_iff.2 hd0
          have hLz : ((L : Int) == 0) = false := by simp; omega
          obtain ⟨tS, hsrc⟩ := hvH.out hd0
          obtain ⟨Rr, hRr⟩ : ∃ Rr, Rr = S.writeB N bb A data := ⟨_, rfl⟩
          rw [← hRr]
          have hRrH : Hid _ := Lib.hid hRr
          clear hRr
          have hwAL : IntKind.i64.wrap ((A : Int) + (L : Int)) = (A : Int) + (L : Int) := by rw [IntKind.wrap_i64]; omega
          by_cases hbig : 6144 < A + L - min A z
          · rw [if_pos hbig]
            have hb3 : decide ((6144 : Int) < (A : Int) + (L : Int) - min (A : Int) (z : Int)) = true := decide_eq_true (by omega)
            go_enter Tryz.func9, Tryz.ntmps9
            go_upto_region 6 with (rw [← hw1H.out]; go_at_call 26; refine cL.mono ?_; rintro e w2 ⟨px, gb, cap, rfl, hB2, hC2, hx2, hpx, hgb, hnpx, hngb⟩)
            have hq2 := (hC2.block _ (lt_of_heap hq0) (fun hk => by have := hFl _ hk; omega)).trans hq0
            have hp2 := (hC2.block _ (lt_of_heap hp0) (fun hk => by have := hFl _ hk; omega)).trans hp0
            have hLk := hx2.look hq2 hp2
            rw [← hRH.out, ← hzH.out] at hLk
            obtain ⟨cRm, cSz, d4, d7⟩ := hLk
            refine wp_region_below (by kernel_rfl) (by kernel_rfl) ?_
            repeat (any_goals (first | go_big_quiet_skip | quiet_step (first
              | (go_at_call 27; with_reducible exact cRm _))))
            refine wpQuiet_nil ?_
            rintro wq ⟨⟨_, hq⟩, rfl⟩
            have hx3 := hx2.below hq
            have hq3 := (hq.block _ (lt_of_heap hq2)).trans hq2
            have hp3 := (hq.block _ (lt_of_heap hp2)).trans hp2
            have hLk3 := hx3.look hq3 hp3
            rw [← hRH.out, ← hzH.out] at hLk3
            obtain ⟨_, cSz3, d43, d73⟩ := hLk3
            have hB3 := hB2.below hq
            have hC3 : Chg Fs w wq := ((hC0H.out.mono (fun _ _ h => h.elim)).trans hC2 (fun _ _ h => h)).below hq
            have d73q : wq.cell? ⟨w.heap.size + 1, 0, none⟩ = _ := cell_of hp3 0
            clear cRm cSz d4 d7 hx2 hq2 hp2 hB2 hC2 hq
            go_upto_region 10 with fail
            have hmn : IntKind.i64.wrap ((A : Int) + (L : Int) - min (A : Int) (z : Int)) = (A : Int) + (L : Int) - min (A : Int) (z : Int) := by rw [IntKind.wrap_i64]; omega
            refine wp_region_below (by kernel_rfl) (by kernel_rfl) ?_
            repeat (any_goals (first | go_big_quiet_skip | quiet_step (first
              | (go_at_call 28; with_reducible exact cSz3 _))))
            refine wpQuiet_nil ?_
            rintro wr ⟨⟨_, hr⟩, rfl⟩
            go_wp2_with fail
            go_ret
            exact (BSt.below ⟨Fs, hB3, fun _ h => .inl h, hC3⟩ hr).did rfl
          · rw [if_neg hbig]
            have hb3 : decide ((6144 : Int) < (A : Int) + (L : Int) - min (A : Int) (z : Int)) = false := decide_eq_false (by omega)
            go_enter Tryz.func9, Tryz.ntmps9
            go_upto_region 6 with (rw [← hw1H.out]; go_at_call 26; refine cL.mono ?_; rintro e w2 ⟨px, gb, cap, rfl, hB2, hC2, hx2, hpx, hgb, hnpx, hngb⟩)
            have hq2 := (hC2.block _ (lt_of_heap hq0) (fun hk => by have := hFl _ hk; omega)).trans hq0
            have hp2 := (hC2.block _ (lt_of_heap hp0) (fun hk => by have := hFl _ hk; omega)).trans hp0
            have hLk := hx2.look hq2 hp2
            rw [← hRH.out, ← hzH.out] at hLk
            obtain ⟨cRm, cSz, d4, d7⟩ := hLk
            refine wp_region_below (by kernel_rfl) (by kernel_rfl) ?_
            repeat (any_goals (first | go_big_quiet_skip | quiet_step (first
              | (go_at_call 27; with_reducible exact cRm _))))
            refine wpQuiet_nil ?_
            rintro wq ⟨⟨_, hq⟩, rfl⟩
            have hx3 := hx2.below hq
            have hq3 := (hq.block _ (lt_of_heap hq2)).trans hq2
            have hp3 := (hq.block _ (lt_of_heap hp2)).trans hp2
            have hLk3 := hx3.look hq3 hp3
            rw [← hRH.out, ← hzH.out] at hLk3
            obtain ⟨_, cSz3, d43, d73⟩ := hLk3
            have hB3 := hB2.below hq
            have hC3 : Chg Fs w wq := ((hC0H.out.mono (fun _ _ h => h.elim)).trans hC2 (fun _ _ h => h)).below hq
            have d73q : wq.cell? ⟨w.heap.size + 1, 0, none⟩ = _ := cell_of hp3 0
            clear cRm cSz d4 d7 hx2 hq2 hp2 hB2 hC2 hq
            go_upto_region 10 with fail
            have hmn : IntKind.i64.wrap ((A : Int) + (L : Int) - min (A : Int) (z : Int)) = (A : Int) + (L : Int) - min (A : Int) (z : Int) := by rw [IntKind.wrap_i64]; omega
            refine wp_region_below (by kernel_rfl) (by kernel_rfl) ?_
            repeat (any_goals (first | go_big_quiet_skip | quiet_step (first
              | (go_at_call 28; with_reducible exact cSz3 _))))
            refine wpQuiet_nil ?_
            rintro wr ⟨⟨_, hr⟩, rfl⟩
            have hx4 := hx3.below hr
            have hq4 := (hr.block _ (lt_of_heap hq3)).trans hq3
            have hp4 := (hr.block _ (lt_of_heap hp3)).trans hp3
            have hB4 := hB3.below hr
            have hC4 := hC3.below hr
            have hLk4 := hx4.look hq4 hp4
            rw [← hRH.out, ← hzH.out] at hLk4
            obtain ⟨_, cSz4, d44, d74⟩ := hLk4
            have hRr := hRrH.out
            unfold WalS.writeB WalS.roomy at hRr
            rw [← hzH.out, ← hLH.out] at hRr
            have hsr4 : Src tS wr G (.slice ad L cp) data := hsrc.chg hC4 (fun k hk => (hG k hk).1)
            have hRrH2 : Hid _ := Lib.hid hRr
            clear hRr hRrH cSz3 d43 d73 d73q hx3 hq3 hp3 hB3 hC3 hr hsrc
            by_cases hgr : z < A + L
            case' pos =>
              have hb4 : decide ((z : Int) < (A : Int) + (L : Int)) = true := decide_eq_true (by omega)
              have hRr := hRrH2.out
              rw [if_pos hgr] at hRr
              go_upto_region 12 with fail
              refine wp_region_below (by kernel_rfl) (by kernel_rfl) ?_
              repeat (any_goals (first | go_big_quiet_skip | quiet_step (first
                | (go_at_call 28; with_reducible exact cSz4 _))))
              refine wpQuiet_nil ?_
              rintro ws ⟨⟨_, hs⟩, rfl⟩
              have hx5 := hx4.below hs
              have hq5 := (hs.block _ (lt_of_heap hq4)).trans hq4
              have hp5 := (hs.block _ (lt_of_heap hp4)).trans hp4
              have hB5 := hB4.below hs
              have hC5 := hC4.below hs
              have c4s : ws.cell? ⟨w.heap.size, 0, none⟩ = some (Dptr pb) := cell_of hq5 0
              have cps : ws.cell? ⟨w.heap.size + 1, 0, none⟩ = some (.slice ad L cp) := cell_of hp5 0
              have cG := grow_any hB5 hx5 hnpx hngb (m := A + L) (by omega) (by rw [← hzH.out]; exact hbz)
              rw [Int.natCast_add] at cG
              generalize S.grow bb (A + L) = t at *
              obtain ⟨t1, b6, S6⟩ := t
              dsimp only at cG hRr
              have hRrH3 : Hid _ := Lib.hid hRr
              clear hRr hRrH2
              by_cases ht : t1 = 0
              case' neg =>
                have ht1 : (t1 != 0) = true := by simpa using ht
                go_wp2_with (go_at_call 29; refine cG.mono ?_; rintro e w6 ⟨rfl, ⟨⟨F6, hB6, hF6, _⟩, _, hC6⟩⟩)
                go_ret
                have hRr := hRrH3.out
                rw [if_neg ht] at hRr
                rw [hRr]
                exact BSt.did ⟨F6, hB6, fun k hk => (hF6 k hk).imp id (Nat.le_trans hC5.size), hC5.trans hC6 (fun k hk h => h.elim id (fun h => by omega))⟩ rfl
              subst ht
              have hRr := hRrH3.out
              rw [if_pos rfl] at hRr
              have hRrH4 : Hid _ := Lib.hid hRr
              clear hRr hRrH3
              go_upto_region 16 with (go_at_call 29; refine cG.mono ?_; rintro e w6 ⟨rfl, hN6⟩)
              have hW : WSt w w6 pb p q pn pk px gb cap N w.heap.size (w.heap.size + 1) S6 b6 data Fs G := by
                obtain ⟨⟨F6, hB6, hF6, k1, k2⟩, hx6, hC6⟩ := hN6
                have hsr5 : Src tS ws G (.slice ad L cp) data := hsr4.chg (Chg.of_below (M := fun _ => False) hs) (fun _ _ h => h)
                have hsz5 := hC5.size
                have hgp : ∀ k, G k → ¬ F6 k := fun k hk hf => (hF6 k hf).elim (hG k hk).1 (fun h => by have := (hG k hk).2; omega)
                have hgb1 := hgb
                have hg1 : gb ≠ w.heap.size ∧ gb ≠ w.heap.size + 1 := ⟨by omega, by omega⟩
                have l1 := lt_of_heap hq5
                have l2 := lt_of_heap hp5
                refine ⟨⟨F6, .slice ad L cp, hB6, fun k hk => (hF6 k hk).imp id (Nat.le_trans hsz5), k1, k2, fun hk => (hF6 _ hk).elim (fun h => by have := hFl _ h; omega) (fun h => by omega), fun hk => (hF6 _ hk).elim (fun h => by have := hFl _ h; omega) (fun h => by omega), (hC6.block _ l2 (fun h => h.elim (fun h => by have := hFl _ h; omega) (fun h => hg1.2 h.symm))).trans hp5, ⟨_, hsr5.chg hC6 (fun k hk h => h.elim (hG k hk).1 (fun h => by have := (hG k hk).2; omega))⟩, hgp⟩, hx6, (hC6.block _ l1 (fun h => h.elim (fun h => by have := hFl _ h; omega) (fun h => hg1.1 h.symm))).trans hq5, (hC5.mono (fun _ _ h => .inl h)).trans hC6 (fun k hk h => h.elim .inl (fun h => .inr (.inl h))), by omega⟩
              clear hN6
            case' neg =>
              have hb4 : decide ((z : Int) < (A : Int) + (L : Int)) = false := decide_eq_false (by omega)
              have hRr := hRrH2.out
              rw [if_neg hgr] at hRr
              dsimp only at hRr
              rw [if_pos rfl] at hRr
              obtain ⟨S6, hS6⟩ : ∃ S6, S6 = S := ⟨_, rfl⟩
              obtain ⟨b6, hb6⟩ : ∃ b6, b6 = bb := ⟨_, rfl⟩
              rw [← hS6, ← hb6] at hRr
              have hRrH4 : Hid _ := Lib.hid hRr
              clear hRr hRrH2
              go_upto_region 12 with fail
              refine wp_region_below (by kernel_rfl) (by kernel_rfl) ?_
              repeat (any_goals (first | go_big_quiet_skip | quiet_step (first
                | (go_at_call 28; with_reducible exact cSz4 _))))
              refine wpQuiet_nil ?_
              rintro w6 ⟨⟨_, hs⟩, rfl⟩
              have hW : WSt w w6 pb p q pn pk px gb cap N w.heap.size (w.heap.size + 1) S6 b6 data Fs G := by
                rw [hS6, hb6]
                have l1 := lt_of_heap hq4
                have l2 := lt_of_heap hp4
                exact ⟨⟨Fs, .slice ad L cp, hB4.below hs, fun k hk => .inl hk, hnpx, hngb, fun h => by have := hFl _ h; omega, fun h => by have := hFl _ h; omega, (hs.block _ l2).trans hp4, ⟨_, hsr4.chg (Chg.of_below (M := fun _ => False) hs) (fun _ _ h => h)⟩, fun k hk => (hG k hk).1⟩, hx4.below hs, (hs.block _ l1).trans hq4, (hC4.mono (fun _ _ h => .inl h)).below hs, by omega⟩
              clear hS6 hb6
              go_upto_region 16 with fail
            all_goals
              have c46 := hW.c4
              have cp6 := hW.cpo
              have hW6 := hW
              have cE := eachW_any hW6 (fun k hk => (hG k hk).2) (by omega) ⟨lt_of_heap h.blk, lt_of_heap h.mN, lt_of_heap h.mK⟩ (i := A) (by rw [← hLH.out]; omega)
              rw [← hLH.out] at cE
              rw [Int.natCast_add] at cE
              have hRr := hRrH4.out
              rw [show eachF writeStep b6 (A + L - A) A (A + L) S6 data = S6.writeAll b6 A data by unfold WalS.writeAll; rw [Nat.add_sub_cancel_left, ← hLH.out]] at cE
              generalize S6.writeAll b6 A data = r at *
              obtain ⟨r1, S7, rest⟩ := r
              dsimp only at hRr cE
              have hRrH5 : Hid _ := Lib.hid hRr
              clear hRr hRrH4
              obtain ⟨ad6, k6, c6, cp6, hk6⟩ := cp6
              have hk7 : k6 = L := by rw [hk6, hLH.out]
              clear hk6
              subst hk7
              have hgl : w.heap.size ≤ gb := by omega
              have hpl : w.heap.size ≤ w.heap.size + 1 := by omega
              have hC6s := hW6.chg.size
              by_cases hr : r1 = 0
              · subst hr
                have hRr := hRrH5.out
                rw [if_pos rfl] at hRr
                have hRrH6 : Hid _ := Lib.hid hRr
                clear hRr hRrH5
                have cV : ∀ w7, WSt w w7 pb p q pn pk px gb cap N w.heap.size (w.heap.size + 1) S7 b6 rest Fs G → Calls Tryz.prog 25 #[Dptr pb, Dptr px] w7 fun e w8 => e = .returned (.int .i64 (S7.save N b6).1) ∧ BSt w w8 pb p q pn pk (S7.save N b6).2 Fs := fun w7 hW7 => by
                  obtain ⟨⟨F7, sv7, hB7, hF7, k1, k2, _⟩, hx7, _, hC7, _⟩ := hW7
                  refine (save_any hB7 hx7 k1 k2 hN1.1 hN1.2).mono ?_
                  rintro e w8 ⟨rfl, ⟨F8, hB8, hF8⟩, hC8⟩
                  exact ⟨rfl, F8, hB8, fun k hk => (hF8 k hk).elim (hF7 k) (fun h => .inr (Nat.le_trans hC7.size h)), (hC7.mono (fun k hk h => h.elim id (fun h => by omega))).trans hC8 (fun k hk h => (hF7 k h).elim id (fun h => by omega))⟩
                go_wp2_with (first
                  | (go_at_call 30; refine cE.mono ?_; rintro e w7 ⟨rfl, hW7⟩; have c47 := hW7.c4)
                  | (go_at_call 25; refine (cV _ hW7).mono ?_; rintro e w8 ⟨rfl, hB8⟩))
                go_ret
                rw [hRrH6.out]
                exact hB8.did rfl
              · have hr1 : (r1 != 0) = true := by simpa using hr
                have hRr := hRrH5.out
                rw [if_neg hr] at hRr
                have hRrH6 : Hid _ := Lib.hid hRr
                clear hRr hRrH5
                go_wp2_with (go_at_call 30; refine cE.mono ?_; rintro e w7 ⟨rfl, hW7⟩)
                go_ret
                rw [hRrH6.out]
                exact (hW7.bst hgl hpl).did rfl
  · have cL := load_no h1 hE
    rw [if_pos hE]
    have hE1 : (S.nodeE n != 0) = true := by simpa using hE
    clear hw1 hc0
    go_enter Tryz.func9, Tryz.ntmps9
    go_wp2_with (rw [← hw1H.out]; go_at_call 26; refine cL.mono ?_; rintro e w2 ⟨rfl, hB2, hC2⟩)
    go_ret
    exact BSt.did ⟨Fs, hB2, fun _ h => .inl h, (hC0H.out.mono (fun _ _ h => h.elim)).trans hC2 (fun _ _ h => h)⟩ rfl
end
end Go.Proofs.YtjngphffgdjcfaaGreatDoor
/-
  Labels: which lists of tags may be.
-/
namespace Go.Lz
open Go.RowKit
def tagB (x : Int) : Bool := decide (1 ≤ x) && decide (x ≤ 2147483647)
def okTag (l : List Int) (i : Nat) : Bool := tagB (l.getD i 0) && (decide (i = 0) || decide (l.getD (i - 1) 0 < l.getD i 0))
def isSetB (l : List Int) : Bool := (List.range l.length).all (okTag l) && decide (l.length ≤ 16)
end Go.Lz
namespace Go.Proofs.YtjngphffgdjcfaaGreatDoor
open Go.RowKit Go.Lz
section
variable {w : World} {G : Nat → Prop}
theorem tag_any (w : World) (x : Int) : Calls Tryz.prog 106 #[.int .i64 x] w fun e w' => e = .returned (.bool (tagB x)) ∧ w = w' := by
  unfold tagB
  by_cases h1 : 1 ≤ x
  · by_cases h2 : x ≤ 2147483647
    · rw [decide_eq_true h1, decide_eq_true h2]
      go_enter Tryz.func106, Tryz.ntmps106
      go_wp2
      go_ret
      exact ⟨rfl, rfl⟩
    · rw [decide_eq_true h1, decide_eq_false h2]
      go_enter Tryz.func106, Tryz.ntmps106
      go_wp2
      go_ret
      exact ⟨rfl, rfl⟩
  · rw [decide_eq_false h1]
    go_enter Tryz.func106, Tryz.ntmps106
    go_wp2
    go_ret
    exact ⟨rfl, rfl⟩
theorem all_succ {p : Nat → Bool} (i : Nat) : (List.range (i + 1)).all p = ((List.range i).all p && p i) := by
  rw [List.range_succ, List.all_append]
  simp
set_option maxHeartbeats 1000000 in
set_option maxRecDepth 100000 in
theorem lset_any {v : Value} {l : List Int} (h : IntsAt w G v l) : Calls Tryz.prog 88 #[v] w fun e w' => e = .returned (.bool (isSetB l)) ∧ w = w' := by
  obtain ⟨a, n, c, rfl, hl, hn, hc⟩ := h
  have hb : isSetB l = ((List.range n).all (okTag l) && decide (n ≤ 16)) := by unfold isSetB; rw [hl]
  rw [hb]
  have hfin : Hid (∀ i, i < n → okTag l i = false → ((List.range n).all (okTag l) && decide (n ≤ 16)) = false) := Lib.hid fun i hi h => by
    rw [show (List.range n).all (okTag l) = false from by
      rw [List.all_eq_false]
      exact ⟨i, by simpa using hi, by simp [h]⟩]
    rfl
  clear hb
  obtain ⟨R, hR⟩ : ∃ R, R = ((List.range n).all (okTag l) && decide (n ≤ 16)) := ⟨_, rfl⟩
  rw [← hR] at hfin ⊢
  have hRH : Hid _ := Lib.hid hR
  clear hR
  go_enter Tryz.func88, Tryz.ntmps88
  go_wp2_with fail
  go_loopg [7, 2, 3, 4, 8, 9, 10, 11, 12, 13, 14, 15, 16, 17, 18, 19, 20, 21, 22, 23, 24, 25, 26, 27, 28] n (fun g iv _ _ _ _ _ _ _ _ _ _ _ _ _ _ _ _ _ _ _ _ _ _ _ _ wr => ∃ i : Nat, i + g = n ∧ iv = .int .i64 (i : Int) ∧ (List.range i).all (okTag l) = true ∧ wr = w)
  case atStart => exact ⟨0, by omega, rfl, rfl, rfl⟩
  case round =>
    obtain ⟨i, hi, rfl, hall, rfl⟩ := hrel
    have hallH : Hid _ := Lib.hid hall
    clear hall
    by_cases hlt : i < n
    · have hiz : (i : Int) < (n : Int) := by omega
      rcases hc with h0 | ⟨g, off, rfl, hg, hgl, hcell⟩
      · omega
      have c1 := hcell i hlt
      have cT := tag_any wr (l.getD i 0)
      have hok : okTag l i = (tagB (l.getD i 0) && (decide (i = 0) || decide (l.getD (i - 1) 0 < l.getD i 0))) := rfl
      have hokH : Hid _ := Lib.hid hok
      clear hok
      have hc0 : i ≠ 0 → wr.cell? ⟨g, off + (i - 1), none⟩ = some (.int .i64 (l.getD (i - 1) 0)) := fun h => hcell (i - 1) (by omega)
      clear hcell
      generalize l.getD i 0 = x at *
      generalize l.getD (i - 1) 0 = pv at *
      cases hT : tagB x with
      | false =>
        rw [hT] at cT
        have hf := hfin.out i hlt (by rw [hokH.out, hT]; rfl)
        go_wp2_with (go_at_call 106; refine cT.mono ?_; rintro e w2 ⟨rfl, rfl⟩)
        go_ret
        exact ⟨by rw [hf]; rfl, rfl⟩
      | true =>
        rw [hT] at cT
        by_cases hi0 : i = 0
        · have hi0z : ¬ (0 : Int) < (i : Int) := by omega
          have hi0H : Hid _ := Lib.hid hi0
          clear hi0
          go_wp2_with (go_at_call 106; refine cT.mono ?_; rintro e w2 ⟨rfl, rfl⟩)
          go_roundg (gk - 1)
          case measure => omega
          case rel => exact ⟨i + 1, by omega, by go_num, by rw [all_succ, hallH.out, hokH.out, hT, decide_eq_true hi0H.out]; rfl, rfl⟩
        · have hi0z : (0 : Int) < (i : Int) := by omega
          have c0 := hc0 hi0
          have e1 : ((i : Int) - 1) = ((i - 1 : Nat) : Int) := by omega
          have hii : (0 : Int) ≤ (i : Int) - 1 := by omega
          clear e1
          have hin : (i : Int) - 1 < (n : Int) := by omega
          have e2 : ((i : Int) - 1).toNat = i - 1 := by omega
          by_cases hlt2 : pv < x
          · have hle : ¬ x ≤ pv := by omega
            go_wp2_with (go_at_call 106; refine cT.mono ?_; rintro e w2 ⟨rfl, rfl⟩)
            go_roundg (gk - 1)
            case measure => omega
            case rel => exact ⟨i + 1, by omega, by go_num, by rw [all_succ, hallH.out, hokH.out, hT, decide_eq_false hi0, decide_eq_true hlt2]; rfl, rfl⟩
          · have hle : x ≤ pv := by omega
            have hf := hfin.out i hlt (by rw [hokH.out, hT, decide_eq_false hi0, decide_eq_false hlt2]; rfl)
            go_wp2_with (go_at_call 106; refine cT.mono ?_; rintro e w2 ⟨rfl, rfl⟩)
            go_ret
            exact ⟨by rw [hf]; rfl, rfl⟩
    · have hiz : ¬ (i : Int) < (n : Int) := by omega
      obtain rfl : i = n := by omega
      have hR : R = decide (i ≤ 16) := by rw [hRH.out, hallH.out]; rfl
      have hRH2 : Hid _ := Lib.hid hR
      clear hR
      by_cases h16 : i ≤ 16
      · have h16z : (i : Int) ≤ 16 := by omega
        go_wp2_with fail
        go_ret
        exact ⟨by rw [hRH2.out, decide_eq_true h16]; rfl, rfl⟩
      · have h16z : ¬ (i : Int) ≤ 16 := by omega
        go_wp2_with fail
        go_ret
        exact ⟨by rw [hRH2.out, decide_eq_false h16]; rfl, rfl⟩
theorem IntsAt.below {w w' : World} {v : Value} {l : List Int} (h : IntsAt w G v l) (hb : Below w.heap.size w w') : IntsAt w' G v l := h.heap hb.size (fun k _ hk => hb.block k hk)
theorem IntsAt.form {w : World} {v : Value} {l : List Int} (h : IntsAt w G v l) : ∃ a c, v = .slice a l.length c := by
  obtain ⟨a, n, c, rfl, rfl, _⟩ := h
  exact ⟨a, c, rfl⟩
set_option maxRecDepth 100000 in
theorem may_any {vS vI : Value} {S I : List Int} (hS : IntsAt w G vS S) (hI : IntsAt w G vI I) : Calls Tryz.prog 59 #[.agg #[vS, vI]] w fun e w' => e = .returned (.bool (isSetB S && isSetB I)) ∧ Below w.heap.size w w' := by
  have hb : Below w.heap.size w (w.alloc (.cells #[vS, vI] 34)) := (Below.refl _ w).alloc (Nat.le_refl _) _
  have cS := lset_any (IntsAt.below hS hb)
  have cI := lset_any (IntsAt.below hI hb)
  obtain ⟨a1, c1, rfl⟩ := IntsAt.form hS
  obtain ⟨a2, c2, rfl⟩ := IntsAt.form hI
  have hbH : Hid _ := Lib.hid hb
  clear hb
  cases h : isSetB S with
  | false =>
    rw [h] at cS
    go_enter Tryz.func59, Tryz.ntmps59
    go_wp2_with (go_at_call 88; refine cS.mono ?_; rintro e w' ⟨rfl, rfl⟩)
    go_ret
    exact ⟨rfl, hbH.out⟩
  | true =>
    rw [h] at cS
    go_enter Tryz.func59, Tryz.ntmps59
    go_wp2_with (first
      | (go_at_call 88; with_reducible refine cS.mono ?_; rintro e w' ⟨rfl, rfl⟩)
      | (go_at_call 88; with_reducible refine cI.mono ?_; rintro e w' ⟨rfl, rfl⟩))
    go_ret
    exact ⟨rfl, hbH.out⟩
/-- A set as bytes. -/
def _root_.Go.Lz.setCode (l : List Int) : Bytes := lowByte (l.length : Int) :: l.flatMap fourB
theorem four_flat : ∀ (l : List Int), (l.flatMap fourB).length = 4 * l.length
  | [] => rfl
  | x :: l => by rw [List.flatMap_cons, List.length_append, four_flat l, List.length_cons]; simp [fourB]; omega
theorem setCode_len {l : List Int} : (setCode l).length = 4 * l.length + 1 := by
  unfold setCode
  rw [List.length_cons, four_flat]
/-- Bytes in a row of the call's own. -/
def OwnB (w0 w : World) (v : Value) (b : Bytes) : Prop := w.ownsRow w0.heap.size 5 1 v b.length (b.map u8v) ∧ Below w0.heap.size w0 w
theorem OwnB.app {w0 w w2 : World} {v v2 : Value} {b c : Bytes} (h : OwnB w0 w v b) (hown : w2.ownsRow w0.heap.size 5 1 v2 (b.length + c.length) (b.map u8v ++ c.map u8v)) (hg : w.grownBy w2 v.ownBlock) : OwnB w0 w2 v2 (b ++ c) :=
  ⟨by rw [List.length_append, List.map_append]; exact hown, h.2.grown hg h.2.size (fun k hk => (h.1.lt k hk).1)⟩
theorem OwnB.below {w0 w w2 : World} {v : Value} {b : Bytes} (h : OwnB w0 w v b) (hb : Below w.heap.size w w2) : OwnB w0 w2 v b :=
  ⟨ownsRow_chg h.1 (M := fun _ => False) (Chg.of_below hb) (fun _ _ h => h), h.2.trans (hb.mono h.2.size)⟩
def EncPost (w : World) (S I : List Int) (e : Ending) (w' : World) : Prop :=
  Below w.heap.size w w' ∧ ((isSetB S && isSetB I) = false ∧ e = .returned (.tuple #[.slice none 0 0, .int .i64 1]) ∨
  (isSetB S && isSetB I) = true ∧ ∃ v, e = .returned (.tuple #[v, .int .i64 0]) ∧ ∃ g, Dat 5 w' (· = g) v (setCode S ++ setCode I) ∧ w.heap.size ≤ g)
theorem isSetB_len {l : List Int} (h : isSetB l = true) : l.length ≤ 16 := by
  unfold isSetB at h
  rw [Bool.and_eq_true] at h
  simpa using h.2
theorem idx0 (u v : Value) (W : World) : (Instr.index 114 (.agg #[u, v]) (.int .i64 0)).run Tryz.prog W = .ok u W := by kernel_rfl
theorem idx1 (u v : Value) (W : World) : (Instr.index 114 (.agg #[u, v]) (.int .i64 1)).run Tryz.prog W = .ok v W := by kernel_rfl
set_option maxHeartbeats 2000000 in
set_option maxRecDepth 100000 in
theorem encode_any {vS vI : Value} {S I : List Int} (hS : IntsAt w G vS S) (hI : IntsAt w G vI I) : Calls Tryz.prog 22 #[.agg #[vS, vI]] w (EncPost w S I) := by
  have hb : Below w.heap.size w (w.alloc (.cells #[vS, vI] 34)) := (Below.refl _ w).alloc (Nat.le_refl _) _
  have cM := may_any (IntsAt.below hS hb) (IntsAt.below hI hb)
  obtain ⟨a1, c1, rfl⟩ := IntsAt.form hS
  obtain ⟨a2, c2, rfl⟩ := IntsAt.form hI
  have hbH : Hid _ := Lib.hid hb
  obtain ⟨w1, hw1⟩ : ∃ w1, w1 = w.alloc (.cells #[.slice a1 S.length c1, .slice a2 I.length c2] 34) := ⟨_, rfl⟩
  have k1 : w1.heap[w.heap.size]? = some (.cells #[.slice a1 S.length c1, .slice a2 I.length c2] 34 (0, 0)) := by rw [hw1]; exact heap_alloc_new w _
  rw [← hw1] at cM hbH
  have hw1H : Hid _ := Lib.hid hw1
  clear hw1 hb
  cases h : (isSetB S && isSetB I) with
  | false =>
    rw [h] at cM
    go_enter Tryz.func22, Tryz.ntmps22
    go_wp2_with (rw [← hw1H.out]; go_at_call 59; refine cM.mono ?_; rintro e w2 ⟨rfl, hb2⟩)
    go_ret2
    exact ⟨hbH.out.trans (hb2.mono hbH.out.size), .inl ⟨h, rfl⟩⟩
  | true =>
    rw [h] at cM
    rw [Bool.and_eq_true] at h
    have hS16 := isSetB_len h.1
    have hI16 := isSetB_len h.2
    go_enter Tryz.func22, Tryz.ntmps22
    go_wp2_with (rw [← hw1H.out]; go_at_call 59; refine cM.mono ?_; rintro e w2 ⟨rfl, hb2⟩; have k2 := (hb2.block _ (lt_of_heap k1)).trans k1; have c20 := cell_of k2 0; have c21 := cell_of k2 1)
    have hb2H : Hid _ := Lib.hid (hbH.out.trans (hb2.mono hbH.out.size))
    have hS2 := IntsAt.below hS hb2H.out
    have hI2 := IntsAt.below hI hb2H.out
    obtain ⟨cd, hcd⟩ : ∃ cd : Nat → Bytes, cd = fun i => ([S, I].take i).flatMap setCode := ⟨_, rfl⟩
    have e0 : Hid (cd 0 = []) := Lib.hid (by rw [hcd]; rfl)
    have e1 : Hid (cd 1 = cd 0 ++ setCode S) := Lib.hid (by rw [hcd]; simp)
    have e2 : Hid (cd 2 = cd 1 ++ setCode I) := Lib.hid (by rw [hcd]; simp)
    have eF : Hid (cd 2 = setCode S ++ setCode I) := Lib.hid (by rw [hcd]; simp)
    have hl1 : Hid (∀ i, i ≤ 2 → (cd i).length ≤ 65 * i) := Lib.hid (fun i hi => by
      match i, hi with
      | 0, _ => rw [e0.out]; exact Nat.zero_le _
      | 1, _ => rw [e1.out, e0.out, List.length_append]; have := setCode_len (l := S); simp; omega
      | 2, _ => rw [eF.out, List.length_append]; have := setCode_len (l := S); have := setCode_len (l := I); omega
      | n + 3, h => omega)
    clear hcd hS hI hb2 k1 k2 cM
    have hO0 : Hid (OwnB w2 w2 (.slice none 0 0) (cd 0)) := Lib.hid (by rw [e0.out]; exact ⟨⟨rfl, .inl ⟨rfl, rfl⟩⟩, Below.refl _ _⟩)
    go_loopg [17, 4, 6, 8, 18, 19, 20, 21, 22, 23, 24, 25, 26, 27, 28, 29, 30, 31, 32, 33, 34, 35, 36, 37, 38, 39, 40, 41, 42, 43, 44, 45, 46, 47] 2 (fun g iv bv _ _ _ _ _ _ _ _ _ _ _ _ _ _ _ _ _ _ _ _ _ _ _ _ _ _ _ _ _ _ _ _ wr => ∃ i : Nat, i + g = 2 ∧ iv = .int .i64 (i : Int) ∧ OwnB w2 wr bv (cd i))
    case atStart => exact ⟨0, rfl, rfl, hO0.out⟩
    case round =>
      obtain ⟨i, hi, rfl, hO⟩ := hrel
      rename World => wr
      by_cases hlt : i < 2
      · have hiz : (i : Int) < 2 := by omega
        have hlc := hl1.out i (by omega)
        rcases (show i = 0 ∨ i = 1 by omega) with rfl | rfl
        case' inl =>
          obtain ⟨li, ai, ci, d1, d2, d3⟩ : ∃ li ai ci, li = S ∧ ai = a1 ∧ ci = c1 := ⟨_, _, _, rfl, rfl, rfl⟩
          have hL := hS2
          have hnx : Hid (cd 1 = cd 0 ++ setCode S) := e1
          have hix := idx0
          obtain ⟨gm, hgm⟩ : ∃ gm : Nat, gm = 1 := ⟨_, rfl⟩
          obtain ⟨ii, hii⟩ : ∃ ii : Nat, ii = 1 := ⟨_, rfl⟩
          obtain ⟨CDI, hCDI⟩ : ∃ CDI, CDI = cd 0 := ⟨_, rfl⟩
          obtain ⟨CDJ, hCDJ⟩ : ∃ CDJ, CDJ = cd 1 := ⟨_, rfl⟩
          rw [← hCDI] at hO hlc
          have hnx3 : Hid (cd ii = CDJ) := Lib.hid (by rw [hii, hCDJ])
          have hgmH : Hid _ := Lib.hid hgm
          have hiiH : Hid _ := Lib.hid hii
          clear hgm hii
          have hnx2 : Hid (CDJ = CDI ++ setCode S) := Lib.hid (by rw [hCDI, hCDJ]; exact e1.out)
          have hl16 := hS16
          subst d1 d2 d3
        case' inr =>
          obtain ⟨li, ai, ci, d1, d2, d3⟩ : ∃ li ai ci, li = I ∧ ai = a2 ∧ ci = c2 := ⟨_, _, _, rfl, rfl, rfl⟩
          have hL := hI2
          have hnx : Hid (cd 2 = cd 1 ++ setCode I) := e2
          have hix := idx1
          obtain ⟨gm, hgm⟩ : ∃ gm : Nat, gm = 0 := ⟨_, rfl⟩
          obtain ⟨ii, hii⟩ : ∃ ii : Nat, ii = 2 := ⟨_, rfl⟩
          obtain ⟨CDI, hCDI⟩ : ∃ CDI, CDI = cd 1 := ⟨_, rfl⟩
          obtain ⟨CDJ, hCDJ⟩ : ∃ CDJ, CDJ = cd 2 := ⟨_, rfl⟩
          rw [← hCDI] at hO hlc
          have hnx3 : Hid (cd ii = CDJ) := Lib.hid (by rw [hii, hCDJ])
          have hgmH : Hid _ := Lib.hid hgm
          have hiiH : Hid _ := Lib.hid hii
          clear hgm hii
          have hnx2 : Hid (CDJ = CDI ++ setCode I) := Lib.hid (by rw [hCDI, hCDJ]; exact e2.out)
          have hl16 := hI16
          subst d1 d2 d3
        all_goals
          obtain ⟨i0, hi0, hz0, hz1, hz2⟩ := info_parts info_u8
          have hOH : Hid _ := Lib.hid hO
          have hLH : Hid _ := Lib.hid hL
          clear hO hL
          have hlc2 : Hid _ := Lib.hid hlc
          have hl16H : Hid _ := Lib.hid hl16
          have hlz : (li.length : Int) ≤ 16 := by omega
          have hlw : Hid (u8v (lowByte (li.length : Int)) = .int .u8 (li.length : Int)) := Lib.hid (by rw [lowByte_u8v, Int.emod_eq_of_lt (by omega) (by omega)])
          go_wp2_with (at_builtin; refine wpList_append_own_at _ rfl _ _ 23 rfl w2.heap.size 5 i0 (.int .u8 0) 1 1 Tryz.underlying23 hi0 hz0 hz1 hz2 rfl (by decide) u4 _ _ rfl (hOH.out.below ((Below.refl _ wr).alloc (Nat.le_refl _) _)).1 ⟨wr.heap.size, 0, none⟩ 1 1 ([lowByte (li.length : Int)].map u8v) rfl rfl (Src.news (by intro j u hu; rw [Nat.zero_add, cell_of (heap_alloc_new wr _)]; simpa [hlw.out] using hu)) (oneCells _) (by have := hlc2.out; unfold maxLen; omega) (by have := hlc2.out; omega) (by have := hOH.out.2.size; simp; omega) ?_; intro v6 w6 hown6 hgrow6 hnil6 hat6)
          have hw6 := (hOH.out.below ((Below.refl _ wr).alloc (Nat.le_refl _) (.cells #[.int .u8 (li.length : Int)] 5))).app (c := [lowByte (li.length : Int)]) hown6 hgrow6
          have hw6H : Hid _ := Lib.hid hw6
          obtain ⟨cb, hcb⟩ : ∃ cb, cb = u4 := ⟨_, rfl⟩
          clear hw6 hown6 hgrow6 hnil6 hat6 hOH hcb cb
          go_loopg [28, 4, 8, 29, 30, 31, 32, 33, 34, 35, 36, 37, 38, 39, 40, 41, 42, 43, 44, 45, 46] (li.length) (fun g jv bv2 _ _ _ _ _ _ _ _ _ _ _ _ _ _ _ _ _ _ _ wr => ∃ j : Nat, j + g = li.length ∧ jv = .int .i64 (j : Int) ∧ OwnB w2 wr bv2 (CDI ++ [lowByte (li.length : Int)] ++ (li.take j).flatMap fourB))
          case atStart => exact ⟨0, by omega, rfl, by simpa using hw6H.out⟩
          case round =>
            obtain ⟨j, hj, rfl, hO⟩ := hrel
            rename World => wj
            have hOH : Hid _ := Lib.hid hO
            have hLj := IntsAt.below hLH.out hO.2
            clear hO
            by_cases hjl : j < li.length
            · have hjz : (j : Int) < (li.length : Int) := by omega
              obtain ⟨a', n', c', ea, en, hn', hcl⟩ := hLj
              injection ea with ea1 ea2 ea3
              subst ea1 ea2 ea3
              rcases hcl with h0 | ⟨gg, off, rfl, hGg, hgl, hcell⟩
              · omega
              have cj := hcell j hjl
              have htk : (li.take (j + 1)).flatMap fourB = (li.take j).flatMap fourB ++ fourB (li.getD j 0) := by
                rw [List.take_succ_eq_append_getElem hjl, List.flatMap_append]
                simp [List.getD, hjl]
              have htkH : Hid _ := Lib.hid htk
              clear hcell htk
              generalize li.getD j 0 = x at *
              have hlen3 : Hid ((CDI ++ [lowByte (li.length : Int)] ++ (li.take j).flatMap fourB).length ≤ 200) := Lib.hid (by
                rw [List.length_append, List.length_append, four_flat, List.length_take]
                have := hlc2.out
                simp
                omega)
              have hf4 : (fourB x).length = 4 := rfl
              have hf4H : Hid _ := Lib.hid hf4
              clear hf4
              go_wp2_with (at_builtin; refine wpList_append_own_at _ rfl _ _ 23 rfl w2.heap.size 5 i0 (.int .u8 0) 1 1 Tryz.underlying23 hi0 hz0 hz1 hz2 rfl (by decide) _ _ _ rfl (hOH.out.below ((Below.refl _ wj).alloc (Nat.le_refl _) _)).1 ⟨wj.heap.size, 0, none⟩ 4 4 ((fourB x).map u8v) rfl rfl (Src.news (by intro j u hu; rw [Nat.zero_add, cell_of (heap_alloc_new wj _)]; simpa [fourB, lowByte_u8v] using hu)) (oneCells _) (by have := hlen3.out; unfold maxLen; omega) (by have := hlen3.out; omega) (by have := hOH.out.2.size; simp; omega) ?_; intro v7 w7 hown7 hgrow7 hnil7 hat7)
              go_roundg (gk - 1)
              case measure => omega
              case rel => exact ⟨j + 1, by omega, by go_num, by rw [htkH.out, ← List.append_assoc]; exact (hOH.out.below ((Below.refl _ wj).alloc (Nat.le_refl _) _)).app (c := fourB x) hown7 hgrow7⟩
            · have hjz : ¬ (j : Int) < (li.length : Int) := by omega
              have hjl2 : j = li.length := by omega
              have hOe := hOH.out
              rw [List.take_of_length_le (by omega), List.append_assoc] at hOe
              have hOe2 : OwnB w2 wj _ (CDI ++ setCode li) := hOe
              rw [← hnx2.out, ← hnx3.out] at hOe2
              have hOeH : Hid _ := Lib.hid hOe2
              clear hOe hOe2 hjl2 hjl
              go_wp2_with fail
              go_roundg gm
              case measure => have := hgmH.out; omega
              case rel => exact ⟨ii, by have := hgmH.out; have := hiiH.out; omega, by rw [hiiH.out]; rfl, hOeH.out⟩
      · have hiz : ¬ (i : Int) < 2 := by omega
        have hi2 : i = 2 := by omega
        subst hi2
        have hOH : Hid _ := Lib.hid hO
        obtain ⟨⟨hl0, hrc⟩, hbw⟩ := hO
        have hlp : Hid (1 ≤ (cd 2).length) := Lib.hid (by rw [eF.out, List.length_append, setCode_len]; omega)
        rcases hrc with ⟨_, hl⟩ | ⟨g, cp, cur, rfl, hg1, hg2, hg3, hg4, hg5, hg6⟩
        · have := hlp.out
          omega
        · have hg6H : Hid _ := Lib.hid hg6
          have hl0H : Hid _ := Lib.hid hl0
          clear hg6 hl0
          go_wp2_with (go_at_call 40; refine (clip_bytes _ _ _ _ hg3 hg4).mono ?_; rintro e w8 ⟨rfl, rfl⟩)
          go_ret2
          have hbb : Below w.heap.size w wr := hb2H.out.trans (hbw.mono hb2H.out.size)
          have hszb := hb2H.out.size
          refine ⟨hbb, .inr ⟨by rw [h.1, h.2]; rfl, _, rfl, g, ?_, by omega⟩⟩
          rw [← eF.out]
          refine ⟨g, (cd 2).length, cur, rfl, rfl, hg2, Nat.le_refl _, by omega, by omega, ?_⟩
          have := hg6H.out
          rw [Nat.mul_one] at this
          exact this
end
end Go.Proofs.YtjngphffgdjcfaaGreatDoor
/-
  Labels: a set read off its bytes.
-/
namespace Go.Proofs.YtjngphffgdjcfaaGreatDoor
open Go.RowKit Go.Lz
section
variable {w : World} {G : Nat → Prop}
theorem setCode_at {l : List Int} {rest : Bytes} {i : Nat} (hi : i < l.length) (k : Nat) (hk : k < 4) : (setCode l ++ rest).getD (1 + 4 * i + k) 0 = (fourB (l.getD i 0)).getD k 0 := by
  have key : ∀ (l : List Int) (i : Nat), i < l.length → (l.flatMap fourB ++ rest).getD (4 * i + k) 0 = (fourB (l.getD i 0)).getD k 0 := by
    intro l
    induction l with
    | nil => intro i hi; cases hi
    | cons x l ih =>
      intro i hi
      have h4 : (fourB x).length = 4 := rfl
      rw [List.flatMap_cons, List.append_assoc]
      cases i with
      | zero =>
        rw [List.getD_eq_getElem?_getD, List.getElem?_append_left (by rw [h4]; omega), Nat.mul_zero, Nat.zero_add]
        rfl
      | succ i =>
        rw [List.getD_eq_getElem?_getD, List.getElem?_append_right (by rw [h4]; omega), h4, show 4 * (i + 1) + k - 4 = 4 * i + k by omega, ← List.getD_eq_getElem?_getD]
        exact ih i (by simpa using hi)
  have := key l i hi
  unfold setCode
  rw [List.cons_append, show 1 + 4 * i + k = (4 * i + k) + 1 by omega, List.getD_cons_succ]
  exact this
theorem isSetB_at {l : List Int} (h : isSetB l = true) {i : Nat} (hi : i < l.length) : 1 ≤ l.getD i 0 ∧ l.getD i 0 ≤ 2147483647 ∧ (0 < i → l.getD (i - 1) 0 < l.getD i 0) := by
  unfold isSetB at h
  rw [Bool.and_eq_true] at h
  have := List.all_eq_true.1 h.1 i (by simpa using hi)
  unfold okTag tagB at this
  simp at this
  exact ⟨this.1.1, this.1.2, fun h0 => this.2.resolve_left (by omega)⟩
def LSetPost (w : World) (l : List Int) (e : Ending) (w' : World) : Prop := ∃ v, e = .returned (.tuple #[v, .int .i64 ((4 * l.length + 1 : Nat) : Int), .int .i64 0]) ∧ IntsAt w' (fun g => w.heap.size ≤ g) v l ∧ Below w.heap.size w w'
theorem map_at {bs : Bytes} {j : Nat} (hj : j < bs.length) : (bs.map u8v)[j]? = some (u8v (bs.getD j 0)) := by
  rw [List.getElem?_map, List.getElem?_eq_getElem hj]
  simp [List.getD, hj]
theorem or4p {a b c d : Nat} (ha : a < 256) (hb : b < 256) (hc : c < 256) (hd : d < 256) : bits BinOp.or IntKind.i64 (bits BinOp.or IntKind.i64 (bits BinOp.or IntKind.i64 ((a : Int) * 16777216) ((b : Int) * 65536)) ((c : Int) * 256)) (d : Int) = (a : Int) * 16777216 + (b : Int) * 65536 + (c : Int) * 256 + (d : Int) := by
  have h := or4 ha hb hc hd
  have e : ∀ z : Int, 0 ≤ z → z ≤ 4294967296 → IntKind.i64.wrap z = z := fun z h0 h1 => by rw [IntKind.wrap_i64]; omega
  rw [e (a : Int) (by omega) (by omega), e (b : Int) (by omega) (by omega), e (c : Int) (by omega) (by omega), e (d : Int) (by omega) (by omega), e ((a : Int) * 16777216) (by omega) (by omega), e ((b : Int) * 65536) (by omega) (by omega), e ((c : Int) * 256) (by omega) (by omega)] at h
  exact h
theorem row_cell {w : World} {g n i : Nat} {cur : Array Value} {t : TypeId} {xs : List Value} {v : Value} (h : w.heap[g]? = some (.cells cur t (0, 0))) (hx : cur.toList.take (n * 1) = xs) (hi : i < n) (hv : xs[i]? = some v) : w.cell? ⟨g, i, none⟩ = some v := by
  rw [cell_of h]
  rw [← hx, List.getElem?_take, if_pos (by omega)] at hv
  simpa using hv
theorem news_val {W : World} {g : Nat} {v : Value} {t : TypeId} (h : W.heap[g]? = some (.cells #[v] t (0, 0))) : ∀ (j : Nat) u, [v][j]? = some u → W.cell? ((⟨g, 0, none⟩ : Addr).add j) = some u := fun j u hu => by
  cases j with
  | zero =>
    have hu' : v = u := by simpa using hu
    subst hu'
    show World.cell? _ ⟨g, 0, none⟩ = _
    unfold World.cell?
    rw [h]
    rfl
  | succ j => simp at hu
theorem info_int : (Tryz.prog.info? 3).map (fun i => (i.zero, i.size, i.bytes)) = some (some (.int .i64 0), 1, 8) := by kernel_rfl
set_option maxHeartbeats 2000000 in
set_option maxRecDepth 100000 in
theorem lset1_ok {v : Value} {l : List Int} {rest : Bytes} (hv : Src 5 w G v (setCode l ++ rest)) (h : isSetB l = true) : Calls Tryz.prog 95 #[v] w (LSetPost w l) := by
  obtain ⟨g, off, cap, cur, fr, rfl, hG, hg, hc, hm, hcs⟩ := hv
  have h16 := isSetB_len h
  have hlen : (setCode l ++ rest).length = 4 * l.length + 1 + rest.length := by rw [List.length_append, setCode_len]
  have hcell : ∀ j, j < (setCode l ++ rest).length → w.cell? ⟨g, off + j, none⟩ = some (u8v ((setCode l ++ rest).getD j 0)) := fun j hj => hcs j _ (map_at hj)
  have c00 := hcell 0 (by omega)
  rw [Nat.add_zero] at c00
  have e00 : u8v ((setCode l ++ rest).getD 0 0) = .int .u8 (l.length : Int) := by
    show u8v (lowByte (l.length : Int)) = _
    rw [lowByte_u8v, Int.emod_eq_of_lt (by omega) (by omega)]
  rw [e00] at c00
  have hcellH : Hid _ := Lib.hid hcell
  obtain ⟨n, hn⟩ : ∃ n, n = (setCode l ++ rest).length := ⟨_, rfl⟩
  rw [← hn] at hc ⊢
  have hn1 : 4 * l.length + 1 ≤ n := by omega
  have hnH : Hid _ := Lib.hid hn
  have hhH : Hid _ := Lib.hid h
  have hgl := lt_of_heap hg
  have hn0 : ((n : Int) == 0) = false := by simp; omega
  have hn2 : (0 : Int) < (n : Int) := by omega
  have hn3 : 0 < n := by omega
  have hl16 : ¬ (16 : Int) < (l.length : Int) := by omega
  clear hcs hcell hn hg e00 hlen h
  go_enter Tryz.func95, Tryz.ntmps95
  go_wp2_with fail
  obtain ⟨i0, hi0, hz0, hz1, hz2⟩ := info_parts info_int
  go_loopg [18, 2, 3, 6, 7, 19, 20, 21, 22, 23, 24, 25, 26, 27, 28, 29, 30, 31, 32, 33, 34, 35, 36, 37, 38, 39, 40, 41, 42, 43, 44, 45, 46, 47, 48, 49, 50, 51, 52, 53, 54, 55, 56, 57, 58, 59, 60, 61, 62, 63, 64, 65, 66, 67, 68, 69, 70, 71, 72, 73, 74, 75, 76, 77] (l.length) (fun g iv lv uv _ _ _ _ _ _ _ _ _ _ _ _ _ _ _ _ _ _ _ _ _ _ _ _ _ _ _ _ _ _ _ _ _ _ _ _ _ _ _ _ _ _ _ _ _ _ _ _ _ _ _ _ _ _ _ _ _ _ _ _ _ wr => ∃ i : Nat, i + g = l.length ∧ iv = .int .i64 (i : Int) ∧ uv = .int .i64 ((4 * i + 1 : Nat) : Int) ∧ wr.ownsRow w.heap.size 3 1 lv i ((l.take i).map (Value.int .i64)) ∧ Below w.heap.size w wr)
  case atStart => exact ⟨0, by omega, rfl, rfl, ⟨rfl, .inl ⟨rfl, rfl⟩⟩, Below.refl _ _⟩
  case round =>
    obtain ⟨i, hi, rfl, rfl, hrow, hb⟩ := hrel
    rename World => wr
    have hrowH : Hid _ := Lib.hid hrow
    have hbH : Hid _ := Lib.hid hb
    clear hrow
    by_cases hlt : i < l.length
    · have hiz : (i : Int) < (l.length : Int) := by omega
      obtain ⟨t1, t2, t3⟩ := isSetB_at hhH.out hlt
      obtain ⟨U, hU⟩ : ∃ U, U = 4 * i + 1 := ⟨_, rfl⟩
      rw [← hU]
      have hcw : ∀ k, k < 4 → wr.cell? ⟨g, off + (U + k), none⟩ = some (u8v ((fourB (l.getD i 0)).getD k 0)) := fun k hk => by
        rw [← setCode_at (rest := rest) hlt k hk, hU, show 4 * i + 1 + k = 1 + 4 * i + k by omega]
        exact (hb.cell (p := ⟨g, off + (1 + 4 * i + k), none⟩) hgl).trans (hcellH.out _ (by rw [← hnH.out]; omega))
      have cx0 := hcw 0 (by omega)
      have cx1 := hcw 1 (by omega)
      have cx2 := hcw 2 (by omega)
      have cx3 := hcw 3 (by omega)
      rw [Nat.add_zero] at cx0
      have hbk := numB_four (l.getD i 0) (by omega) (by omega)
      have hUn : U + 4 ≤ n := by omega
      obtain ⟨U1, hU1⟩ : ∃ U1, U1 = U + 1 := ⟨_, rfl⟩
      obtain ⟨U2, hU2⟩ : ∃ U2, U2 = U + 2 := ⟨_, rfl⟩
      obtain ⟨U3, hU3⟩ : ∃ U3, U3 = U + 3 := ⟨_, rfl⟩
      rw [← hU1] at cx1
      rw [← hU2] at cx2
      rw [← hU3] at cx3
      have hnm : n ≤ 9223372036854775807 := by unfold maxLen at hm; omega
      have hU70 : U ≤ 70 := by omega
      have w1 : IntKind.i64.wrap ((U : Int) + 1) = (U1 : Int) := by rw [IntKind.wrap_i64]; omega
      have w2 : IntKind.i64.wrap ((U : Int) + 2) = (U2 : Int) := by rw [IntKind.wrap_i64]; omega
      have w3 : IntKind.i64.wrap ((U : Int) + 3) = (U3 : Int) := by rw [IntKind.wrap_i64]; omega
      have z0 : (U : Int) < (n : Int) := by omega
      have z1 : (U1 : Int) < (n : Int) := by omega
      have z2 : (U2 : Int) < (n : Int) := by omega
      have z3 : (U3 : Int) < (n : Int) := by omega
      have y0 : U < n := by omega
      have y1 : U1 < n := by omega
      have y2 : U2 < n := by omega
      have y3 : U3 < n := by omega
      have hz4 : ¬ (n : Int) - (U : Int) < 4 := by omega
      unfold u8v at cx0 cx1 cx2 cx3
      have b0 := ((fourB (l.getD i 0)).getD 0 0).toNat_lt
      have b1 := ((fourB (l.getD i 0)).getD 1 0).toNat_lt
      have b2 := ((fourB (l.getD i 0)).getD 2 0).toNat_lt
      have b3 := ((fourB (l.getD i 0)).getD 3 0).toNat_lt
      unfold numB at hbk
      generalize ((fourB (l.getD i 0)).getD 0 0).toNat = x0 at *
      generalize ((fourB (l.getD i 0)).getD 1 0).toNat = x1 at *
      generalize ((fourB (l.getD i 0)).getD 2 0).toNat = x2 at *
      generalize ((fourB (l.getD i 0)).getD 3 0).toNat = x3 at *
      have hUH : Hid (U = 4 * i + 1) := Lib.hid hU
      clear hcw hU1 hU2 hU3 hU hUn
      go_upto_region 12 with fail
      refine wp_region_quiet (C := fun W => W = wr.drew) (by kernel_rfl) (by kernel_rfl) rfl ?_
      repeat (any_goals (first | go_big_quiet_step (fail) | quiet_step (fail)))
      refine wpQuiet_nil ?_
      rintro _ rfl
      rw [or4p b0 b1 b2 b3, hbk]
      have cT := tag_any wr.drew (l.getD i 0)
      have hTt : tagB (l.getD i 0) = true := by unfold tagB; rw [decide_eq_true t1, decide_eq_true t2]; rfl
      rw [hTt] at cT
      have htk : (l.take (i + 1)).map (Value.int .i64) = (l.take i).map (Value.int .i64) ++ [.int .i64 (l.getD i 0)] := by
        rw [List.take_succ_eq_append_getElem hlt, List.map_append]
        congr 1
        simp [List.getD, hlt]
      have htkH : Hid _ := Lib.hid htk
      clear htk hTt w1 w2 w3 z0 z1 z2 z3 y0 y1 y2 y3 cx0 cx1 cx2 cx3 hbk b0 b1 b2 b3
      have hrd : Hid (wr.drew.ownsRow w.heap.size 3 1 u2 i ((l.take i).map (Value.int .i64))) := Lib.hid hrowH.out.drew
      by_cases hi0 : i = 0
      case' pos =>
        have hgu : ¬ (0 : Int) < (i : Int) := by omega
        have hi0H : Hid _ := Lib.hid hi0
        clear hi0 t3
      case' neg =>
        have hgu : (0 : Int) < (i : Int) := by omega
        obtain ⟨q1, q2⟩ := hrowH.out
        rcases q2 with ⟨_, q3⟩ | ⟨gl, cl, curl, rfl, r1, r2, r3, r4, r5, r6⟩
        · exact absurd q3 hi0
        have hpc : wr.drew.cell? ⟨gl, i - 1, none⟩ = some (.int .i64 (l.getD (i - 1) 0)) := row_cell r2 r6 (by omega) (by
          rw [List.getElem?_map, List.getElem?_take, if_pos (by omega), List.getElem?_eq_getElem (by omega)]
          simp [List.getD, show i - 1 < l.length by omega])
        have hii : (0 : Int) ≤ (i : Int) - 1 := by omega
        have hii2 : (i : Int) - 1 < (i : Int) := by omega
        have e2 : ((i : Int) - 1).toNat = i - 1 := by omega
        have t3 := t3 (by omega)
        have hle : ¬ l.getD i 0 ≤ l.getD (i - 1) 0 := by omega
        clear hi0
        generalize l.getD (i - 1) 0 = pv at *
      all_goals
        generalize l.getD i 0 = x at *
        go_wp2_with (first
          | (go_at_call 106; refine cT.mono ?_; rintro e w2 ⟨rfl, rfl⟩)
          | (at_builtin; refine wpList_append_own_at _ rfl _ _ 32 rfl w.heap.size 3 i0 (.int .i64 0) 1 8 Tryz.underlying32 hi0 hz0 hz1 hz2 rfl (by decide) _ _ _ rfl (ownsRow_chg (M := fun _ => False) hrowH.out (by exact ((Chg.refl _ wr).alloc _).drew) (fun _ _ h => h)) ⟨wr.heap.size, 0, none⟩ 1 1 [.int .i64 x] rfl rfl (by exact news_val (heap_alloc_new wr _)) (by simp [Value.oneCell']) (by unfold maxLen; omega) (by omega) (by have := hbH.out.size; simp; omega) ?_; intro v7 w7 hown7 hgrow7 hnil7 hat7))
        go_roundg (gk - 1)
        case measure => omega
        case rel =>
          refine ⟨i + 1, by omega, by go_num, by have := hUH.out; congr 1; omega, by rw [htkH.out]; exact hown7, ?_⟩
          exact Below.grown ((hbH.out.alloc hbH.out.size _).drew) hgrow7 (by have := hbH.out.size; simp; omega) (fun k e => (hrowH.out.lt k e).1)
    · have hiz : ¬ (i : Int) < (l.length : Int) := by omega
      obtain rfl : i = l.length := by omega
      have hrow2 := hrowH.out
      rw [List.take_length] at hrow2
      have hrow2H : Hid _ := Lib.hid hrow2
      rcases hrow2.2 with ⟨rfl, h0⟩ | ⟨gl, cl, curl, rfl, r1, r2, r3, r4, r5, r6⟩
      · clear hrow2
        go_wp2_with (go_at_call 77; refine (clipI_any _ _ _ _ (Nat.le_refl _) (by decide)).mono ?_; rintro e w8 ⟨rfl, rfl⟩)
        go_ret3
        exact ⟨.slice none 0 0, by rw [h0]; rfl, ⟨none, 0, 0, rfl, h0, by omega, .inl rfl⟩, hbH.out⟩
      · have r6H : Hid _ := Lib.hid r6
        clear hrow2 r6
        go_wp2_with (go_at_call 77; refine (clipI_any _ _ _ _ r3 r4).mono ?_; rintro e w8 ⟨rfl, rfl⟩)
        go_ret3
        refine ⟨_, rfl, ⟨_, _, _, rfl, rfl, by omega, .inr ⟨gl, 0, rfl, r1, lt_of_heap r2, fun j hj => ?_⟩⟩, hbH.out⟩
        rw [Nat.zero_add]
        exact row_cell r2 r6H.out hj (by rw [List.getElem?_map, List.getElem?_eq_getElem hj]; simp [List.getD, hj])
end
end Go.Proofs.YtjngphffgdjcfaaGreatDoor
/-
  Labels read off their bytes; whether a node is sound; the nodes that there are.
-/
namespace Go.Proofs.YtjngphffgdjcfaaGreatDoor
open Go.RowKit Go.Lz
section
variable {w w0 : World} {G : Nat → Prop}
def DecPost (w : World) (s i : List Int) (e : Ending) (w' : World) : Prop := ∃ vs vi, e = .returned (.tuple #[.agg #[vs, vi], .int .i64 (((4 * s.length + 1) + (4 * i.length + 1) : Nat) : Int), .int .i64 0]) ∧ IntsAt w' (fun g => w.heap.size ≤ g) vs s ∧ IntsAt w' (fun g => w.heap.size ≤ g) vi i ∧ Below w.heap.size w w'
theorem results_cell_tmp2 {fn : Func} {p u v : Tmp} {ty : TypeId} (h : fn.results = #[.cell p ty, .tmp u, .tmp v]) (tmps : Array Value) (P : Program) (w : World) :
    (results fn tmps).run P w = ((asAddr (tmps.getD p undef)).run P w).andThen fun a w₁ => ((loadVar ty a).run P w₁).andThen fun x w₂ => .ok (.tuple #[x, tmps.getD u undef, tmps.getD v undef]) w₂ := by
  simp only [results, h]
  simp [Sem.run_bind, Result.andThen]
set_option maxHeartbeats 2000000 in
set_option maxRecDepth 100000 in
theorem decode_ok {g off m cap : Nat} {s i : List Int} {rest : Bytes} (hv : Src 5 w G (.slice (some ⟨g, off, none⟩) m cap) (setCode s ++ setCode i ++ rest)) (hs : isSetB s = true) (hi : isSetB i = true) : Calls Tryz.prog 75 #[.slice (some ⟨g, off, none⟩) m cap] w (DecPost w s i) := by
  have hb0 : Below w.heap.size w (w.alloc (.cells #[.slice none 0 0, .slice none 0 0] 34)) := (Below.refl _ w).alloc (Nat.le_refl _) _
  have hs16 := isSetB_len hs
  have hi16 := isSetB_len hi
  obtain ⟨w1, hw1⟩ : ∃ w1, w1 = w.alloc (.cells #[.slice none 0 0, .slice none 0 0] 34) := ⟨_, rfl⟩
  have k1 : w1.heap[w.heap.size]? = some (.cells #[.slice none 0 0, .slice none 0 0] 34 (0, 0)) := by rw [hw1]; exact heap_alloc_new w _
  rw [← hw1] at hb0
  have hv1 := hv.chg (M := fun _ => False) (Chg.of_below hb0) (fun _ _ h => h)
  have cS := lset1_ok (rest := setCode i ++ rest) (by rw [← List.append_assoc]; exact hv1) hs
  have hw1H : Hid _ := Lib.hid hw1
  have hml : (setCode s ++ setCode i ++ rest).length = m := by
    obtain ⟨g', off', cap', cur, fr, e, _⟩ := hv
    injection e with _ e2 _
    exact e2.symm
  have hmc : m ≤ cap := by
    obtain ⟨g', off', cap', cur, fr, e, _, _, h4, _⟩ := hv
    injection e with _ _ e3
    rw [hml] at h4
    omega
  have hcm : cap ≤ maxLen := by
    obtain ⟨g', off', cap', cur, fr, e, _, _, _, h5, _⟩ := hv
    injection e with _ _ e3
    omega
  rw [List.length_append, List.length_append, setCode_len, setCode_len] at hml
  obtain ⟨U, hU⟩ : ∃ U, U = 4 * s.length + 1 := ⟨_, rfl⟩
  have hcU : ¬ cap = U := by omega
  have hUm : U ≤ m := by omega
  have cS' : Calls Tryz.prog 95 #[.slice (some ⟨g, off, none⟩) m cap] w1 fun e w2 => ∃ vs, e = .returned (.tuple #[vs, .int .i64 (U : Int), .int .i64 0]) ∧ IntsAt w2 (fun g => w1.heap.size ≤ g) vs s ∧ Below w1.heap.size w1 w2 := by rw [hU]; exact cS
  have cI : ∀ w2, Below w1.heap.size w1 w2 → Calls Tryz.prog 95 #[.slice (some ⟨g, off + U, none⟩) (m - U) (cap - U)] w2 (LSetPost w2 i) := fun w2 hb2 => by
    have h2 := Src.sub (hv1.chg (M := fun _ => False) (Chg.of_below hb2) (fun _ _ h => h)) (k := U) (l := m - U) (by rw [List.length_append, List.length_append, setCode_len, setCode_len]; omega)
    have e : ((setCode s ++ setCode i ++ rest).drop U).take (m - U) = setCode i ++ rest := by
      rw [List.append_assoc, List.drop_append_of_le_length (by rw [setCode_len]; omega), hU, ← setCode_len, List.drop_length, List.nil_append, List.take_of_length_le (by rw [List.length_append, setCode_len, setCode_len]; omega)]
    rw [e] at h2
    exact lset1_ok h2 hi
  have hsz1 : w1.heap.size = w.heap.size + 1 := by rw [hw1]; simp
  have hU1 : Hid (U = 4 * s.length + 1) := Lib.hid hU
  have hb0H : Hid _ := Lib.hid hb0
  have hUz : (U : Int) ≤ (m : Int) := by omega
  have hUz2 : (U : Int) ≤ (cap : Int) := by omega
  clear hw1 hU hb0 hv1 cS hml hv
  go_enter Tryz.func75, Tryz.ntmps75
  go_upto_region 4 with (rw [← hw1H.out]; go_at_call 95; refine cS'.mono ?_; rintro e w2 ⟨vs, rfl, hvs, hb2⟩)
  have k2 := (hb2.block _ (lt_of_heap k1)).trans k1
  obtain ⟨asx, csx, rfl⟩ := IntsAt.form hvs
  have cI2 := cI w2 hb2
  go_upto_region 7 with (go_at_call 95; refine cI2.mono ?_; rintro e w3 ⟨vi, rfl, hvi, hb3⟩)
  have k3 := (hb3.block _ (lt_of_heap k2)).trans k2
  obtain ⟨ai, ci, rfl⟩ := IntsAt.form hvi
  have c30 : w3.cell? ⟨w.heap.size, 0, none⟩ = some _ := cell_of k3 0
  have c31 : w3.cell? ⟨w.heap.size, 1, none⟩ = some _ := cell_of k3 1
  have f30 := frozen_of k3 0
  have f31 := frozen_of k3 1
  have hvs3 := IntsAt.below hvs hb3
  go_wp2_with fail
  have hW0 := heap_set_same (heap_set_same k3 0 (.slice asx s.length csx)) 1 (.slice ai i.length ci)
  have hWe : (((#[.slice none 0 0, .slice none 0 0] : Array Value).setIfInBounds 0 (.slice asx s.length csx)).setIfInBounds 1 (.slice ai i.length ci)) = #[.slice asx s.length csx, .slice ai i.length ci] := rfl
  rw [hWe] at hW0
  have hC4 : Chg (· = w.heap.size) w3 ((w3.setCell ⟨w.heap.size, 0, none⟩ (.slice asx s.length csx)).setCell ⟨w.heap.size, 1, none⟩ (.slice ai i.length ci)) := ((Chg.refl _ w3).own 0 _).own 1 _
  generalize (w3.setCell ⟨w.heap.size, 0, none⟩ (.slice asx s.length csx)).setCell ⟨w.heap.size, 1, none⟩ (.slice ai i.length ci) = w4 at hW0 hC4 ⊢
  have c40 : w4.cell? ⟨w.heap.size, 0, none⟩ = some (.slice asx s.length csx) := cell_of hW0 0
  have c41 : w4.cell? ⟨w.heap.size, 1, none⟩ = some (.slice ai i.length ci) := cell_of hW0 1
  clear hW0 c30 c31 f30 f31 k1 k2 k3
  try simp only [Exit.inBlock, Exit.then]
  refine bodyPost_ret (v := .tuple #[.agg #[.slice asx s.length csx, .slice ai i.length ci], .int .i64 (((4 * s.length + 1) + (4 * i.length + 1) : Nat) : Int), .int .i64 0]) ?_ rfl ?_
  · rw [results_cell_tmp2 rfl]
    go_simp
    have := hU1.out
    unfold wrap64
    omega
  · have hb03 : Below w.heap.size w w3 := hb0H.out.trans ((hb2.trans (hb3.mono hb2.size)).mono hb0H.out.size)
    refine ⟨_, _, rfl, (hvs3.chg hC4 (fun k hk _ e => ?_)).mono (fun k hk => ?_), (hvi.chg hC4 (fun k hk _ e => ?_)).mono (fun k hk => ?_), ?_⟩
    · have e : k = w.heap.size := e
      omega
    · omega
    · have e : k = w.heap.size := e
      have := hb2.size
      omega
    · have := hb2.size
      omega
    · exact hb03.trans ⟨hC4.os, hC4.tape, hC4.output, hC4.size, fun k hk => hC4.block k (by have := hb03.size; omega) (fun e => by have e : k = w.heap.size := e; omega)⟩
/-- A node that may be: its label, its kind, its room, its size. -/
structure _root_.Go.Lz.NodeOk (b : Bytes) (s i : List Int) : Prop where
  hs : isSetB s = true
  hi : isSetB i = true
  code : ∃ rest, (b.drop 7).take 133 = setCode s ++ setCode i ++ rest
  kind : (b.getD 0 0).toNat = 1 ∨ (b.getD 0 0).toNat = 2
  room : nRoom b ≤ 256
  size : nSize b ≤ 64 * nRoom b
set_option maxHeartbeats 4000000 in
set_option maxRecDepth 100000 in
theorem sound_ok {px gb cap n : Nat} {b : Bytes} {s i : List Int} (hx : NodeAt w px gb cap n b) (h : NodeOk b s i) : Calls Tryz.prog 44 #[Dptr px] w fun e w' => e = .returned (.bool true) ∧ Below w.heap.size w w' := by
  obtain ⟨hs, hi, ⟨rest, hcode⟩, hkind, hroom, hsize⟩ := h
  have hs16 := isSetB_len hs
  have hi16 := isSetB_len hi
  have hcap := hx.raw.1
  have hcapm := hx.raw.2.1
  have cx1 := hx.c1
  have hpc := Src.sub (hx.drop (k := 0) (by omega)) (k := 7) (l := 133) (by rw [List.drop_zero, hx.len]; omega)
  rw [List.drop_zero, hcode, Nat.zero_add] at hpc
  have cD := decode_ok hpc hs hi
  have hc7 : ¬ cap = 7 := by omega
  have ck : ∀ w', Below w.heap.size w w' → w'.cell? ⟨gb, 0, none⟩ = some (.int .u8 ((b.getD 0 0).toNat : Int)) := fun w' hb => ((hx.below hb).raw.2.2.2.2.2 0 (by omega)).1
  have cR : ∀ w', Below w.heap.size w w' → Calls Tryz.prog 27 #[Dptr px] w' fun e w2 => e = .returned (.int .i64 (nRoom b : Int)) ∧ Below w'.heap.size w' w2 := fun w' hb => room_any_ (hx.below hb)
  have cZ : ∀ w', Below w.heap.size w w' → Calls Tryz.prog 28 #[Dptr px] w' fun e w2 => e = .returned (.int .i64 (nSize b : Int)) ∧ Below w'.heap.size w' w2 := fun w' hb => nsize_any (hx.below hb)
  have cx : ∀ w', Below w.heap.size w w' → w'.cell? ⟨px, 1, none⟩ = some (.slice (some ⟨gb, 0, none⟩) 256 cap) := fun w' hb => (hx.below hb).c1
  generalize nRoom b = R at *
  generalize nSize b = z at *
  generalize (b.getD 0 0).toNat = kd at *
  have ckH : Hid _ := Lib.hid ck
  have cRH : Hid _ := Lib.hid cR
  have cZH : Hid _ := Lib.hid cZ
  have cxH : Hid _ := Lib.hid cx
  clear ck cR cZ cx hx hcode hpc
  go_enter Tryz.func44, Tryz.ntmps44
  go_upto_region 2 with (go_at_call 75; refine cD.mono ?_; rintro e w1 ⟨vs, vi, rfl, hvs, hvi, hb1⟩; obtain ⟨a1, c1, rfl⟩ := IntsAt.form hvs; obtain ⟨a2, c2, rfl⟩ := IntsAt.form hvi)
  have hb2 : Below w.heap.size w (w1.alloc (.cells #[.slice a1 s.length c1, .slice a2 i.length c2] 34)) := hb1.alloc hb1.size _
  have k2 : (w1.alloc (.cells #[.slice a1 s.length c1, .slice a2 i.length c2] 34)).heap[w1.heap.size]? = some (.cells #[.slice a1 s.length c1, .slice a2 i.length c2] 34 (0, 0)) := heap_alloc_new w1 _
  have hvs2 := IntsAt.below hvs ((Below.refl _ w1).alloc (Nat.le_refl _) (.cells #[.slice a1 s.length c1, .slice a2 i.length c2] 34))
  have hvi2 := IntsAt.below hvi ((Below.refl _ w1).alloc (Nat.le_refl _) (.cells #[.slice a1 s.length c1, .slice a2 i.length c2] 34))
  generalize w1.alloc (.cells #[.slice a1 s.length c1, .slice a2 i.length c2] 34) = w2 at hb2 k2 hvs2 hvi2 ⊢
  have cM := may_any hvs2 hvi2
  rw [hs, hi] at cM
  have ck2 := ckH.out w2 hb2
  have cx2 := cxH.out w2 hb2
  have d0 : w2.cell? ⟨w1.heap.size, 0, none⟩ = some _ := cell_of k2 0
  have d1 : w2.cell? ⟨w1.heap.size, 1, none⟩ = some _ := cell_of k2 1
  have hu : (4 * (s.length : Int) + 1 + (4 * (i.length : Int) + 1)) ≤ 133 := by omega
  have hz : (z : Int) ≤ 64 * (R : Int) := by omega
  have hR : (R : Int) ≤ 256 := by omega
  have hb2H : Hid _ := Lib.hid hb2
  clear hvs hvi hb1 hb2 k2 hvs2 hvi2
  rcases hkind with hk | hk
  all_goals
    subst hk
    go_wp2_with (first
      | (go_at_call 59; refine cM.mono ?_; rintro e w3 ⟨rfl, hb3'⟩; have hb3 : Hid _ := Lib.hid (hb2H.out.trans (hb3'.mono hb2H.out.size)); clear hb3')
      | (go_at_call 27; with_reducible refine (cRH.out w3 hb3.out).mono ?_; rintro e w4 ⟨rfl, hb4'⟩; have hb4 : Hid _ := Lib.hid (hb3.out.trans (hb4'.mono hb3.out.size)); clear hb4')
      | (go_at_call 28; refine (cZH.out w4 hb4.out).mono ?_; rintro e w5 ⟨rfl, hb5'⟩; have hb5 : Hid _ := Lib.hid (hb4.out.trans (hb5'.mono hb4.out.size)); clear hb5')
      | (go_at_call 27; with_reducible refine (cRH.out w5 hb5.out).mono ?_; rintro e w6 ⟨rfl, hb6'⟩; have hb6 : Hid _ := Lib.hid (hb5.out.trans (hb6'.mono hb5.out.size)); clear hb6'))
    go_ret
    exact ⟨rfl, hb6.out⟩
end
end Go.Proofs.YtjngphffgdjcfaaGreatDoor
/-
  A base's calls: which nodes there are; Make.
-/
namespace Go.Lz
open Go.RowKit Go.Proofs.YtjngphffgdjcfaaGreatDoor
/-- The numbers that are taken. -/
def WalS.nodesF (S : WalS) (m : Nat) : List Int := ((List.range m).filter (S.bit 0)).map fun (k : Nat) => ((k : Int) + 1)
def WalS.nodesL (S : WalS) : List Int := S.nodesF 64
end Go.Lz
namespace Go.Proofs.YtjngphffgdjcfaaGreatDoor
open Go.RowKit Go.Lz
section
variable {w w0 : World} {pb p q pn pk px gb cap n : Nat} {S : WalS} {Fs : Nat → Prop} {b : Bytes}
theorem nodesF_succ (S : WalS) (m : Nat) : S.nodesF (m + 1) = if S.bit 0 m = true then S.nodesF m ++ [((m : Int) + 1)] else S.nodesF m := by
  unfold WalS.nodesF
  rw [List.range_succ, List.filter_append, List.map_append]
  by_cases h : S.bit 0 m = true
  · simp [h]
  · simp [h]
theorem nodesF_len (S : WalS) (m : Nat) : (S.nodesF m).length ≤ m := by
  unfold WalS.nodesF
  rw [List.length_map]
  refine Nat.le_trans (List.length_filter_le _ _) ?_
  simp
def NodesPost (w : World) (pb p q pn pk : Nat) (S : WalS) (Fs : Nat → Prop) (e : Ending) (w' : World) : Prop := ∃ v, e = .returned v ∧ IntsAt w' (fun g => w.heap.size ≤ g) v S.nodesL ∧ BaseIn w' pb p q pn pk S Fs ∧ Chg Fs w w'
set_option maxHeartbeats 2000000 in
set_option maxRecDepth 100000 in
theorem nodes_any (h : BaseIn w pb p q pn pk S Fs) : Calls Tryz.prog 43 #[Dptr pb] w (NodesPost w pb p q pn pk S Fs) := by
  have hbig := h.big
  have hFl := h.sto.lt
  have hH : Hid _ := Lib.hid h
  obtain ⟨i0, hi0, hz0, hz1, hz2⟩ := info_parts info_int
  clear h
  go_enter Tryz.func43, Tryz.ntmps43
  go_wp2_with fail
  go_loopg [7, 3, 4, 5, 6, 8, 9, 10, 11, 12, 13, 14, 15, 16, 17, 18, 19, 20, 21, 22, 23, 24, 25, 26, 27, 28, 29] 64 (fun g iv lv _ _ _ _ _ _ _ _ _ _ _ _ _ _ _ _ _ _ _ _ _ _ _ _ _ wr => ∃ i : Nat, i + g = 64 ∧ iv = .int .i64 (i : Int) ∧ BaseIn wr pb p q pn pk S Fs ∧ Chg Fs w wr ∧ wr.ownsRow w.heap.size 3 1 lv (S.nodesF i).length ((S.nodesF i).map (Value.int .i64)))
  case atStart => exact ⟨0, rfl, rfl, hH.out, Chg.refl _ _, ⟨rfl, .inl ⟨rfl, rfl⟩⟩⟩
  case round =>
    obtain ⟨i, hi, rfl, hB, hC, hrow⟩ := hrel
    rename World => wr
    have hrowH : Hid _ := Lib.hid hrow
    have hBH : Hid _ := Lib.hid hB
    have hCH : Hid _ := Lib.hid hC
    by_cases hlt : i < 64
    · have hiz : (i : Int) < 64 := by omega
      have cb1 := hB.c1
      have cT := ctakenF hB.mN hB.sto hB.live (i := i) (by omega) hlt (by omega)
      have hsc := nodesF_succ S i
      have hln := nodesF_len S i
      have hscH : Hid _ := Lib.hid hsc
      have hlnH : Hid _ := Lib.hid hln
      clear hB hC hrow hsc hln
      cases hbt : S.bit 0 i with
      | false =>
        rw [hbt] at cT hscH
        go_wp2_with (go_at_call 49; refine cT.mono ?_; rintro e w3 ⟨rfl, hs3, hC3⟩)
        go_roundg (gk - 1)
        case measure => omega
        case rel => exact ⟨i + 1, by omega, by go_num, hBH.out.step hs3 (Txn.refl S) (fun k hk => .inl hk) hC3, hCH.out.trans hC3 (fun _ _ h => h), by rw [hscH.out]; exact ownsRow_chg hrowH.out hC3 (fun k e hk => by have := (hrowH.out.lt k e).1; have := hFl k hk; omega)⟩
      | true =>
        rw [hbt] at cT hscH
        have hscT : Hid (S.nodesF (i + 1) = S.nodesF i ++ [((i : Int) + 1)]) := Lib.hid (hscH.out.trans (if_pos rfl))
        go_wp2_with (first
          | (go_at_call 49; refine cT.mono ?_; rintro e w3 ⟨rfl, hs3, hC3⟩; have hrow3 := ownsRow_chg hrowH.out hC3 (fun k e hk => by have := (hrowH.out.lt k e).1; have := hFl k hk; omega))
          | (at_builtin; refine wpList_append_own_at _ rfl _ _ 32 rfl w.heap.size 3 i0 (.int .i64 0) 1 8 Tryz.underlying32 hi0 hz0 hz1 hz2 rfl (by decide) _ _ _ rfl (ownsRow_chg (M := fun _ => False) hrow3 (by exact ((Chg.refl _ w3).alloc _)) (fun _ _ h => h)) ⟨w3.heap.size, 0, none⟩ 1 1 [.int .i64 ((i : Int) + 1)] rfl rfl (by exact news_val (heap_alloc_new w3 _)) (by simp [Value.oneCell']) (by have := hlnH.out; unfold maxLen; omega) (by have := hlnH.out; omega) (by have := hCH.out.size; have := hC3.size; simp; omega) ?_; intro v7 w7 hown7 hgrow7 hnil7 hat7))
        go_roundg (gk - 1)
        case measure => omega
        case rel =>
          have hB3 := hBH.out.step hs3 (Txn.refl S) (fun k hk => .inl hk) hC3
          have hC7 : Chg (fun k => w.heap.size ≤ k) w3 w7 := ((Chg.refl _ w3).alloc _).grown hgrow7 (fun k e _ => (hrow3.lt k e).1)
          have e1 := lt_of_heap hH.out.blk
          have e2 := lt_of_heap hH.out.mN
          have e3 := lt_of_heap hH.out.mK
          refine ⟨i + 1, by omega, by go_num, hB3.chg hC7 (fun k hk e => ?_), (hCH.out.trans hC3 (fun _ _ h => h)).trans hC7 (fun k hk e => absurd hk (by omega)), by rw [hscT.out, List.map_append, List.length_append]; exact hown7⟩
          rcases hk with hk | hk | hk | hk
          · have := hFl k hk; omega
          all_goals omega
    · have hiz : ¬ (i : Int) < 64 := by omega
      obtain rfl : i = 64 := by omega
      have hrow2H : Hid _ := Lib.hid hrow
      have hl64 := nodesF_len S 64
      have hlH : Hid _ := Lib.hid hl64
      clear hl64 hB hC
      rcases hrow.2 with ⟨rfl, h0⟩ | ⟨gl, cl, curl, rfl, r1, r2, r3, r4, r5, r6⟩
      · clear hrow
        go_wp2_with (go_at_call 77; refine (clipI_any _ _ _ _ (Nat.le_refl _) (by decide)).mono ?_; rintro e w8 ⟨rfl, rfl⟩)
        go_ret
        exact ⟨.slice none 0 0, rfl, ⟨none, 0, 0, rfl, h0, by omega, .inl rfl⟩, hBH.out, hCH.out⟩
      · have r6H : Hid _ := Lib.hid r6
        clear hrow r6
        go_wp2_with (go_at_call 77; refine (clipI_any _ _ _ _ r3 r4).mono ?_; rintro e w8 ⟨rfl, rfl⟩)
        go_ret
        refine ⟨_, rfl, ⟨_, _, _, rfl, rfl, by have := hlH.out; omega, .inr ⟨gl, 0, rfl, r1, lt_of_heap r2, fun j hj => ?_⟩⟩, hBH.out, hCH.out⟩
        rw [Nat.zero_add]
        exact row_cell r2 r6H.out hj (by rw [List.getElem?_map, List.getElem?_eq_getElem hj]; simp [List.getD, WalS.nodesL, hj])
end
end Go.Proofs.YtjngphffgdjcfaaGreatDoor
