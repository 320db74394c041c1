/-
  The texts Dd2 Dd3 Dd4 Dd5 Dd6 Dd7, one behind the other.
-/
import Derived.Test.YtjngphffgdjcfaaGreatDoorME21
import Derived.Test.YtjngphffgdjcfaaGreatDoorMExDd1
import Derived.Deep.RegionLaw
import Derived.Lib.SliceRun
/-
  Package dir: List, over a base under small folders.
-/
namespace Go.Proofs.YtjngphffgdjcfaaGreatDoor
open Go.RowKit Go.Lz
section
variable {w0 w : World} {p q pb pn pk n N cc : Nat} {A : Nodes} {a : NodeA} {L : Locals}
theorem outO_eb {w' : World} {T : World → (Nat → Prop) → Prop} {v : Value} {out : Bytes} (h : OutO w0 w w' T L v out) : EB w' v out := by
  rcases h with ⟨rfl, rfl, _⟩ | ⟨g, o, hb, _, hO⟩
  · exact ⟨none, 0, rfl, Nat.le_refl _, Nat.zero_le _, .inl rfl⟩
  · obtain ⟨cap, cur, fr, rfl, rfl, h1, h2, h3, h4, _⟩ := hb
    have hg := hO.loc (upd_same _ _ _)
    refine ⟨_, cap, rfl, h1, h2, .inr ⟨g, 0, rfl, lt_of_heap hg, fun j hj => ?_⟩⟩
    have e : (cur.toList.take out.length)[j]? = some (u8v (out.getD j 0)) := by
      rw [h4, List.getElem?_map, List.getElem?_eq_getElem hj]
      simp [List.getD, hj]
    rw [List.getElem?_take, if_pos hj] at e
    rw [Nat.zero_add, cell_of hg, ← Array.getElem?_toList]
    exact e
set_option maxRecDepth 100000 in
theorem list_none {z : Int} (h : Own w0 w (TZ p q N A cc) L) (hL : BaseL L pb p pn pk N) (hz : ¬ IsN A z) : Calls Tryz.prog 11 #[Dptr pb, .int .i64 z] w (Did w0 w (TZ p q N A cc) L (.tuple #[.slice none 0 0, .int .i64 61])) := by
  have cI := infoZ_none h hL hz
  go_enter Tryz.func11, Tryz.ntmps11
  go_upto_region 2 with (go_at_call 37; refine cI.mono ?_; rintro e w1 ⟨rfl, hO1, hs1⟩)
  have hO2 := hO1.below (keepsTZ _ _ _ _ _) ((Below.refl _ w1).alloc (Nat.le_refl _) (.cells #[.int .i64 0, .int .i64 0, .int .i64 0, .slice none 0 0, .slice none 0 0] 86))
  have hs2 : w1.heap.size ≤ (w1.alloc (.cells #[.int .i64 0, .int .i64 0, .int .i64 0, .slice none 0 0, .slice none 0 0] 86)).heap.size := by simp
  have hO2H : Hid _ := Lib.hid hO2
  clear hO2 cI
  go_wp2_with fail
  go_ret2
  exact ⟨rfl, hO2H.out, by omega⟩
/-- A folder's entries, if its bytes are a folder's. -/
def foldE (b : Bytes) : Option (List Entry) := (parseF b.length b []).bind fun l => if l.length ≤ 32 then some l else none
/-- Entries that a call hands back: none, or a row that is a local block then. -/
def OutE (w0 w w' : World) (T : World → (Nat → Prop) → Prop) (L : Locals) (v : Value) (l : List Entry) : Prop :=
  (l = [] ∧ v = .slice none 0 0 ∧ Own w0 w' T L) ∨ ∃ g cur, v = .slice (some ⟨g, 0, none⟩) l.length l.length ∧ w.heap.size ≤ g ∧ cur.toList.take (l.length * 2) = l.flatMap entC ∧ Own w0 w' T (upd L g (some (.cells cur 41 (0, 0))))
theorem OutE.own {w' : World} {T : World → (Nat → Prop) → Prop} {v : Value} {l : List Entry} (h : OutE w0 w w' T L v l) (hw : Own w0 w T L) : Own w0 w' T L := by
  rcases h with ⟨_, _, h⟩ | ⟨g, cur, _, hg, _, h⟩
  · exact h
  · exact h.drop (hw.none_ hg)
theorem OutE.at_ {w' : World} {T : World → (Nat → Prop) → Prop} {v : Value} {l : List Entry} (h : OutE w0 w w' T L v l) (hl : l.length ≤ 9223372036854775807) : EntsAt w' (fun k => w.heap.size ≤ k) v l := by
  rcases h with ⟨rfl, rfl, _⟩ | ⟨g, cur, rfl, hg, hc, h⟩
  · exact ⟨none, 0, 0, rfl, rfl, by omega, .inl rfl⟩
  · exact EntsC.at_ ⟨hl, .inr ⟨g, cur, rfl, hg, h.loc (upd_same _ _ _), hc⟩⟩
theorem LocIn.upd2 {L L' : Locals} (h : LocIn L L') (g : Nat) (o : Option Obj) : LocIn (upd L g o) (upd L' g o) := fun b x hb => by
  by_cases e : b = g
  · subst e
    rw [upd_same] at hb ⊢
    exact hb
  · rw [upd_other _ e] at hb ⊢
    exact h b x hb
/-- What List tells of a node that is there. -/
def ListRes (w0 w : World) (T : World → (Nat → Prop) → Prop) (L : Locals) (a : NodeA) (e : Ending) (w' : World) : Prop :=
  Own w0 w' T L ∧ w.heap.size ≤ w'.heap.size ∧ if a.kind = 2 then match foldE a.data with
    | none => e = .returned (.tuple #[.slice none 0 0, .int .i64 3])
    | some l => ∃ v, e = .returned (.tuple #[v, .int .i64 0]) ∧ OutE w0 w w' T L v l
  else e = .returned (.tuple #[.slice none 0 0, .int .i64 73])
set_option maxRecDepth 100000 in
set_option maxHeartbeats 2000000 in
theorem list_any (h : Own w0 w (TZ p q N A cc) L) (hL : BaseL L pb p pn pk N) (ha : A n = some a) (hd : a.data.length ≤ 2048) (hT : ∀ w', Below w0.heap.size w0 w' → Tabs w') :
    Calls Tryz.prog 11 #[Dptr pb, .int .i64 (n : Int)] w (ListRes w0 w (TZ p q N A cc) L a) := by
  have cI := infoZ_ok h hL ha
  have hTH : Hid _ := Lib.hid hT
  clear hT h
  go_enter Tryz.func11, Tryz.ntmps11
  go_upto_region 2 with (go_at_call 37; refine cI.mono ?_; rintro e w1 ⟨vs, vi, L1, rfl, hO1, i1, hvs, hvi, hs1⟩; obtain ⟨av, cv, rfl⟩ := IntsAt.form hvs; obtain ⟨ai, ci, rfl⟩ := IntsAt.form hvi; unfold InfoV; dsimp only)
  obtain ⟨I, hIe⟩ : ∃ I : Obj, I = .cells #[.int .i64 (a.kind : Int), .int .i64 (a.data.length : Int), .int .i64 (a.room : Int), .slice av a.s.length cv, .slice ai a.i.length ci] 86 (0, 0) := ⟨_, rfl⟩
  have hO2 := hO1.local_ (o := I) (keepsTZ _ _ _ _ _) ((Below.refl _ w1).alloc (Nat.le_refl _) _) (Nat.le_refl _) (heap_alloc_new w1 _)
  have hn1 := hO1.none_ (Nat.le_refl w1.heap.size)
  have i2 : LocIn L (upd L1 w1.heap.size (some I)) := i1.trans (LocIn.upd_ hn1)
  have kI : upd L1 w1.heap.size (some I) w1.heap.size = some I := upd_same _ _ _
  have hL2 := hL.mono i2
  have s2 : w1.heap.size ≤ (w1.alloc I).heap.size := by simp
  rw [← hIe]
  generalize upd L1 w1.heap.size (some I) = L2 at *
  generalize w1.alloc I = w2 at *
  rw [hIe] at kI
  have k0 := cell_of (hO2.loc kI) 0
  have k1 := cell_of (hO2.loc kI) 1
  have cR := readZ (at' := 0) (k := a.data.length) hO2 hL2 ha
  rw [Nat.zero_min, List.drop_zero, List.take_of_length_le (Nat.le_refl _)] at cR
  have cR2 : Calls Tryz.prog 12 #[Dptr pb, .int .i64 (n : Int), .int .i64 0, .int .i64 (a.data.length : Int)] w2 (RDid w0 w2 (TZ p q N A cc) L2 a.data 0) := cR
  have hO2H : Hid _ := Lib.hid hO2
  have i2H : Hid _ := Lib.hid i2
  clear cR cI hO2 hO1 hIe i1 i2 hvs hvi
  by_cases hk : a.kind = 2
  · have hkz : (a.kind : Int) = 2 := by omega
    have hkH : Hid _ := Lib.hid hk
    go_upto_region 9 with (go_at_call 12; refine cR2.mono ?_; rintro e w3 ⟨v, rfl, ho, hs3⟩)
    have hO3 := ho.own hO2H.out
    have cP := parse_any (outO_eb ho) (by omega) (fun w' hb => hTH.out w' (hO3.base.trans (hb.mono hO3.size)))
    have hO3H : Hid _ := Lib.hid hO3
    clear ho hO3 cR2
    go_upto_region 10 with (go_at_call 38; refine cP.mono ?_; rintro e w4 ⟨hb4, v4, ok, rfl, hres⟩)
    have hO4 := (hO3H.out.below (keepsTZ _ _ _ _ _) hb4).forget i2H.out
    have hs4 := hb4.size
    have hO4H : Hid _ := Lib.hid hO4
    clear cP hO4
    cases hpp : parseF a.data.length a.data [] with
    | none =>
      rw [hpp] at hres
      obtain ⟨rfl, rfl⟩ := hres
      go_wp2_with fail
      go_ret2
      refine ⟨hO4H.out, by omega, ?_⟩
      rw [if_pos hkH.out]
      unfold foldE
      rw [hpp]
      rfl
    | some l =>
      rw [hpp] at hres
      obtain ⟨rfl, hE⟩ := hres
      have hOE : OutE w0 w w4 (TZ p q N A cc) L v4 l := by
        rcases hE.2 with ⟨rfl, rfl⟩ | ⟨b1, cur, rfl, k1, k2, k3⟩
        · exact .inl ⟨rfl, rfl, hO4H.out⟩
        · exact .inr ⟨b1, cur, rfl, Nat.le_trans (by omega) k1, k3, (hO3H.out.local_ (keepsTZ _ _ _ _ _) hb4 k1 k2).forget (LocIn.upd2 i2H.out _ _)⟩
      have hEH : Hid _ := Lib.hid hOE
      clear hE hOE
      by_cases h32 : l.length ≤ 32
      · rw [decide_eq_true h32]
        go_wp2_with fail
        go_ret2
        refine ⟨hO4H.out, by omega, ?_⟩
        rw [if_pos hkH.out]
        unfold foldE
        rw [hpp]
        show match (if l.length ≤ 32 then some l else none) with | none => _ | some l => _
        rw [if_pos h32]
        exact ⟨v4, rfl, hEH.out⟩
      · rw [decide_eq_false h32]
        go_wp2_with fail
        go_ret2
        refine ⟨hO4H.out, by omega, ?_⟩
        rw [if_pos hkH.out]
        unfold foldE
        rw [hpp]
        show match (if l.length ≤ 32 then some l else none) with | none => _ | some l => _
        rw [if_neg h32]
        rfl
  · have hkz : ¬ (a.kind : Int) = 2 := by omega
    have hkzb : ((a.kind : Int) == 2) = false := beq_eq_false_iff_ne.2 hkz
    have hkH : Hid _ := Lib.hid hk
    clear cR2
    go_wp2_with fail
    go_ret2
    refine ⟨hO2H.out.forget i2H.out, by omega, ?_⟩
    rw [if_neg hkH.out]
    rfl
end
end Go.Proofs.YtjngphffgdjcfaaGreatDoor
/-
  Package dir: the comparison that find hands to the search.
-/
namespace Go.Proofs.YtjngphffgdjcfaaGreatDoor
open Go.RowKit Go.Lz
set_option maxRecDepth 100000 in
theorem find1_any (w : World) (nm s : ByteArray) (nd : Int) : Calls Tryz.prog 70 #[.agg #[.string nm, .int .i64 nd], .string s] w fun e w' => e = .returned (.int .i64 (Lib.compareBytes nm.data.toList s.data.toList)) ∧ Below w.heap.size w w' := by
  have hb : Below w.heap.size w (w.alloc (.cells #[.string nm, .int .i64 nd] 41)) := (Below.refl _ w).alloc (Nat.le_refl _) _
  have cC := Tryz.strings_Compare nm s (w.alloc (.cells #[.string nm, .int .i64 nd] 41))
  go_enter Tryz.func70, Tryz.ntmps70
  go_wp2_with (go_at_call 71; refine cC.mono ?_; rintro e w2 ⟨rfl, hw2⟩; subst hw2)
  go_ret
  exact ⟨rfl, hb⟩
end Go.Proofs.YtjngphffgdjcfaaGreatDoor
/-
  Package dir: the search that find calls.
-/
namespace Go.Proofs.YtjngphffgdjcfaaGreatDoor
open Go.RowKit Go.Lz
def cmpE (s : ByteArray) (x : Entry) : Int := Lib.compareBytes (bmk x.1).data.toList s.data.toList
/-- Where a name is among rising ones, or would be. -/
structure PlaceE (l : List Entry) (s : ByteArray) (i : Nat) : Prop where
  le : i ≤ l.length
  lo : ∀ (k : Nat) (x : Entry), k < i → l[k]? = some x → cmpE s x < 0
  hi : ∀ (k : Nat) (x : Entry), i ≤ k → l[k]? = some x → ¬ cmpE s x < 0
section
variable {w : World} {F : Nat → Prop}
set_option maxRecDepth 100000 in
set_option maxHeartbeats 4000000 in
theorem search_any {v : Value} {l : List Entry} {s : ByteArray} (hl : EntsAt w F v l) (hl2 : l.length ≤ 1000) (hm : ∀ (i j : Nat) (x y : Entry), i ≤ j → l[i]? = some x → l[j]? = some y → cmpE s y < 0 → cmpE s x < 0) :
    Calls Tryz.prog 69 #[v, .string s, .func (.func 70) #[] #[]] w fun e w' => Below w.heap.size w w' ∧ ∃ i, PlaceE l s i ∧ e = .returned (.tuple #[.int .i64 (i : Int), .bool (match l[i]? with | none => false | some x => decide (cmpE s x = 0))]) := by
  obtain ⟨a, n, c, rfl, hn, hn2, hcell⟩ := hl
  have hcH : Hid _ := Lib.hid hcell
  have hmH : Hid _ := Lib.hid hm
  clear hcell hm
  go_enter Tryz.func69, Tryz.ntmps69
  go_wp2_with fail
  go_loopg [9, 10, 11, 15, 16, 17, 18, 19, 20, 21, 22, 23, 24, 25, 26, 27, 28, 29, 30, 31, 32, 33, 34] n (fun g iv jv _ _ _ _ _ _ _ _ _ _ _ _ _ _ _ _ _ _ _ _ _ wr => ∃ i j : Nat, j - i ≤ g ∧ i ≤ j ∧ j ≤ n ∧ iv = .int .i64 (i : Int) ∧ jv = .int .i64 (j : Int) ∧ (∀ (k : Nat) (x : Entry), k < i → l[k]? = some x → cmpE s x < 0) ∧ (∀ (k : Nat) (x : Entry), j ≤ k → l[k]? = some x → ¬ cmpE s x < 0) ∧ Below w.heap.size w wr)
  case atStart => exact ⟨0, n, by omega, by omega, Nat.le_refl _, rfl, rfl, fun (k : Nat) (x : Entry) h _ => absurd h (Nat.not_lt_zero _), fun (k : Nat) (x : Entry) h hx => by (rw [List.getElem?_eq_none (by omega)] at hx; cases hx), Below.refl _ _⟩
  case round =>
    obtain ⟨i, j, hg, hij, hjn, rfl, rfl, hlo, hhi, hB⟩ := hrel
    rename World => wr
    by_cases hlt : i < j
    · have hz : (i : Int) < (j : Int) := by omega
      obtain ⟨b, off, rfl, _, hbl, hcl⟩ := hcH.out.resolve_left (by omega)
      obtain ⟨md, hmd⟩ : ∃ md, md = (i + j) / 2 := ⟨_, rfl⟩
      have hmn : md < n := by omega
      have hml : md < l.length := by omega
      obtain ⟨x, hx⟩ : ∃ x, l[md]? = some x := ⟨l[md], List.getElem?_eq_getElem hml⟩
      obtain ⟨h0, h1⟩ := entC_at l md x hx
      have q0 : wr.cell? ⟨b, off + md * 2, none⟩ = some (.string (bmk x.1)) := (hB.cell (p := ⟨b, off + md * 2, none⟩) hbl).trans (by have := hcl _ _ h0; rwa [Nat.mul_comm] at this)
      have q1 : wr.cell? ⟨b, off + md * 2 + 1, none⟩ = some (.int .i64 (x.2 : Int)) := (hB.cell (p := ⟨b, off + md * 2 + 1, none⟩) hbl).trans (by have := hcl _ _ h1; rwa [Nat.mul_comm, ← Nat.add_assoc] at this)
      have cC := find1_any wr (bmk x.1) s (x.2 : Int)
      have hmz : (md : Int) < (n : Int) := by omega
      have hBH : Hid _ := Lib.hid hB
      have hmdH : Hid _ := Lib.hid hmd
      have he : ((i : Int) + (j : Int)) / 2 = (md : Int) := by omega
      have hxH : Hid _ := Lib.hid hx
      have hloH : Hid _ := Lib.hid hlo
      have hhiH : Hid _ := Lib.hid hhi
      clear hcl h0 h1 hB hmd hx hlo hhi
      have hcmp : cmpE s x = Lib.compareBytes (bmk x.1).data.toList s.data.toList := rfl
      rw [← hcmp] at cC
      clear hcmp
      by_cases hneg : cmpE s x < 0
      · go_wp2_with (go_at_call 70; refine cC.mono ?_; rintro e w3 ⟨rfl, hb3⟩)
        go_roundg (j - (md + 1))
        case measure => have := hmdH.out; omega
        case rel =>
          have := hmdH.out
          exact ⟨md + 1, j, Nat.le_refl _, by omega, hjn, by go_num, rfl, fun k' y hk hy => hmH.out k' md y x (by omega) hy hxH.out hneg, hhiH.out, hBH.out.trans (hb3.mono hBH.out.size)⟩
      · go_wp2_with (go_at_call 70; refine cC.mono ?_; rintro e w3 ⟨rfl, hb3⟩)
        go_roundg (md - i)
        case measure => have := hmdH.out; omega
        case rel =>
          have := hmdH.out
          exact ⟨i, md, Nat.le_refl _, by omega, by omega, rfl, rfl, hloH.out, fun k' y hk hy => by
            have h1 := hmH.out md k' x y hk hxH.out hy
            omega, hBH.out.trans (hb3.mono hBH.out.size)⟩
    · have hz : ¬ (i : Int) < (j : Int) := by omega
      obtain rfl : i = j := by omega
      have hP : PlaceE l s i := ⟨by omega, hlo, hhi⟩
      have hPH : Hid _ := Lib.hid hP
      have hBH : Hid _ := Lib.hid hB
      by_cases hin : i < n
      · have hinz : (i : Int) < (n : Int) := by omega
        obtain ⟨b, off, rfl, _, hbl, hcl⟩ := hcH.out.resolve_left (by omega)
        obtain ⟨x, hx⟩ : ∃ x, l[i]? = some x := ⟨l[i]'(by omega), List.getElem?_eq_getElem (by omega)⟩
        obtain ⟨h0, h1⟩ := entC_at l i x hx
        have q0 : wr.cell? ⟨b, off + i * 2, none⟩ = some (.string (bmk x.1)) := (hB.cell (p := ⟨b, off + i * 2, none⟩) hbl).trans (by have := hcl _ _ h0; rwa [Nat.mul_comm] at this)
        have q1 : wr.cell? ⟨b, off + i * 2 + 1, none⟩ = some (.int .i64 (x.2 : Int)) := (hB.cell (p := ⟨b, off + i * 2 + 1, none⟩) hbl).trans (by have := hcl _ _ h1; rwa [Nat.mul_comm, ← Nat.add_assoc] at this)
        have cC := find1_any wr (bmk x.1) s (x.2 : Int)
        have hcmp : cmpE s x = Lib.compareBytes (bmk x.1).data.toList s.data.toList := rfl
        rw [← hcmp] at cC
        have hxH : Hid _ := Lib.hid hx
        clear hcmp hcl h0 h1 hB hx hlo hhi hP
        go_wp2_with (go_at_call 70; refine cC.mono ?_; rintro e w3 ⟨rfl, hb3⟩)
        go_ret2
        refine ⟨hBH.out.trans (hb3.mono hBH.out.size), i, hPH.out, ?_⟩
        rw [hxH.out]
        first
          | rfl
          | (congr 4)
      · have hinz : ¬ (i : Int) < (n : Int) := by omega
        clear hB hlo hhi hP
        go_wp2_with fail
        go_ret2
        refine ⟨hBH.out, i, hPH.out, ?_⟩
        rw [List.getElem?_eq_none (by omega)]
        rfl
set_option maxRecDepth 100000 in
theorem dfind_any {v : Value} {l : List Entry} {s : ByteArray} (hl : EntsAt w F v l) (hl2 : l.length ≤ 1000) (hm : ∀ (i j : Nat) (x y : Entry), i ≤ j → l[i]? = some x → l[j]? = some y → cmpE s y < 0 → cmpE s x < 0) :
    Calls Tryz.prog 34 #[v, .string s] w fun e w' => Below w.heap.size w w' ∧ ∃ i, PlaceE l s i ∧ e = .returned (.tuple #[.int .i64 (i : Int), .bool (match l[i]? with | none => false | some x => decide (cmpE s x = 0))]) := by
  have c := search_any hl hl2 hm
  obtain ⟨a, n, cp, rfl, _⟩ := hl
  clear hm
  go_enter Tryz.func34, Tryz.ntmps34
  go_wp2_with (go_at_call 69; refine c.mono ?_; rintro e w2 ⟨hb, i, hP, he⟩; obtain ⟨fb, hfb⟩ : ∃ fb, fb = (match l[i]? with | none => false | some x => decide (cmpE s x = 0)) := ⟨_, rfl⟩; rw [← hfb] at he; subst he; have hfbH : Hid _ := Lib.hid hfb; clear hfb)
  go_ret2
  exact ⟨hb, i, hP, by rw [← hfbH.out]; rfl⟩
end
end Go.Proofs.YtjngphffgdjcfaaGreatDoor
/-
  Package dir: a folder's entries, plain: their bytes, their order, a name's place.
-/
namespace Go.Proofs.YtjngphffgdjcfaaGreatDoor
open Go.RowKit Go.Lz
theorem bmk_list (l : Bytes) : (bmk l).toList = l := by rw [Lib.toList_data]; rfl
theorem cmp_lt : ∀ a b : List UInt8, Lib.compareBytes a b < 0 ↔ Op.bytesLess a b = true
  | [], [] => by simp [Lib.compareBytes, Op.bytesLess]
  | [], _ :: _ => by simp [Lib.compareBytes, Op.bytesLess]
  | _ :: _, [] => by simp [Lib.compareBytes, Op.bytesLess]
  | a :: xs, b :: ys => by
    unfold Lib.compareBytes Op.bytesLess
    by_cases h : a < b
    · simp [h]
    · by_cases h2 : b < a
      · have h3 : ¬ a = b := fun e => by subst e; exact h h2
        simp [h, h2, h3]
      · have h3 : a = b := UInt8.le_antisymm (UInt8.not_lt.1 h2) (UInt8.not_lt.1 h)
        subst h3
        simp [h, cmp_lt xs ys]
theorem cmp_zero : ∀ a b : List UInt8, Lib.compareBytes a b = 0 ↔ a = b
  | [], [] => by simp [Lib.compareBytes]
  | [], _ :: _ => by simp [Lib.compareBytes]
  | _ :: _, [] => by simp [Lib.compareBytes]
  | a :: xs, b :: ys => by
    unfold Lib.compareBytes
    by_cases h : a < b
    · have h3 : ¬ a = b := fun e => by subst e; exact absurd h (UInt8.lt_irrefl a)
      simp [h, h3]
    · by_cases h2 : b < a
      · have h3 : ¬ a = b := fun e => by subst e; exact h h2
        simp [h, h2, h3]
      · have h3 : a = b := UInt8.le_antisymm (UInt8.not_lt.1 h2) (UInt8.not_lt.1 h)
        subst h3
        simp [h, cmp_zero xs ys]
theorem less_irrefl : ∀ a : List UInt8, Op.bytesLess a a = false
  | [] => rfl
  | a :: xs => by unfold Op.bytesLess; simp [less_irrefl xs, UInt8.lt_irrefl]
theorem less_trans : ∀ a b c : List UInt8, Op.bytesLess a b = true → Op.bytesLess b c = true → Op.bytesLess a c = true
  | _, _, [] => fun _ h => by simp [Op.bytesLess] at h
  | _, [], _ :: _ => fun h => by simp [Op.bytesLess] at h
  | [], _ :: _, _ :: _ => fun _ _ => rfl
  | a :: xs, b :: ys, c :: zs => by
    unfold Op.bytesLess
    simp only [Bool.or_eq_true, decide_eq_true_eq, Bool.and_eq_true, beq_iff_eq]
    rintro (h1 | ⟨rfl, h1⟩) (h2 | ⟨rfl, h2⟩)
    · exact .inl (UInt8.lt_trans h1 h2)
    · exact .inl h1
    · exact .inl h2
    · exact .inr ⟨rfl, less_trans xs ys zs h1 h2⟩
theorem less_tri : ∀ a b : List UInt8, Op.bytesLess a b = true ∨ a = b ∨ Op.bytesLess b a = true
  | [], [] => .inr (.inl rfl)
  | [], _ :: _ => .inl rfl
  | _ :: _, [] => .inr (.inr rfl)
  | a :: xs, b :: ys => by
    unfold Op.bytesLess
    by_cases h : a < b
    · exact .inl (by simp [h])
    · by_cases h2 : b < a
      · exact .inr (.inr (by simp [h2]))
      · have h3 : a = b := UInt8.le_antisymm (UInt8.not_lt.1 h2) (UInt8.not_lt.1 h)
        subst h3
        rcases less_tri xs ys with h4 | h4 | h4
        · exact .inl (by simp [h4])
        · exact .inr (.inl (by rw [h4]))
        · exact .inr (.inr (by simp [h4]))
theorem less_asymm {a b : List UInt8} (h : Op.bytesLess a b = true) : Op.bytesLess b a = false := by
  cases h2 : Op.bytesLess b a
  · rfl
  · have := less_trans a b a h h2
    rw [less_irrefl] at this
    cases this
theorem less_ne {a b : List UInt8} (h : Op.bytesLess a b = true) : a ≠ b := fun e => by
  subst e
  rw [less_irrefl] at h
  cases h
/-- The names rise. -/
def RiseL (l : List Entry) : Prop := l.Pairwise fun x y => Op.bytesLess x.1 y.1 = true
def encE (x : Entry) : Bytes := UInt8.ofNat x.1.length :: (x.1 ++ [UInt8.ofNat x.2])
/-- A folder's bytes. -/
def encF (l : List Entry) : Bytes := l.flatMap encE
structure GoodF (l : List Entry) : Prop where
  good : ∀ x ∈ l, goodE x = true
  rise : RiseL l
theorem goodE_iff {x : Entry} : goodE x = true ↔ nameD (bmk x.1) = true ∧ 1 ≤ x.2 ∧ x.2 ≤ 64 := by
  unfold goodE
  simp
theorem bmk_size (l : Bytes) : (bmk l).size = l.length := rfl
theorem nameD_len {s : ByteArray} (h : nameD s = true) : 1 ≤ s.size ∧ s.size ≤ 24 := by
  unfold nameD at h
  simp only [Bool.and_eq_true, decide_eq_true_eq] at h
  omega
theorem encE_length (x : Entry) : (encE x).length = x.1.length + 2 := by unfold encE; simp
theorem encF_cons (x : Entry) (l : List Entry) : encF (x :: l) = encE x ++ encF l := rfl
theorem encF_append (l m : List Entry) : encF (l ++ m) = encF l ++ encF m := by unfold encF; exact List.flatMap_append
theorem encF_le {l : List Entry} (h : ∀ x ∈ l, goodE x = true) : (encF l).length ≤ 26 * l.length := by
  induction l with
  | nil => exact Nat.le_refl _
  | cons x l ih =>
    rw [encF_cons, List.length_append, encE_length, List.length_cons]
    have h1 := ih fun y hy => h y (.tail _ hy)
    have h2 := (nameD_len (goodE_iff.1 (h x (.head _))).1).2
    rw [bmk_size] at h2
    omega
theorem encF_ge (l : List Entry) : 2 * l.length ≤ (encF l).length := by
  induction l with
  | nil => exact Nat.le_refl _
  | cons x l ih =>
    rw [encF_cons, List.length_append, encE_length, List.length_cons]
    omega
theorem riseE_iff {out : List Entry} {x : Entry} (hr : RiseL out) : riseE out x = true ↔ RiseL (out ++ [x]) := by
  unfold riseE RiseL
  rcases List.eq_nil_or_concat out with rfl | ⟨o, y, rfl⟩
  · simp
  · unfold RiseL at hr
    rw [List.concat_eq_append] at hr ⊢
    have e : (o ++ [y]).getLast? = some y := by simp
    rw [e]
    show Op.bytesLess (bmk y.1).toList (bmk x.1).toList = true ↔ _
    rw [bmk_list, bmk_list]
    constructor
    · intro h
      rw [List.pairwise_append]
      refine ⟨hr, List.pairwise_singleton _ _, fun a ha b hb => ?_⟩
      obtain rfl : b = x := by simpa using hb
      rcases List.mem_append.1 ha with ha | ha
      · exact less_trans _ _ _ ((List.pairwise_append.1 hr).2.2 a ha y (by simp)) h
      · obtain rfl : a = y := by simpa using ha
        exact h
    · intro h
      exact (List.pairwise_append.1 h).2.2 y (by simp) x (by simp)
theorem head_enc {x : Entry} (h : goodE x = true) (r : Bytes) : (UInt8.ofNat x.1.length).toNat = x.1.length ∧ headE x.1.length (x.1 ++ [UInt8.ofNat x.2] ++ r) = x ∧ (x.1 ++ [UInt8.ofNat x.2] ++ r).drop (x.1.length + 1) = r := by
  obtain ⟨h1, h2, h3⟩ := goodE_iff.1 h
  have h4 := nameD_len h1
  rw [bmk_size] at h4
  refine ⟨?_, ?_, ?_⟩
  · rw [UInt8.toNat_ofNat']; omega
  · have e1 : (x.1 ++ [UInt8.ofNat x.2] ++ r).take x.1.length = x.1 := by rw [List.append_assoc, List.take_left]
    have e2 : ((x.1 ++ [UInt8.ofNat x.2] ++ r).getD x.1.length 0).toNat = x.2 := by
      rw [List.append_assoc, List.getD_eq_getElem?_getD, List.getElem?_append_right (Nat.le_refl _), Nat.sub_self]
      show (UInt8.ofNat x.2).toNat = _
      rw [UInt8.toNat_ofNat']; omega
    unfold headE
    rw [e1, e2]
  · rw [List.drop_left' (by simp)]
theorem parse_enc : ∀ (l out : List Entry) (k : Nat), (∀ x ∈ l, goodE x = true) → RiseL (out ++ l) → (encF l).length ≤ k → parseF k (encF l) out = some (out ++ l)
  | [], out, k, _, _, _ => by rw [show encF [] = [] from rfl, parseF_nil, List.append_nil]
  | x :: l, out, k, hg, hr, hk => by
    have hx := hg x (.head _)
    have e : encF (x :: l) = UInt8.ofNat x.1.length :: (x.1 ++ [UInt8.ofNat x.2] ++ encF l) := rfl
    obtain ⟨h1, h2, h3⟩ := head_enc hx (encF l)
    rw [e, List.length_cons, List.length_append, List.length_append, List.length_singleton] at hk
    obtain ⟨k, rfl⟩ : ∃ j, k = j + 1 := ⟨k - 1, by omega⟩
    have hro : RiseL (out ++ [x]) := by
      unfold RiseL at hr ⊢
      rw [show out ++ x :: l = (out ++ [x]) ++ l by simp] at hr
      exact (List.pairwise_append.1 hr).1
    have hr1 : RiseL out := (List.pairwise_append.1 hro).1
    rw [e, parseF_step (by rw [h1, List.length_append, List.length_append, List.length_singleton]; omega) (by rw [h1, h2, hx, (riseE_iff hr1).2 hro]; rfl), h1, h2, h3]
    rw [parse_enc l (out ++ [x]) k (fun y hy => hg y (.tail _ hy)) (by simpa using hr) (by omega)]
    simp
theorem parse_some : ∀ (k : Nat) (b : Bytes) (out l : List Entry), b.length ≤ k → RiseL out → parseF k b out = some l → ∃ m, l = out ++ m ∧ encF m = b ∧ (∀ x ∈ m, goodE x = true) ∧ RiseL l
  | 0, b, out, l, hk, hr, h => by
    have hb : b = [] := List.length_eq_zero_iff.1 (by omega)
    subst hb
    obtain rfl : out = l := by rw [parseF_nil] at h; exact Option.some.inj h
    exact ⟨[], by simp, rfl, (fun x hx => nomatch hx), hr⟩
  | k + 1, [], out, l, _, hr, h => by
    obtain rfl : out = l := by rw [parseF_nil] at h; exact Option.some.inj h
    exact ⟨[], by simp, rfl, (fun x hx => nomatch hx), hr⟩
  | k + 1, x :: r, out, l, hk, hr, h => by
    by_cases h1 : r.length < x.toNat + 1
    · rw [parseF_short h1] at h
      cases h
    · cases h2 : goodE (headE x.toNat r) && riseE out (headE x.toNat r) with
      | false => rw [parseF_bad h2] at h; cases h
      | true =>
        rw [parseF_step h1 h2] at h
        rw [Bool.and_eq_true] at h2
        rw [List.length_cons] at hk
        obtain ⟨m, h3, h4, h5, h6⟩ := parse_some k _ _ l (by rw [List.length_drop]; omega) ((riseE_iff hr).1 h2.2) h
        refine ⟨headE x.toNat r :: m, by rw [h3]; simp, ?_, fun y hy => ?_, h6⟩
        · rw [encF_cons, h4]
          have e1 : (headE x.toNat r).1 = r.take x.toNat := rfl
          have e2 : (headE x.toNat r).2 = (r.getD x.toNat 0).toNat := rfl
          unfold encE
          rw [e1, e2, List.length_take, Nat.min_eq_left (by omega), List.cons_append]
          congr 1
          · simp
          · have e3 : r = r.take x.toNat ++ r.drop x.toNat := (List.take_append_drop _ _).symm
            have e4 : r.drop x.toNat = r[x.toNat]'(by omega) :: r.drop (x.toNat + 1) := List.drop_eq_getElem_cons (by omega)
            conv => rhs; rw [e3, e4]
            rw [List.append_assoc]
            congr 1
            rw [List.singleton_append]
            congr 1
            rw [List.getD_eq_getElem?_getD, List.getElem?_eq_getElem (by omega)]
            simp
        · cases hy with
          | head => exact h2.1
          | tail _ hy => exact h5 y hy
theorem fold_enc {l : List Entry} (h : GoodF l) (hl : l.length ≤ 32) : foldE (encF l) = some l := by
  unfold foldE
  rw [parse_enc l [] _ h.good (by simpa using h.rise) (Nat.le_refl _)]
  show (if _ then _ else _) = _
  rw [List.nil_append, if_pos hl]
theorem fold_some {b : Bytes} {l : List Entry} (h : foldE b = some l) : encF l = b ∧ GoodF l ∧ l.length ≤ 32 := by
  unfold foldE at h
  cases h1 : parseF b.length b [] with
  | none => rw [h1] at h; cases h
  | some m =>
    rw [h1] at h
    obtain ⟨m', h2, h3, h4, h5⟩ := parse_some _ b [] m (Nat.le_refl _) List.Pairwise.nil h1
    rw [List.nil_append] at h2
    subst h2
    have h : (if m.length ≤ 32 then some m else none) = some l := h
    split at h
    · rename_i hl
      obtain rfl := Option.some.inj h
      exact ⟨h3, ⟨h4, h5⟩, hl⟩
    · cases h
/-- A name's node. -/
def lookE (l : List Entry) (s : ByteArray) : Option Nat := (l.find? fun x => decide (x.1 = s.data.toList)).map (·.2)
def addE (l : List Entry) (s : ByteArray) (n : Nat) : List Entry := l.filter (fun y => Op.bytesLess y.1 s.data.toList) ++ (s.data.toList, n) :: l.filter (fun y => !Op.bytesLess y.1 s.data.toList)
def delL (l : List Entry) (s : ByteArray) : List Entry := l.filter fun y => !decide (y.1 = s.data.toList)
theorem cmpE_lt {s : ByteArray} {x : Entry} : cmpE s x < 0 ↔ Op.bytesLess x.1 s.data.toList = true := cmp_lt _ _
theorem cmpE_zero {s : ByteArray} {x : Entry} : cmpE s x = 0 ↔ x.1 = s.data.toList := cmp_zero _ _
theorem RiseL.get {l : List Entry} (h : RiseL l) {i j : Nat} {x y : Entry} (hij : i < j) (hx : l[i]? = some x) (hy : l[j]? = some y) : Op.bytesLess x.1 y.1 = true := by
  obtain ⟨hi, rfl⟩ := List.getElem?_eq_some_iff.1 hx
  obtain ⟨hj, rfl⟩ := List.getElem?_eq_some_iff.1 hy
  exact List.pairwise_iff_getElem.1 h i j hi hj hij
theorem RiseL.mono {l : List Entry} (h : RiseL l) (s : ByteArray) : ∀ (i j : Nat) (x y : Entry), i ≤ j → l[i]? = some x → l[j]? = some y → cmpE s y < 0 → cmpE s x < 0 := fun i j x y hij hx hy hc => by
  rcases Nat.lt_or_eq_of_le hij with hlt | rfl
  · exact cmpE_lt.2 (less_trans _ _ _ (h.get hlt hx hy) (cmpE_lt.1 hc))
  · rw [hx] at hy
    cases hy
    exact hc
theorem PlaceE.hit {l : List Entry} {s : ByteArray} {i : Nat} (hr : RiseL l) (_hP : PlaceE l s i) {x : Entry} (hx : l[i]? = some x) (hc : cmpE s x = 0) : lookE l s = some x.2 := by
  have e := cmpE_zero.1 hc
  unfold lookE
  cases h : l.find? fun x => decide (x.1 = s.data.toList) with
  | none =>
    have := List.find?_eq_none.1 h x (List.mem_of_getElem? hx)
    simp [e] at this
  | some y =>
    have h1 := List.find?_some h
    have h2 : y.1 = s.data.toList := by simpa using h1
    obtain ⟨j, hj⟩ := List.mem_iff_getElem?.1 (List.mem_of_find?_eq_some h)
    rcases Nat.lt_trichotomy i j with hlt | rfl | hlt
    · exact absurd (h2.symm ▸ e) (less_ne (hr.get hlt hx hj))
    · rw [hx] at hj
      cases hj
      rfl
    · exact absurd (e.symm ▸ h2) (less_ne (hr.get hlt hj hx))
theorem PlaceE.miss {l : List Entry} {s : ByteArray} {i : Nat} (hr : RiseL l) (hP : PlaceE l s i) (hc : ∀ x, l[i]? = some x → cmpE s x ≠ 0) : lookE l s = none := by
  unfold lookE
  cases h : l.find? fun x => decide (x.1 = s.data.toList) with
  | none => rfl
  | some y =>
    exfalso
    have h1 := List.find?_some h
    have h2 : y.1 = s.data.toList := by simpa using h1
    obtain ⟨j, hj⟩ := List.mem_iff_getElem?.1 (List.mem_of_find?_eq_some h)
    rcases Nat.lt_trichotomy i j with hlt | rfl | hlt
    · have hi : i < l.length := by have := (List.getElem?_eq_some_iff.1 hj).1; omega
      have h3 := hr.get hlt (List.getElem?_eq_getElem hi) hj
      rw [h2] at h3
      exact hP.hi i _ (Nat.le_refl _) (List.getElem?_eq_getElem hi) (cmpE_lt.2 h3)
    · exact hc y hj (cmpE_zero.2 h2)
    · have := hP.lo j y hlt hj
      have h3 := cmpE_zero.2 h2
      omega
theorem split_filter (p : Entry → Bool) : ∀ (l : List Entry) (i : Nat), i ≤ l.length → (∀ k x, k < i → l[k]? = some x → p x = true) → (∀ k x, i ≤ k → l[k]? = some x → p x = false) → l.take i = l.filter p ∧ l.drop i = l.filter fun x => !p x
  | [], i, h, _, _ => by simp
  | x :: l, 0, _, _, h => by
    have h1 : ∀ y ∈ x :: l, p y = false := fun y hy => by
      obtain ⟨j, hj⟩ := List.mem_iff_getElem?.1 hy
      exact h j y (Nat.zero_le _) hj
    constructor
    · rw [List.take_zero]
      exact (List.filter_eq_nil_iff.2 fun y hy => by rw [h1 y hy]; simp).symm
    · rw [List.drop_zero]
      exact (List.filter_eq_self.2 fun y hy => by rw [h1 y hy]; rfl).symm
  | x :: l, i + 1, hi, h, h' => by
    have hx := h 0 x (by omega) rfl
    obtain ⟨h1, h2⟩ := split_filter p l i (by simpa using hi) (fun k y hk hy => h (k + 1) y (by omega) (by simpa using hy)) (fun k y hk hy => h' (k + 1) y (by omega) (by simpa using hy))
    simp [hx, h1, h2]
theorem PlaceE.split {l : List Entry} {s : ByteArray} {i : Nat} (hP : PlaceE l s i) : l.take i = l.filter (fun y => Op.bytesLess y.1 s.data.toList) ∧ l.drop i = l.filter fun y => !Op.bytesLess y.1 s.data.toList :=
  split_filter _ l i hP.le (fun k x hk hx => cmpE_lt.1 (hP.lo k x hk hx)) (fun k x hk hx => by
    have := hP.hi k x hk hx
    rw [cmpE_lt] at this
    simpa using this)
theorem PlaceE.add {l : List Entry} {s : ByteArray} {i : Nat} (hP : PlaceE l s i) (n : Nat) : l.take i ++ (s.data.toList, n) :: l.drop i = addE l s n := by
  obtain ⟨h1, h2⟩ := hP.split
  unfold addE
  rw [h1, h2]
theorem PlaceE.del {l : List Entry} {s : ByteArray} {i : Nat} (hr : RiseL l) (_hP : PlaceE l s i) {x : Entry} (hx : l[i]? = some x) (hc : cmpE s x = 0) : l.take i ++ l.drop (i + 1) = delL l s := by
  have e := cmpE_zero.1 hc
  obtain ⟨hi, hx2⟩ := List.getElem?_eq_some_iff.1 hx
  have h1 : l = l.take i ++ x :: l.drop (i + 1) := by rw [← hx2, ← List.drop_eq_getElem_cons hi, List.take_append_drop]
  have h2 : (l.take i).filter (fun y => !decide (y.1 = s.data.toList)) = l.take i := List.filter_eq_self.2 fun y hy => by
    obtain ⟨j, hj⟩ := List.mem_iff_getElem?.1 hy
    rw [List.getElem?_take] at hj
    split at hj
    · rename_i hlt
      have := less_ne (hr.get hlt hj hx)
      rw [e] at this
      simp [this]
    · cases hj
  have h3 : (l.drop (i + 1)).filter (fun y => !decide (y.1 = s.data.toList)) = l.drop (i + 1) := List.filter_eq_self.2 fun y hy => by
    obtain ⟨j, hj⟩ := List.mem_iff_getElem?.1 hy
    rw [List.getElem?_drop] at hj
    have := less_ne (hr.get (show i < i + 1 + j by omega) hx hj)
    rw [e] at this
    simp only [Bool.not_eq_true', decide_eq_false_iff_not]
    exact fun h => this h.symm
  unfold delL
  conv => rhs; rw [h1, List.filter_append, List.filter_cons, h2, h3]
  simp [e]
theorem addE_mem {l : List Entry} {s : ByteArray} {n : Nat} {y : Entry} : y ∈ addE l s n ↔ y ∈ l ∨ y = (s.data.toList, n) := by
  unfold addE
  simp only [List.mem_append, List.mem_cons, List.mem_filter]
  constructor
  · rintro (h | h | h)
    · exact .inl h.1
    · exact .inr h
    · exact .inl h.1
  · rintro (h | h)
    · cases h2 : Op.bytesLess y.1 s.data.toList
      · exact .inr (.inr ⟨h, by simp⟩)
      · exact .inl ⟨h, rfl⟩
    · exact .inr (.inl h)
theorem filter_two (p : Entry → Bool) : ∀ l : List Entry, l.length = (l.filter p).length + (l.filter fun y => !p y).length ∧ (encF l).length = (encF (l.filter p)).length + (encF (l.filter fun y => !p y)).length
  | [] => ⟨rfl, rfl⟩
  | x :: l => by
    obtain ⟨h1, h2⟩ := filter_two p l
    rw [encF_cons, List.length_append, List.length_cons, List.filter_cons, List.filter_cons]
    cases p x
    · simp [encF_cons]; omega
    · simp [encF_cons]; omega
theorem addE_length (l : List Entry) (s : ByteArray) (n : Nat) : (addE l s n).length = l.length + 1 := by
  unfold addE
  rw [List.length_append, List.length_cons, (filter_two (fun y => Op.bytesLess y.1 s.data.toList) l).1]
  exact (Nat.add_assoc _ _ _).symm
theorem look_none {l : List Entry} {s : ByteArray} (h : lookE l s = none) : ∀ x ∈ l, x.1 ≠ s.data.toList := fun x hx e => by
  unfold lookE at h
  rw [Option.map_eq_none_iff] at h
  have := List.find?_eq_none.1 h x hx
  simp [e] at this
theorem look_some {l : List Entry} {s : ByteArray} {n : Nat} (h : lookE l s = some n) : (s.data.toList, n) ∈ l := by
  unfold lookE at h
  rw [Option.map_eq_some_iff] at h
  obtain ⟨x, h1, h2⟩ := h
  have h3 := List.find?_some h1
  have h4 : x.1 = s.data.toList := by simpa using h3
  have h5 := List.mem_of_find?_eq_some h1
  rw [← h4, ← h2]
  exact h5
theorem addE_good {l : List Entry} {s : ByteArray} {n : Nat} (h : GoodF l) (hm : lookE l s = none) (hs : nameD s = true) (h1 : 1 ≤ n) (h2 : n ≤ 64) : GoodF (addE l s n) := by
  refine ⟨fun x hx => ?_, ?_⟩
  · rcases addE_mem.1 hx with hx | rfl
    · exact h.good x hx
    · exact goodE_iff.2 ⟨by rw [show bmk s.data.toList = s from rfl]; exact hs, h1, h2⟩
  · unfold addE RiseL
    rw [List.pairwise_append, List.pairwise_cons]
    refine ⟨h.rise.filter _, ⟨fun y hy => ?_, h.rise.filter _⟩, fun y hy z hz => ?_⟩
    · obtain ⟨hy1, hy2⟩ := List.mem_filter.1 hy
      rcases less_tri y.1 s.data.toList with h3 | h3 | h3
      · rw [h3] at hy2; cases hy2
      · exact absurd h3 (look_none hm y hy1)
      · exact h3
    · obtain ⟨hy1, hy2⟩ := List.mem_filter.1 hy
      rcases List.mem_cons.1 hz with rfl | hz
      · exact hy2
      · obtain ⟨hz1, hz2⟩ := List.mem_filter.1 hz
        rcases less_tri z.1 s.data.toList with h3 | h3 | h3
        · rw [h3] at hz2; cases hz2
        · exact absurd h3 (look_none hm z hz1)
        · exact less_trans _ _ _ hy2 h3
theorem delL_good {l : List Entry} {s : ByteArray} (h : GoodF l) : GoodF (delL l s) := ⟨fun x hx => h.good x (List.mem_filter.1 hx).1, h.rise.filter _⟩
theorem delL_length (l : List Entry) (s : ByteArray) : (delL l s).length ≤ l.length := List.length_filter_le _ _
theorem encF_add (l : List Entry) (s : ByteArray) (n : Nat) : (encF (addE l s n)).length = (encF l).length + s.size + 2 := by
  unfold addE
  rw [encF_append, List.length_append, encF_cons, List.length_append, encE_length, (filter_two (fun y => Op.bytesLess y.1 s.data.toList) l).2]
  have h2 : s.data.toList.length = s.size := rfl
  rw [show ((s.data.toList, n) : Entry).1 = s.data.toList from rfl, h2]
  generalize (encF (l.filter fun y => Op.bytesLess y.1 s.data.toList)).length = a
  show a + (s.size + 2 + (encF (l.filter fun y => !Op.bytesLess y.1 s.data.toList)).length) = a + (encF (l.filter fun y => !Op.bytesLess y.1 s.data.toList)).length + s.size + 2
  omega
end Go.Proofs.YtjngphffgdjcfaaGreatDoor
/-
  Package dir: slices.Insert and slices.Delete at entries.
-/
namespace Go.Lz
open Go.RowKit
/-- copy over elements of any size, within a row of one's own. -/
theorem run_copy2 {P : Program} (w : World) (dT sT ty elem : TypeId) (size : Nat) (g o dLen dCap : Nat) (a : Addr) (sLen sCap m : Nat) (cur : Array Value) (t : TypeId) (cs : List Value)
    (hu : P.underlying dT = some (.slice elem)) (hs : (P.info? elem).map (·.size) = some size)
    (hg : w.heap[g]? = some (.cells cur t (0, 0))) (hm : m = Nat.min sLen dLen) (hn : cs.length = m * size)
    (hsrc : ∀ j v, cs[j]? = some v → w.cell? (a.add j) = some v) (hfit : o + cs.length ≤ cur.size) (h1 : ∀ v ∈ cs, v.oneCell' = true) :
    (Builtin.copy_ #[dT, sT] ty #[.slice (some ⟨g, o, none⟩) dLen dCap, .slice (some a) sLen sCap]).run P w =
      .ok (goInt m) (w.setRow g (cur.toList.take o ++ cs ++ cur.toList.drop (o + cs.length)).toArray) := by
  subst hm
  have hst := run_storeCells_at P g o t cs 0 cur w hg (by simpa using hfit) h1
  have hf := run_firstCells_some (P := P) w size (Nat.min sLen dLen) a sLen sCap cs hn hsrc
  cases hq : P.info? elem with
  | none => simp [hq] at hs
  | some i =>
    have hi : i.size = size := by simpa [hq] using hs
    rw [← hi] at hf
    simp [Builtin.copy_, run_underlying hu, Builtin.lenOf, sizeOf, typeInfo, hq, hf, hst]
/-- clear over elements of any size, within a row of one's own. -/
theorem run_clear2 {P : Program} (w : World) (t e ty : TypeId) (z : Value) (ht : P.underlying t = some (.slice e)) (hv : ∀ w, (zeroValue e).run P w = .ok z w) (g o n c : Nat) (hn : 0 < n) (cur : Array Value) (tt : TypeId)
    (hg : w.heap[g]? = some (.cells cur tt (0, 0))) (hfit : o + (Builtin.zeroCells z.cells n).toList.length ≤ cur.size) (h1 : ∀ v ∈ (Builtin.zeroCells z.cells n).toList, v.oneCell' = true) :
    (Builtin.clear_ #[t] ty #[.slice (some ⟨g, o, none⟩) n c]).run P w = .ok (.tuple #[]) (w.setRow g (cur.toList.take o ++ (Builtin.zeroCells z.cells n).toList ++ cur.toList.drop (o + (Builtin.zeroCells z.cells n).toList.length)).toArray) := by
  have hst := run_storeCells_at P g o tt (Builtin.zeroCells z.cells n).toList 0 cur w hg (by simpa using hfit) h1
  simp only [Nat.add_zero] at hst
  obtain ⟨m, rfl⟩ : ∃ m, n = m + 1 := ⟨n - 1, by omega⟩
  simp [Builtin.clear_, run_underlying ht, hv, hst]
theorem step_builtin_run {P : Program} {ops : Array Oper} {o : Oper} {a : Act} {w w' : World} {K : Act → World → Prop} {Q : Exit → Act → World → Prop} {E : Prop} (hg : o.guard = none) (s x : Operand) (t u : TypeId)
    (hop : o.op = .call { callee := .builtin .append, args := #[s, x], argTypes := #[t, u] }) {v vx v' : Value} (hs : a.eval s = v) (hx : a.eval x = vx)
    (hrun : (Builtin.append_ #[t, u] o.type #[v, vx]).run P w = .ok v' w') (hK : K (a.put o.dst v') w') :
    if Region.wanted o (yielded ops a.tmps) = true then Oper.wp P o a w K Q else E := by
  have hw : Region.wanted o (yielded ops a.tmps) = true := by simp [Region.wanted, hg]
  rw [if_pos hw]
  unfold Oper.wp
  simp [execOp, hop, resolve, invoke, builtin, hs, hx, hrun, Result.andThen]
  exact hK
theorem step_copy_run {P : Program} {ops : Array Oper} {o : Oper} {a : Act} {w w' : World} {K : Act → World → Prop} {Q : Exit → Act → World → Prop} {E : Prop} (hg : o.guard = none) (s x : Operand) (t u : TypeId)
    (hop : o.op = .call { callee := .builtin .copy, args := #[s, x], argTypes := #[t, u] }) {v vx v' : Value} (hs : a.eval s = v) (hx : a.eval x = vx)
    (hrun : (Builtin.copy_ #[t, u] o.type #[v, vx]).run P w = .ok v' w') (hK : K (a.put o.dst v') w') :
    if Region.wanted o (yielded ops a.tmps) = true then Oper.wp P o a w K Q else E := by
  have hw : Region.wanted o (yielded ops a.tmps) = true := by simp [Region.wanted, hg]
  rw [if_pos hw]
  unfold Oper.wp
  simp [execOp, hop, resolve, invoke, builtin, hs, hx, hrun, Result.andThen]
  exact hK
theorem wpList_copy_run {P : Program} {ops : Array Oper} {rest : List Oper} {o : Oper} {a : Act} {Q : Exit → Act → World → Prop} {w w' : World} (hgd : o.guard = none) (s x : Operand) (t u : TypeId)
    (ho : o.op = .call { callee := .builtin .copy, args := #[s, x], argTypes := #[t, u] }) {v vx v' : Value} (hs : a.eval s = v) (hx : a.eval x = vx)
    (hrun : (Builtin.copy_ #[t, u] o.type #[v, vx]).run P w = .ok v' w') (h : wpList P ops Q rest (a.put o.dst v') w') : wpList P ops Q (o :: rest) a w := by
  refine wpList_plain hgd fun K hK' => ?_
  unfold Oper.wp
  simp [execOp, ho, resolve, invoke, builtin, hs, hx, hrun, Result.andThen]
  exact hK' _ _ h
theorem wpList_append_run2 {P : Program} {ops : Array Oper} {rest : List Oper} {o : Oper} {a : Act} {Q : Exit → Act → World → Prop} {w w' : World} (hgd : o.guard = none) (s x : Operand) (t u : TypeId)
    (ho : o.op = .call { callee := .builtin .append, args := #[s, x], argTypes := #[t, u] }) {v vx v' : Value} (hs : a.eval s = v) (hx : a.eval x = vx)
    (hrun : (Builtin.append_ #[t, u] o.type #[v, vx]).run P w = .ok v' w') (h : wpList P ops Q rest (a.put o.dst v') w') : wpList P ops Q (o :: rest) a w := by
  refine wpList_plain hgd fun K hK' => ?_
  unfold Oper.wp
  simp [execOp, ho, resolve, invoke, builtin, hs, hx, hrun, Result.andThen]
  exact hK' _ _ h
theorem wpList_clear_run {P : Program} {ops : Array Oper} {rest : List Oper} {o : Oper} {a : Act} {Q : Exit → Act → World → Prop} {w w' : World} (hgd : o.guard = none) (s : Operand) (t : TypeId)
    (ho : o.op = .call { callee := .builtin .clear, args := #[s], argTypes := #[t] }) {v v' : Value} (hs : a.eval s = v)
    (hrun : (Builtin.clear_ #[t] o.type #[v]).run P w = .ok v' w') (h : wpList P ops Q rest (a.put o.dst v') w') : wpList P ops Q (o :: rest) a w := by
  refine wpList_plain hgd fun K hK' => ?_
  unfold Oper.wp
  simp [execOp, ho, resolve, invoke, builtin, hs, hrun, Result.andThen]
  exact hK' _ _ h
end Go.Lz
namespace Go.Proofs.YtjngphffgdjcfaaGreatDoor
open Go.RowKit Go.Lz
theorem add0 (g k : Nat) : (⟨g, 0, none⟩ : Addr).add k = ⟨g, k, none⟩ := by rw [Addr.add_lit, Nat.zero_add]
theorem ent_info : (Tryz.prog.info? 41).map (fun i => (i.zero, i.size, i.bytes)) = some (some (.agg #[.string ⟨#[]⟩, .int .i64 0]), 2, 24) := by kernel_rfl
theorem entC_one {l : List Entry} : ∀ u ∈ l.flatMap entC, u.oneCell' = true := fun u hu => by
  obtain ⟨x, _, hx⟩ := List.mem_flatMap.1 hu
  simp only [entC, List.mem_cons, List.not_mem_nil, or_false] at hx
  rcases hx with rfl | rfl <;> rfl
theorem entC_take (l : List Entry) (i : Nat) : (l.take i).flatMap entC = (l.flatMap entC).take (2 * i) := by
  induction l generalizing i with
  | nil => simp
  | cons x l ih =>
    cases i with
    | zero => simp
    | succ i =>
      rw [List.take_succ_cons, List.flatMap_cons, List.flatMap_cons, ih i, show 2 * (i + 1) = (entC x).length + 2 * i by simp [entC]; omega, List.take_length_add_append]
theorem entC_drop (l : List Entry) (i : Nat) : (l.drop i).flatMap entC = (l.flatMap entC).drop (2 * i) := by
  induction l generalizing i with
  | nil => simp
  | cons x l ih =>
    cases i with
    | zero => simp
    | succ i =>
      rw [List.drop_succ_cons, List.flatMap_cons, ih i, show 2 * (i + 1) = (entC x).length + 2 * i by simp [entC]; omega, List.drop_length_add_append]
theorem ents_new {w w' : World} {B c : Nat} {cur : Array Value} {l : List Entry} {n : Nat} (hB : w.heap.size ≤ B) (hn : l.length = n) (hl : n ≤ 9223372036854775807) (h : w'.heap[B]? = some (.cells cur 41 (0, 0))) (hc : cur.toList.take (l.length * 2) = l.flatMap entC) : EntsAt w' (fun k => w.heap.size ≤ k) (.slice (some ⟨B, 0, none⟩) n c) l :=
  ⟨_, _, _, rfl, hn, hl, .inr ⟨B, 0, rfl, hB, lt_of_heap h, fun j u hu => by
    rw [Nat.zero_add, cell_of h, ← Array.getElem?_toList]
    rw [← hc, List.getElem?_take] at hu
    split at hu
    · exact hu
    · cases hu⟩⟩
set_option maxRecDepth 100000 in
/-- Insert, at the end. -/
theorem insE_end {w : World} {v : Value} {l : List Entry} {gv : Nat} {x : Entry} (hl : l.length ≤ 1000)
    (hv : (l = [] ∧ v = .slice none 0 0) ∨ ∃ b, v = .slice (some ⟨b, 0, none⟩) l.length l.length ∧ ∀ j u, (l.flatMap entC)[j]? = some u → w.cell? ⟨b, j, none⟩ = some u)
    (hx : ∀ j u, (entC x)[j]? = some u → w.cell? ⟨gv, j, none⟩ = some u) :
    Calls Tryz.prog 36 #[v, .int .i64 (l.length : Int), .slice (some ⟨gv, 0, none⟩) 1 1] w fun e w' => Below w.heap.size w w' ∧ ∃ v', e = .returned v' ∧ EntsAt w' (fun k => w.heap.size ≤ k) v' (l ++ [x]) := by
  obtain ⟨i0, hi, hz0, hz1, hz2⟩ := info_parts ent_info
  have hnx : ∀ (j : Nat) u, (entC x)[j]? = some u → w.cell? ((⟨gv, 0, none⟩ : Addr).add j) = some u := fun j u hu => by rw [add0]; exact hx j u hu
  rcases hv with ⟨rfl, rfl⟩ | ⟨b, rfl, hb⟩
  · have hrr := fun ty => run_append_nil (P := Tryz.prog) w 37 ty 41 i0 _ Tryz.underlying37 hi hz0 ⟨gv, 0, none⟩ 1 1 (entC x) (by rw [hz1]; rfl) hnx (by omega) (by omega) (by rw [hz2]; omega)
    clear hi hz0 hz1 hz2 hnx hx
    have hrH : Hid _ := Lib.hid hrr
    clear hrr
    go_enter Tryz.func36, Tryz.ntmps36
    go_wp2_with (at_builtin; refine wpList_append_run2 rfl _ _ _ _ rfl rfl rfl (hrH.out _) ?_)
    go_ret
    have hn := heap_alloc_new w.drew (.cells ((entC x).toArray ++ Builtin.zeroCells (Value.agg #[.string ⟨#[]⟩, .int .i64 0]).cells (grownCap w 1 0 41 - 1)) 41)
    refine ⟨(Below.refl _ w).drew.alloc (Nat.le_refl _) _, _, rfl, ents_new (l := [x]) (Nat.le_refl _) rfl (by omega) hn ?_⟩
    simp [entC]
  · have holds : ∀ (j : Nat) u, (l.flatMap entC)[j]? = some u → w.cell? ((⟨b, 0, none⟩ : Addr).add j) = some u := fun j u hu => by rw [add0]; exact hb j u hu
    have hrr := fun ty => run_append_grow (P := Tryz.prog) w 37 ty 41 i0 _ Tryz.underlying37 hi hz0 ⟨b, 0, none⟩ l.length l.length (l.flatMap entC) (by rw [hz1, entC_len]; omega) holds ⟨gv, 0, none⟩ 1 1 (entC x) (by rw [hz1]; rfl) hnx (by omega) (by omega) (growslice_fits (by omega) (by rw [hz2]; omega))
    obtain ⟨A, hA⟩ : ∃ A, A = (l.flatMap entC).toArray ++ (entC x).toArray ++ Builtin.zeroCells (Value.agg #[.string ⟨#[]⟩, .int .i64 0]).cells (grownCap w (l.length + 1) l.length 41 - (l.length + 1)) := ⟨_, rfl⟩
    simp only [← hA] at hrr
    have hA2 : A.toList.take ((l.length + 1) * 2) = (l ++ [x]).flatMap entC := by
      rw [hA, Array.toList_append, Array.toList_append, List.flatMap_append, List.take_left' (by
        rw [List.length_append, List.toList_toArray, List.toList_toArray, entC_len]
        show 2 * l.length + 2 = _
        omega)]
      simp
    have hA2H : Hid _ := Lib.hid hA2
    clear hA hA2
    have hrH : Hid _ := Lib.hid hrr
    obtain ⟨n, hn⟩ : ∃ n, n = l.length := ⟨_, rfl⟩
    rw [← hn] at hrH hl hA2H ⊢
    have hnH : Hid _ := Lib.hid hn
    clear hi hz0 hz1 hz2 hnx hx hb holds hrr hn
    go_enter Tryz.func36, Tryz.ntmps36
    go_wp2_with (at_builtin; refine wpList_append_run2 rfl _ _ _ _ rfl rfl rfl (hrH.out _) ?_)
    go_ret
    exact ⟨(Below.refl _ w).drew.alloc (Nat.le_refl _) _, _, rfl, ents_new (l := l ++ [x]) (Nat.le_refl _) (by rw [List.length_append, ← hnH.out]; rfl) (by omega) (heap_alloc_new w.drew _) (by rw [List.length_append, ← hnH.out]; exact hA2H.out)⟩
theorem below_setRow {w W : World} {B g : Nat} (h : Below B w W) (hs : B ≤ W.heap.size) (hg : B ≤ g) (cs : Array Value) : Below B w (W.setRow g cs) := h.trans (((Chg.refl (· = g) W).setRow (fun _ => rfl) cs).belowB hs (fun j hj e => by have e : j = g := e; omega))
set_option maxRecDepth 100000 in
set_option maxHeartbeats 2000000 in
/-- Insert, ahead of an entry. -/
theorem insE_mid {w : World} {l : List Entry} {i b gv : Nat} {x : Entry} (hl : l.length ≤ 1000) (hi' : i < l.length) (hbl : b < w.heap.size)
    (hb : ∀ j u, (l.flatMap entC)[j]? = some u → w.cell? ⟨b, j, none⟩ = some u)
    (hgv : gv < w.heap.size) (hx : ∀ j u, (entC x)[j]? = some u → w.cell? ⟨gv, j, none⟩ = some u) :
    Calls Tryz.prog 36 #[.slice (some ⟨b, 0, none⟩) l.length l.length, .int .i64 (i : Int), .slice (some ⟨gv, 0, none⟩) 1 1] w fun e w' => Below w.heap.size w w' ∧ ∃ v', e = .returned v' ∧ EntsAt w' (fun k => w.heap.size ≤ k) v' (l.take i ++ x :: l.drop i) := by
  obtain ⟨i0, hi, hz0, hz1, hz2⟩ := info_parts ent_info
  have hsz : (Tryz.prog.info? 41).map (·.size) = some 2 := by rw [hi]; exact congrArg some hz1
  obtain ⟨n, hn⟩ : ∃ n, n = l.length := ⟨_, rfl⟩
  have h1k : ((n : Int) + 1 - (i : Int)) = ((n + 1 - i : Nat) : Int) := by omega
  -- the new row
  have holds : ∀ (j : Nat) u, ((l.take i).flatMap entC)[j]? = some u → w.cell? ((⟨b, 0, none⟩ : Addr).add j) = some u := fun j u hu => by
    rw [add0]
    rw [entC_take, List.getElem?_take] at hu
    split at hu
    · exact hb j u hu
    · cases hu
  have hr1 := fun ty => run_append_zeros (P := Tryz.prog) w 37 3 ty 41 i0 (.agg #[.string ⟨#[]⟩, .int .i64 0]) .i64 .i64 Tryz.underlying37 Tryz.underlying3 hi hz0 ⟨b, 0, none⟩ i n ((l.take i).flatMap entC) (by rw [hz1, entC_len, List.length_take]; omega) holds (n + 1 - i) (by omega) (by rw [hz1]; omega) (by omega) (by omega) (by rw [hz2]; omega) (growslice_fits (by omega) (by rw [hz2]; omega))
  rw [show i + (n + 1 - i) = n + 1 by omega] at hr1
  obtain ⟨A, hA⟩ : ∃ A, A = ((l.take i).flatMap entC).toArray ++ Builtin.zeroCells (Value.agg #[.string ⟨#[]⟩, .int .i64 0]).cells (n + 1 - i) ++ Builtin.zeroCells (Value.agg #[.string ⟨#[]⟩, .int .i64 0]).cells (grownCap w (n + 1) n 41 - (n + 1)) := ⟨_, rfl⟩
  simp only [← hA] at hr1
  have hge := grownCap_ge w (n + 1) n 41
  have hle := grownCap_le_maxLen w (n + 1) n 41 (by unfold maxLen; omega)
  generalize grownCap w (n + 1) n 41 = gc at *
  have hAs : A.size = gc * 2 := by
    rw [hA, Array.size_append, Array.size_append, size_zeroCells, size_zeroCells, List.size_toArray, entC_len, List.length_take]
    show 2 * min i l.length + (n + 1 - i) * 2 + (gc - (n + 1)) * 2 = _
    omega
  have hAt : A.toList.take (i * 2) = (l.take i).flatMap entC := by
    rw [hA, Array.toList_append, Array.toList_append, List.append_assoc, List.take_left' (by rw [List.toList_toArray, entC_len, List.length_take]; omega)]
  clear hA holds
  obtain ⟨B, hB⟩ : ∃ B, B = w.heap.size := ⟨_, rfl⟩
  obtain ⟨W1, hW1⟩ : ∃ W1, W1 = w.drew.alloc (.cells A 41) := ⟨_, rfl⟩
  have k1 : W1.heap[B]? = some (.cells A 41 (0, 0)) := by rw [hW1, hB]; exact heap_alloc_new w.drew _
  have hb1 : Below w.heap.size w W1 := by rw [hW1]; exact (Below.refl _ w).drew.alloc (Nat.le_refl _) _
  rw [← hB, ← hW1] at hr1
  -- the entry
  have hr2 := fun ty => run_copy2 (P := Tryz.prog) W1 37 37 ty 41 2 B (i * 2) (n + 1 - i) (gc - i) ⟨gv, 0, none⟩ 1 1 1 A 41 (entC x) Tryz.underlying37 hsz k1 (by show 1 = min 1 (n + 1 - i); omega) rfl (fun j u hu => by rw [add0, hb1.cell (p := ⟨gv, j, none⟩) hgv]; exact hx j u hu) (by rw [hAs]; show i * 2 + 2 ≤ _; omega) (fun u hu => entC_one (l := [x]) u (by simpa using hu))
  obtain ⟨C, hC⟩ : ∃ C, C = (A.toList.take (i * 2) ++ entC x ++ A.toList.drop (i * 2 + (entC x).length)).toArray := ⟨_, rfl⟩
  simp only [← hC] at hr2
  have hCs : C.size = gc * 2 := by
    rw [hC, List.size_toArray, List.length_append, List.length_append, List.length_take, List.length_drop, Array.length_toList, hAs]
    show min (i * 2) (gc * 2) + 2 + (gc * 2 - (i * 2 + 2)) = _
    omega
  have hCt : C.toList.take ((i + 1) * 2) = (l.take i ++ [x]).flatMap entC := by
    rw [hC, List.toList_toArray, List.take_left' (by rw [List.length_append, List.length_take, Array.length_toList, hAs]; show min (i * 2) (gc * 2) + 2 = _; omega), hAt, List.flatMap_append]
    simp
  obtain ⟨W2, hW2⟩ : ∃ W2, W2 = W1.setRow B C := ⟨_, rfl⟩
  have k2 : W2.drew.heap[B]? = some (.cells C 41 (0, 0)) := by rw [hW2]; exact setRow_heap W1 B A C 41 _ k1
  have hb2 : Below w.heap.size w W2.drew := by
    rw [hW2]
    exact (below_setRow hb1 hb1.size (by omega) _).drew
  simp only [← hW2] at hr2
  -- those behind it
  have hr3 := fun ty => run_copy2 (P := Tryz.prog) W2.drew 37 37 ty 41 2 B ((i + 1) * 2) (n - i) (gc - (i + 1)) ⟨b, i * 2, none⟩ (n - i) (n - i) (n - i) C 41 ((l.drop i).flatMap entC) Tryz.underlying37 hsz k2 (by show n - i = min (n - i) (n - i); omega) (by rw [entC_len, List.length_drop]; omega) (fun j u hu => by
    rw [Addr.add_lit, hb2.cell (p := ⟨b, i * 2 + j, none⟩) hbl]
    rw [entC_drop, List.getElem?_drop, Nat.mul_comm] at hu
    exact hb _ u hu) (by rw [hCs, entC_len, List.length_drop]; omega) entC_one
  obtain ⟨D, hD⟩ : ∃ D, D = (C.toList.take ((i + 1) * 2) ++ (l.drop i).flatMap entC ++ C.toList.drop ((i + 1) * 2 + ((l.drop i).flatMap entC).length)).toArray := ⟨_, rfl⟩
  simp only [← hD] at hr3
  have hDt : D.toList.take ((n + 1) * 2) = (l.take i ++ x :: l.drop i).flatMap entC := by
    rw [hD, List.toList_toArray, List.take_left' (by rw [List.length_append, List.length_take, Array.length_toList, hCs, entC_len, List.length_drop]; omega), hCt]
    simp
  have k3 : (W2.drew.setRow B D).heap[B]? = some (.cells D 41 (0, 0)) := setRow_heap W2.drew B C D 41 _ k2
  have hb3 : Below w.heap.size w (W2.drew.setRow B D) := below_setRow hb2 hb2.size (by omega) _
  obtain ⟨W3, hW3⟩ : ∃ W3, W3 = W2.drew.setRow B D := ⟨_, rfl⟩
  rw [← hW3] at k3 hb3
  simp only [← hW3] at hr3
  have hl2 : (l.take i ++ x :: l.drop i).length = n + 1 := by rw [List.length_append, List.length_cons, List.length_take, List.length_drop]; omega
  have hlast : EntsAt W3 (fun k => w.heap.size ≤ k) (.slice (some ⟨B, 0, none⟩) (n + 1) gc) (l.take i ++ x :: l.drop i) := ents_new (by omega) hl2 (by omega) k3 (by rw [hl2]; exact hDt)
  rw [← hn] at hl hi' ⊢
  have hfin : Hid (Below w.heap.size w W3 ∧ _) := Lib.hid (And.intro hb3 hlast)
  have h1H : Hid _ := Lib.hid hr1
  have h2H : Hid _ := Lib.hid hr2
  have h3H : Hid _ := Lib.hid hr3
  clear hi hz0 hz1 hz2 hx hb hr1 hr2 hr3 hAs hAt hC hCs hCt hD hDt k1 k2 k3 hb1 hb2 hb3 hW1 hW2 hW3 hsz hl2 hlast hbl hgv hB hn
  have hic : i < gc := by omega
  have hic1 : i + 1 < gc := by omega
  have hne : ¬ (i : Int) = (n : Int) := by omega
  have hw1 : IntKind.i64.wrap ((i : Int) + 1) = ((i + 1 : Nat) : Int) := by rw [IntKind.wrap_i64]; omega
  have hgi : ¬ gc = i + 1 := by omega
  have hni : ¬ n = i := by omega
  have hz1 : i ≤ n := by omega
  have hz4 : (0 : Int) ≤ (i : Int) + 1 := by omega
  have hz2 : (0 : Int) ≤ ((i + 1 : Nat) : Int) := by omega
  have hz3 : (((i + 1 : Nat) : Int)).toNat = i + 1 := by omega
  go_enter Tryz.func36, Tryz.ntmps36
  go_upto_region 10 with (at_builtin; refine wpList_append_run2 rfl _ _ 37 3 rfl rfl rfl (h1H.out _) ?_)
  go_upto_region 11 with (refine wpList_copy_run rfl _ _ 37 37 rfl rfl rfl (h2H.out _) ?_)
  go_region_law (refine step_copy_run rfl (.tmp 50) (.tmp 53) 37 37 rfl (v := .slice (some ⟨B, (i + 1) * 2, none⟩) (n - i) (gc - (i + 1))) (vx := .slice (some ⟨b, i * 2, none⟩) (n - i) (n - i)) (by simp [Act.eval, Act.put]) (by simp [Act.eval, Act.put]) (h3H.out _) ?_)
  go_wp2
  go_ret
  exact ⟨hfin.out.1, _, rfl, hfin.out.2⟩
/-- Insert. -/
theorem insE_any {w : World} {v : Value} {l : List Entry} {i gv : Nat} {x : Entry} (hl : l.length ≤ 1000) (hi : i ≤ l.length)
    (hv : (l = [] ∧ v = .slice none 0 0) ∨ ∃ b, v = .slice (some ⟨b, 0, none⟩) l.length l.length ∧ b < w.heap.size ∧ ∀ j u, (l.flatMap entC)[j]? = some u → w.cell? ⟨b, j, none⟩ = some u)
    (hgv : gv < w.heap.size) (hx : ∀ j u, (entC x)[j]? = some u → w.cell? ⟨gv, j, none⟩ = some u) :
    Calls Tryz.prog 36 #[v, .int .i64 (i : Int), .slice (some ⟨gv, 0, none⟩) 1 1] w fun e w' => Below w.heap.size w w' ∧ ∃ v', e = .returned v' ∧ EntsAt w' (fun k => w.heap.size ≤ k) v' (l.take i ++ x :: l.drop i) := by
  rcases Nat.lt_or_eq_of_le hi with hlt | rfl
  · rcases hv with ⟨rfl, _⟩ | ⟨b, rfl, h1, h2⟩
    · simp at hlt
    · exact insE_mid hl hlt h1 h2 hgv hx
  · rw [List.take_length, List.drop_length]
    exact insE_end hl (hv.imp id fun ⟨b, h1, _, h2⟩ => ⟨b, h1, h2⟩) hx
theorem zeroEnt : (Builtin.zeroCells (Value.agg #[.string ⟨#[]⟩, .int .i64 0]).cells 1).toList = [.string ⟨#[]⟩, .int .i64 0] := by kernel_rfl
set_option maxRecDepth 100000 in
set_option maxHeartbeats 2000000 in
/-- Delete, of one entry. -/
theorem delE_any {w : World} {l : List Entry} {i b : Nat} {cur : Array Value} (hl : l.length ≤ 1000) (hi' : i < l.length)
    (hb : w.heap[b]? = some (.cells cur 41 (0, 0))) (hc : cur.toList.take (l.length * 2) = l.flatMap entC) :
    Calls Tryz.prog 41 #[.slice (some ⟨b, 0, none⟩) l.length l.length, .int .i64 (i : Int), .int .i64 ((i : Int) + 1)] w fun e w' => Chg (· = b) w w' ∧ (∃ c, e = .returned (.slice (some ⟨b, 0, none⟩) (l.length - 1) c)) ∧
      ∃ cur', w'.heap[b]? = some (.cells cur' 41 (0, 0)) ∧ cur'.toList.take ((l.take i ++ l.drop (i + 1)).length * 2) = (l.take i ++ l.drop (i + 1)).flatMap entC := by
  obtain ⟨i0, hi, hz0, hz1, hz2⟩ := info_parts ent_info
  have hsz : (Tryz.prog.info? 41).map (·.size) = some 2 := by rw [hi]; exact congrArg some hz1
  obtain ⟨m, hm⟩ : ∃ m, l.length = m + 1 := ⟨l.length - 1, by omega⟩
  obtain ⟨n, hn⟩ : ∃ n, n = l.length := ⟨_, rfl⟩
  have hcs : n * 2 ≤ cur.size := by
    have := congrArg List.length hc
    rw [List.length_take, Array.length_toList (xs := cur), entC_len] at this
    omega
  have hcell : ∀ j u, (l.flatMap entC)[j]? = some u → w.cell? ⟨b, j, none⟩ = some u := fun j u hu => by
    rw [cell_of hb, ← Array.getElem?_toList]
    rw [← hc, List.getElem?_take] at hu
    split at hu
    · exact hu
    · cases hu
  have kd : w.drew.heap[b]? = some (.cells cur 41 (0, 0)) := hb
  obtain ⟨ad, had, hsrc⟩ : ∃ ad : Addr, (if m = i then some (⟨b, 0, none⟩ : Addr) else some ⟨b, (i + 1) * 2, none⟩) = some ad ∧ (∀ (j : Nat) u, ((l.drop (i + 1)).flatMap entC)[j]? = some u → w.drew.cell? (ad.add j) = some u) := by
    by_cases h : m = i
    · refine ⟨⟨b, 0, none⟩, by rw [if_pos h], fun j u hu => ?_⟩
      rw [List.drop_eq_nil_of_le (by omega)] at hu
      simp at hu
    · refine ⟨⟨b, (i + 1) * 2, none⟩, by rw [if_neg h], fun j u hu => ?_⟩
      rw [Addr.add_lit]
      rw [entC_drop, List.getElem?_drop, Nat.mul_comm] at hu
      exact hcell _ u hu
  have hr1 := fun ty => run_append_room (P := Tryz.prog) w.drew 37 ty 41 i0 Tryz.underlying37 hi b i n cur kd ad (m - i) (m - i) ((l.drop (i + 1)).flatMap entC) (by rw [hz1, entC_len, List.length_drop]; omega) hsrc entC_one (by omega) (by rw [hz1, entC_len, List.length_drop]; omega)
  obtain ⟨C, hC⟩ : ∃ C, C = (cur.toList.take (i * 2) ++ (l.drop (i + 1)).flatMap entC ++ cur.toList.drop (i * 2 + ((l.drop (i + 1)).flatMap entC).length)).toArray := ⟨_, rfl⟩
  have hmn : n - 1 = m := by omega
  simp only [hz1, ← hC, show i + (m - i) = m by omega] at hr1
  have hl2 : (l.take i ++ l.drop (i + 1)).length = m := by rw [List.length_append, List.length_take, List.length_drop]; omega
  have hCs : C.size = cur.size := by
    rw [hC, List.size_toArray, List.length_append, List.length_append, List.length_take, List.length_drop, Array.length_toList, entC_len, List.length_drop]
    omega
  have hCt : C.toList.take (m * 2) = (l.take i ++ l.drop (i + 1)).flatMap entC := by
    have e : cur.toList.take (i * 2) = (l.take i).flatMap entC := by
      rw [entC_take, ← hc, List.take_take, Nat.min_eq_left (by omega), Nat.mul_comm]
    rw [hC, List.toList_toArray, List.take_left' (by rw [List.length_append, List.length_take, Array.length_toList, entC_len, List.length_drop]; omega), e, List.flatMap_append]
  obtain ⟨W1, hW1⟩ : ∃ W1, W1 = w.drew.setRow b C := ⟨_, rfl⟩
  have k1 : W1.heap[b]? = some (.cells C 41 (0, 0)) := by rw [hW1]; exact setRow_heap w.drew b cur C 41 _ kd
  have c1 : Chg (· = b) w W1 := by
    rw [hW1]
    exact (Chg.of_below (M := (· = b)) (Below.refl _ w).drew).setRow (fun _ => rfl) C
  simp only [← hW1] at hr1
  have hr2 := fun ty => run_clear2 (P := Tryz.prog) W1 37 41 ty (.agg #[.string ⟨#[]⟩, .int .i64 0]) Tryz.underlying37 (fun w => by kernel_rfl) b (m * 2) 1 1 (by omega) C 41 k1 (by rw [zeroEnt, hCs]; show m * 2 + 2 ≤ _; omega) (by rw [zeroEnt]; intro v hv; simp only [List.mem_cons, List.not_mem_nil, or_false] at hv; rcases hv with rfl | rfl <;> rfl)
  obtain ⟨D, hD⟩ : ∃ D, D = (C.toList.take (m * 2) ++ (Builtin.zeroCells (Value.agg #[.string ⟨#[]⟩, .int .i64 0]).cells 1).toList ++ C.toList.drop (m * 2 + (Builtin.zeroCells (Value.agg #[.string ⟨#[]⟩, .int .i64 0]).cells 1).toList.length)).toArray := ⟨_, rfl⟩
  simp only [← hD] at hr2
  have hDt : D.toList.take (m * 2) = (l.take i ++ l.drop (i + 1)).flatMap entC := by
    rw [hD, List.toList_toArray, List.append_assoc, List.take_left' (by rw [List.length_take, Array.length_toList, hCs]; omega), hCt]
  obtain ⟨W2, hW2⟩ : ∃ W2, W2 = W1.setRow b D := ⟨_, rfl⟩
  have k2 : W2.heap[b]? = some (.cells D 41 (0, 0)) := by rw [hW2]; exact setRow_heap W1 b C D 41 _ k1
  have c2 : Chg (· = b) w W2 := by rw [hW2]; exact c1.setRow (fun _ => rfl) D
  simp only [← hW2] at hr2
  have hfin : Hid (Chg (· = b) w W2 ∧ _) := Lib.hid (And.intro c2 (And.intro k2 hDt))
  have hl2H : Hid _ := Lib.hid hl2
  rw [hm] at hl hi' ⊢
  rw [hm] at hn
  subst hn
  rw [show m + 1 - 1 = m by omega]
  have h1H : Hid _ := Lib.hid hr1
  have h2H : Hid _ := Lib.hid hr2
  clear hi hz0 hz1 hz2 hb hc hcs hcell kd hsrc hr1 hr2 hC hl2 hCs hCt hW1 k1 c1 hD hDt hW2 k2 c2 hsz hm hmn
  have hw1 : IntKind.i64.wrap ((i : Int) + 1) = ((i + 1 : Nat) : Int) := by rw [IntKind.wrap_i64]; omega
  have hz1 : i ≤ m + 1 := by omega
  have hz7 : (i : Int) ≤ (m : Int) + 1 := by omega
  have hz8 : (i : Int) + 1 ≤ (m : Int) + 1 := by omega
  have hz9 : i ≤ m := by omega
  have hz4 : (0 : Int) ≤ (i : Int) + 1 := by omega
  have hz5 : (i : Int) + 1 ≤ ((m + 1 : Nat) : Int) := by omega
  have hz3 : ((i : Int) + 1).toNat = i + 1 := by omega
  have hz6 : (i : Int) ≤ ((m + 1 : Nat) : Int) := by omega
  have hne : ¬ (i : Int) = (i : Int) + 1 := by omega
  go_enter Tryz.func41, Tryz.ntmps41
  go_upto_region 5 with fail
  go_region_law (refine step_builtin_run rfl (.tmp 22) (.tmp 25) 37 37 rfl (v := .slice (some ⟨b, 0, none⟩) i (m + 1)) (vx := .slice (some ad) (m - i) (m - i)) (by simp [Act.eval, Act.put]) (by simp [Act.eval, Act.put]) (h1H.out _) ?_)
  have hmz : (m : Int) ≤ ((m + 1 : Nat) : Int) := by omega
  go_upto_region 7 with (refine wpList_clear_run rfl _ _ rfl rfl (h2H.out _) ?_)
  go_wp2
  go_ret
  exact ⟨hfin.out.1, ⟨_, rfl⟩, D, hfin.out.2.1, by rw [hl2H.out]; exact hfin.out.2.2⟩
end Go.Proofs.YtjngphffgdjcfaaGreatDoor
/-
  Package dir: Find, over a base under small folders.
-/
namespace Go.Proofs.YtjngphffgdjcfaaGreatDoor
open Go.RowKit Go.Lz
section
variable {w0 w : World} {p q pb pn pk n N cc : Nat} {A : Nodes} {a : NodeA} {L : Locals} {l : List Entry}
/-- A node is a folder of these entries. -/
structure IsF (a : NodeA) (l : List Entry) : Prop where
  kind : a.kind = 2
  data : a.data = encF l
  good : GoodF l
  few : l.length ≤ 32
theorem IsF.len (h : IsF a l) : a.data.length ≤ 832 := by
  have := encF_le h.good.good
  have := h.few
  rw [h.data]
  omega
theorem list_ok (h : Own w0 w (TZ p q N A cc) L) (hL : BaseL L pb p pn pk N) (ha : A n = some a) (hF : IsF a l) (hT : ∀ w', Below w0.heap.size w0 w' → Tabs w') :
    Calls Tryz.prog 11 #[Dptr pb, .int .i64 (n : Int)] w fun e w' => w.heap.size ≤ w'.heap.size ∧ ∃ v, e = .returned (.tuple #[v, .int .i64 0]) ∧ OutE w0 w w' (TZ p q N A cc) L v l := by
  refine (list_any h hL ha (by have := hF.len; omega) hT).mono ?_
  rintro e w' ⟨_, h1, h2⟩
  rw [if_pos hF.kind, hF.data, fold_enc hF.good hF.few] at h2
  exact ⟨h1, h2⟩
/-- What Find tells. -/
def findR (l : List Entry) (s : ByteArray) : Int × Int := if nameD s then match lookE l s with
    | some k => ((k : Int), 0)
    | none => (0, 61)
  else (0, 1)
/-- What find tells of a name. -/
def hitB (l : List Entry) (s : ByteArray) (i : Nat) : Bool := match l[i]? with
  | none => false
  | some x => decide (cmpE s x = 0)
theorem hitB_yes {s : ByteArray} {i : Nat} (hr : RiseL l) (hP : PlaceE l s i) (h : hitB l s i = true) : ∃ x, l[i]? = some x ∧ cmpE s x = 0 ∧ lookE l s = some x.2 := by
  unfold hitB at h
  cases hx : l[i]? with
  | none => rw [hx] at h; cases h
  | some x =>
    rw [hx] at h
    have hc : cmpE s x = 0 := by simpa using h
    exact ⟨x, rfl, hc, hP.hit hr hx hc⟩
theorem hitB_no {s : ByteArray} {i : Nat} (hr : RiseL l) (hP : PlaceE l s i) (h : hitB l s i = false) : lookE l s = none := hP.miss hr fun x hx e => by
  unfold hitB at h
  rw [hx] at h
  simp [e] at h
theorem find_ok {v : Value} {s : ByteArray} {F : Nat → Prop} (hE : EntsAt w F v l) (hl : l.length ≤ 1000) (hr : RiseL l) : Calls Tryz.prog 34 #[v, .string s] w fun e w' => Below w.heap.size w w' ∧ ∃ i, PlaceE l s i ∧ e = .returned (.tuple #[.int .i64 (i : Int), .bool (hitB l s i)]) :=
  dfind_any hE hl (hr.mono s)
set_option maxRecDepth 100000 in
set_option maxHeartbeats 2000000 in
theorem dFind_any (h : Own w0 w (TZ p q N A cc) L) (hL : BaseL L pb p pn pk N) (ha : A n = some a) (hF : IsF a l) (hT : ∀ w', Below w0.heap.size w0 w' → Tabs w') {s : ByteArray} (hs : s.size ≤ 9223372036854775807) :
    Calls Tryz.prog 16 #[Dptr pb, .int .i64 (n : Int), .string s] w (Did w0 w (TZ p q N A cc) L (.tuple #[.int .i64 (findR l s).1, .int .i64 (findR l s).2])) := by
  have cL := list_ok h hL ha hF hT
  have hhH : Hid _ := Lib.hid h
  have hFH : Hid _ := Lib.hid hF
  have hTH : Hid _ := Lib.hid hT
  clear h hF hT
  go_enter Tryz.func16, Tryz.ntmps16
  go_upto_region 4 with (go_at_call 11; refine cL.mono ?_; rintro e w1 ⟨hs1, v, rfl, hE1⟩)
  have hO1 := hE1.own hhH.out
  have cN := name_any s w1 hs (fun w' hb => hTH.out w' (hO1.base.trans (hb.mono hO1.size)))
  have hl1 : l.length ≤ 1000 := by have := hFH.out.few; omega
  have hA1 := hE1.at_ (by omega)
  have hO1H : Hid _ := Lib.hid hO1
  have hA1H : Hid _ := Lib.hid hA1
  clear cL hE1 hO1 hA1
  cases hnm : nameD s with
  | false =>
    rw [hnm] at cN
    have hnmH : Hid _ := Lib.hid hnm
    clear hnm
    go_wp2_with (go_at_call 21; refine cN.mono ?_; rintro e w2 ⟨rfl, hb2⟩)
    go_ret2
    have e : findR l s = (0, 1) := by unfold findR; rw [hnmH.out]; rfl
    rw [e]
    exact ⟨rfl, hO1H.out.below (keepsTZ _ _ _ _ _) hb2, Nat.le_trans hs1 hb2.size⟩
  | true =>
    rw [hnm] at cN
    have hnmH : Hid _ := Lib.hid hnm
    clear hnm
    go_upto_region 6 with (go_at_call 21; refine cN.mono ?_; rintro e w2 ⟨rfl, hb2⟩)
    have hA2 : EntsAt w2 (fun k => w.heap.size ≤ k) v l := by
      obtain ⟨a1, n1, c1, e1, e2, e3, e4⟩ := hA1H.out
      refine ⟨a1, n1, c1, e1, e2, e3, e4.imp id ?_⟩
      rintro ⟨b, off, h1, h2, h3, h4⟩
      exact ⟨b, off, h1, h2, Nat.lt_of_lt_of_le h3 hb2.size, fun j u hu => (hb2.cell (p := ⟨b, off + j, none⟩) h3).trans (h4 j u hu)⟩
    have cF := find_ok (s := s) hA2 hl1 hFH.out.good.rise
    obtain ⟨a1, n1, c1, rfl, e2, e3, e4⟩ := hA2
    have e4H : Hid _ := Lib.hid e4
    have e2H : Hid _ := Lib.hid e2
    clear e4 hA1H e2
    go_upto_region 7 with (go_at_call 34; refine cF.mono ?_; rintro e w3 ⟨hb3, i, hP, rfl⟩; obtain ⟨hb, hhb⟩ : ∃ hb, hb = hitB l s i := ⟨_, rfl⟩; rw [← hhb]; have hhbH : Hid _ := Lib.hid hhb; clear hhb)
    have hO3 := (hO1H.out.below (keepsTZ _ _ _ _ _) hb2).below (keepsTZ _ _ _ _ _) hb3
    have hs3 : w.heap.size ≤ w3.heap.size := Nat.le_trans hs1 (Nat.le_trans hb2.size hb3.size)
    have hO3H : Hid _ := Lib.hid hO3
    have hPH : Hid _ := Lib.hid hP
    clear hO3 hP cF cN
    cases hb with
    | false =>
      have e : findR l s = (0, 61) := by
        unfold findR
        rw [hnmH.out, hitB_no hFH.out.good.rise hPH.out hhbH.out.symm]
        rfl
      have eH : Hid _ := Lib.hid e
      clear e
      go_wp2_with fail
      go_ret2
      rw [eH.out]
      exact ⟨rfl, hO3H.out, hs3⟩
    | true =>
      obtain ⟨x, hx, hc, hk⟩ := hitB_yes hFH.out.good.rise hPH.out hhbH.out.symm
      have e : findR l s = ((x.2 : Int), 0) := by
        unfold findR
        rw [hnmH.out, hk]
        rfl
      have eH : Hid _ := Lib.hid e
      have hin : i < n1 := by rw [← e2H.out]; exact (List.getElem?_eq_some_iff.1 hx).1
      have hinz : (i : Int) < (n1 : Int) := by omega
      obtain ⟨b, off, rfl, _, hbl, hcl⟩ := e4H.out.resolve_left (by omega)
      obtain ⟨h0, h1⟩ := entC_at l i x hx
      have q1 : w3.cell? ⟨b, off + i * 2 + 1, none⟩ = some (.int .i64 (x.2 : Int)) := (hb3.cell (p := ⟨b, off + i * 2 + 1, none⟩) hbl).trans (by have := hcl _ _ h1; rwa [Nat.mul_comm, ← Nat.add_assoc] at this)
      clear hcl h0 h1 hx hc hk e
      go_wp2_with fail
      go_ret2
      rw [eH.out]
      exact ⟨rfl, hO3H.out, hs3⟩
end
end Go.Proofs.YtjngphffgdjcfaaGreatDoor
