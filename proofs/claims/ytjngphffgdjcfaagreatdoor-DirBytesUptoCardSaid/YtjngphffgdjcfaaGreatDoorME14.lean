/-
  The texts InE AlP InP1 InP2 InP3 InP4 InP5 InP6 InP7 InP8, one behind the other.
-/
import Derived.Test.YtjngphffgdjcfaaGreatDoorME13
import Derived.Test.YtjngphffgdjcfaaGreatDoorME11
/-
  A base's calls: Make.
-/
namespace Go.Lz
open Go.RowKit Go.Proofs.YtjngphffgdjcfaaGreatDoor
def zero256 : Bytes := List.replicate 256 0
/-- A new node's bytes. -/
def mkNode (kind room : Int) (code : Bytes) : Bytes := splice (put2B (zero256.set 0 (lowByte kind)) 1 room) 7 code
/-- What Make tells: the error, the number, the store. -/
def WalS.makeN (S : WalS) (kind : Int) (s i : List Int) (room : Int) : Int × Nat × WalS :=
  if (kind ≠ 1 ∧ kind ≠ 2) ∨ (isSetB s && isSetB i) = false ∨ room < 0 ∨ 256 < room then (1, 0, S) else
  if (S.takeI 0 64).1 = 0 then
    let r := (S.takeI 0 64).2.2.save ((S.takeI 0 64).2.1 + 1) (mkNode kind room (setCode s ++ setCode i))
    (r.1, (S.takeI 0 64).2.1 + 1, r.2)
  else ((S.takeI 0 64).1, 0, (S.takeI 0 64).2.2)
end Go.Lz
namespace Go.Proofs.YtjngphffgdjcfaaGreatDoor
open Go.RowKit Go.Lz
section
variable {w w0 : World} {pb p q pn pk px gb cap n : Nat} {S : WalS} {Fs G : Nat → Prop} {b : Bytes}
def cells256 : Array Value := Array.replicate 256 (.int .u8 0)
theorem cells256_eq : cells256.toList = zero256.map u8v := by
  unfold cells256 zero256
  rw [Array.toList_replicate, List.map_replicate]
  rfl
theorem mk256 (W : World) : (Instr.makeSlice 23 (.int .i64 256) (.int .i64 256)).run Tryz.prog W = .ok (.slice (some ⟨W.heap.size, 0, none⟩) 256 256) (W.alloc (.cells cells256 5)) := by kernel_rfl
theorem takeI_lt (S : WalS) (a m : Nat) : (S.takeI a m).1 = 0 → (S.takeI a m).2.1 < m := by
  unfold WalS.takeI
  split
  · intro h; cases h
  · rename_i i hi
    have := List.mem_of_find?_eq_some hi
    have : i < m := by simpa using this
    split
    · intro _; exact this
    · rename_i h1
      intro h2
      exact absurd h2 h1
theorem NSt.turn {w' : World} {b' : Bytes} (h : NSt w0 w pb p q pn pk px gb cap n S b Fs) (hx2 : NodeAt w' px gb cap n b') (hC2 : Chg (· = gb) w w') : NSt w0 w' pb p q pn pk px gb cap n S b' Fs := by
  obtain ⟨⟨F, hB, hF, h1, h2⟩, hx, hC⟩ := h
  obtain ⟨n1, n2, n3⟩ := hx.apart hB
  exact ⟨⟨F, hB.chg hC2 (fun k hk e => by
    have e : k = gb := e
    subst e
    rcases hk with hk | hk | hk | hk
    · exact h2 hk
    · exact n1 hk.symm
    · exact n2 hk.symm
    · exact n3 hk.symm), hF, h1, h2⟩, hx2, hC.trans hC2 (fun k _ h => .inr h)⟩
theorem NSt.set (h : NSt w0 w pb p q pn pk px gb cap n S b Fs) {k : Nat} (hk : k < 256) (c : UInt8) : NSt w0 (w.setCell ⟨gb, k, none⟩ (u8v c)) pb p q pn pk px gb cap n S (b.set k c) Fs :=
  h.turn (h.node.set hk c) ((Chg.refl _ w).own k _)
/-- A new node. -/
theorem NodeAt.made (w : World) (n : Nat) : NodeAt ((w.alloc (.cells cells256 5)).alloc (.cells #[.int .i64 (n : Int), .slice (some ⟨w.heap.size, 0, none⟩) 256 256] 70)) (w.heap.size + 1) w.heap.size 256 n zero256 := by
  have h0 : ((w.alloc (.cells cells256 5)).alloc (.cells #[.int .i64 (n : Int), .slice (some ⟨w.heap.size, 0, none⟩) 256 256] 70)).heap[w.heap.size]? = some (.cells cells256 5 (0, 0)) := by
    have := ((Below.refl (w.alloc (.cells cells256 5)).heap.size _).alloc (Nat.le_refl _) (.cells #[.int .i64 (n : Int), .slice (some ⟨w.heap.size, 0, none⟩) 256 256] 70)).block w.heap.size (by simp)
    rw [this]
    exact heap_alloc_new w _
  have hz : zero256.length = 256 := by unfold zero256; rw [List.length_replicate]
  have hcs : cells256.size = 256 := by unfold cells256; rw [Array.size_replicate]
  refine ⟨?_, ⟨w.heap.size, 256, cells256, by rw [hz], rfl, h0, by rw [hz]; exact Nat.le_refl _, by decide, by rw [hcs]; exact Nat.le_refl _, ?_⟩, hz⟩
  · have := heap_alloc_new (w.alloc (.cells cells256 5)) (.cells #[.int .i64 (n : Int), .slice (some ⟨w.heap.size, 0, none⟩) 256 256] 70)
    simpa using this
  · rw [← cells256_eq, hz]
    exact List.take_of_length_le (by rw [Array.length_toList, hcs]; exact Nat.le_refl _)
theorem splice_take {m : Nat} {l : List Value} {bs c : Bytes} {i : Nat} (h : l.take m = bs.map u8v) (hb : bs.length = m) (hi : i + c.length ≤ m) : (splice l i (c.map u8v)).take m = (splice bs i c).map u8v := by
  have hl : m ≤ l.length := by
    have := congrArg List.length h
    rw [List.length_take, List.length_map, hb] at this
    omega
  have hsl : (splice bs i c).length = m := by rw [length_splice _ _ _ (by omega), hb]
  have e : splice l i (c.map u8v) = splice (l.take m) i (c.map u8v) ++ l.drop m := by
    unfold splice
    rw [List.length_map, List.append_assoc, List.append_assoc, List.take_take, Nat.min_eq_left (by omega), ← List.drop_append_of_le_length (by rw [List.length_take]; omega), List.take_append_drop]
  rw [e, List.take_append_of_le_length (by rw [length_splice _ _ _ (by rw [List.length_take, List.length_map]; omega), List.length_take]; omega), h]
  have e2 : splice (bs.map u8v) i (c.map u8v) = (splice bs i c).map u8v := by
    unfold splice
    simp [List.map_take, List.map_drop]
  rw [e2, List.take_of_length_le (by rw [List.length_map, hsl]; exact Nat.le_refl _)]
/-- A piece of a node's bytes is others. -/
theorem NodeAt.spliced {w' : World} {c : Bytes} {i : Nat} {cur : List Value} (h : NodeAt w px gb cap n b) (hg : w.heap[gb]? = some (.cells cur.toArray 5 (0, 0))) (hw : w'.heap[gb]? = some (.cells (splice cur i (c.map u8v)).toArray 5 (0, 0))) (hp : w'.heap[px]? = w.heap[px]?) (hi : i + c.length ≤ 256) : NodeAt w' px gb cap n (splice b i c) := by
  obtain ⟨hb, hd, hl⟩ := h
  obtain ⟨g2, cap2, cur2, e, hF, h1, h2, h3, h4, h5⟩ := hd
  have hF : g2 = gb := hF
  subst hF
  injection e with e1 e2 e3
  subst e3
  rw [h1] at hg
  injection hg with hg
  injection hg with hg
  subst hg
  have hls : (splice b i c).length = 256 := by rw [length_splice _ _ _ (by omega), hl]
  rw [hl] at h5 h2
  have hcl : cur.length = cur.toArray.size := by simp
  refine ⟨hp.trans hb, ⟨g2, cap, _, by rw [hls], rfl, hw, by rw [hls]; exact h2, h3, ?_, ?_⟩, hls⟩
  · have := length_splice cur i (c.map u8v) (by rw [List.length_map]; omega)
    simp
    omega
  · rw [hls]
    exact splice_take (by simpa using h5) hl hi
def MakePost (w : World) (pb p q pn pk : Nat) (Fs : Nat → Prop) (r : Int × Nat × WalS) (e : Ending) (w' : World) : Prop := BDid w pb p q pn pk r.2.2 Fs (.tuple #[.int .i64 (r.2.1 : Int), .int .i64 r.1]) e w'
set_option maxHeartbeats 4000000 in
set_option maxRecDepth 100000 in
theorem make_any {vS vI : Value} {sl il : List Int} (h : BaseIn w pb p q pn pk S Fs) (hS : IntsAt w G vS sl) (hI : IntsAt w G vI il) (kind room : Int) : Calls Tryz.prog 8 #[Dptr pb, .int .i64 kind, .agg #[vS, vI], .int .i64 room] w (MakePost w pb p q pn pk Fs (S.makeN kind sl il room)) := by
  have hb0 : Below w.heap.size w (w.alloc (.cells #[vS, vI] 34)) := (Below.refl _ w).alloc (Nat.le_refl _) _
  obtain ⟨w1, hw1⟩ : ∃ w1, w1 = w.alloc (.cells #[vS, vI] 34) := ⟨_, rfl⟩
  have k1 : w1.heap[w.heap.size]? = some (.cells #[vS, vI] 34 (0, 0)) := by rw [hw1]; exact heap_alloc_new w _
  rw [← hw1] at hb0
  have cE := encode_any (IntsAt.below hS hb0) (IntsAt.below hI hb0)
  obtain ⟨a1, c1, rfl⟩ := IntsAt.form hS
  obtain ⟨a2, c2, rfl⟩ := IntsAt.form hI
  have h1 := h.below hb0
  have c10 : w1.cell? ⟨w.heap.size, 0, none⟩ = some _ := cell_of k1 0
  have c11 : w1.cell? ⟨w.heap.size, 1, none⟩ = some _ := cell_of k1 1
  have hw1H : Hid _ := Lib.hid hw1
  have hb0H : Hid _ := Lib.hid hb0
  unfold MakePost WalS.makeN
  cases hm : (isSetB sl && isSetB il) with
  | false =>
    rw [if_pos (.inr (.inl rfl))]
    have cE' : Calls Tryz.prog 22 #[.agg #[.slice a1 sl.length c1, .slice a2 il.length c2]] w1 fun e w2 => e = .returned (.tuple #[.slice none 0 0, .int .i64 1]) ∧ Below w1.heap.size w1 w2 := cE.mono fun e w2 h2 => by
      obtain ⟨hb, h3 | h3⟩ := h2
      · exact ⟨h3.2, hb⟩
      · rw [hm] at h3; cases h3.1
    clear cE hw1 hb0 k1
    have hbad : Hid (∀ w2, Below w1.heap.size w1 w2 → BDid w pb p q pn pk S Fs (.tuple #[.int .i64 0, .int .i64 1]) (.returned (.tuple #[.int .i64 0, .int .i64 1])) w2) := Lib.hid (fun w2 hb2 => by
      have hb := hb0H.out.trans (hb2.mono hb0H.out.size)
      exact BSt.did ⟨Fs, h.below hb, fun _ h => .inl h, Chg.of_below hb⟩ rfl)
    rcases (show kind = 1 ∨ kind = 2 ∨ (kind ≠ 1 ∧ kind ≠ 2) by omega) with hk | hk | hk
    case' inl =>
      have hk1z : (kind != 1) = false := by simp [hk]
    case' inr.inl =>
      have hk1z : (kind != 1) = true := by simp [hk]
      have hk2z : (kind != 2) = false := by simp [hk]
    case' inr.inr =>
      have hk1z : (kind != 1) = true := by simpa using hk.1
      have hk2z : (kind != 2) = true := by simpa using hk.2
    all_goals
      clear hk
      go_enter Tryz.func8, Tryz.ntmps8
      go_wp2_with (rw [← hw1H.out]; go_at_call 22; refine cE'.mono ?_; rintro e w2 ⟨rfl, hb2⟩)
      go_ret2
      exact hbad.out _ hb2
  | true =>
    have cE' : Calls Tryz.prog 22 #[.agg #[.slice a1 sl.length c1, .slice a2 il.length c2]] w1 fun e w2 => ∃ v g, e = .returned (.tuple #[v, .int .i64 0]) ∧ Dat 5 w2 (· = g) v (setCode sl ++ setCode il) ∧ w1.heap.size ≤ g ∧ Below w1.heap.size w1 w2 := cE.mono fun e w2 h2 => by
      obtain ⟨hb, h3 | ⟨_, v, h3, g, h4, h5⟩⟩ := h2
      · rw [hm] at h3; cases h3.1
      · exact ⟨v, g, h3, h4, h5, hb⟩
    have hcl : (setCode sl ++ setCode il).length ≤ 130 := by
      rw [Bool.and_eq_true] at hm
      have := isSetB_len hm.1
      have := isSetB_len hm.2
      rw [List.length_append, setCode_len, setCode_len]
      omega
    have hcl1 : 1 ≤ (setCode sl ++ setCode il).length := by
      rw [List.length_append, setCode_len, setCode_len]
      omega
    generalize setCode sl ++ setCode il = code at *
    clear cE hw1 hb0 k1
    have hbad : Hid (∀ w2, Below w1.heap.size w1 w2 → BDid w pb p q pn pk S Fs (.tuple #[.int .i64 0, .int .i64 1]) (.returned (.tuple #[.int .i64 0, .int .i64 1])) w2) := Lib.hid (fun w2 hb2 => by
      have hb := hb0H.out.trans (hb2.mono hb0H.out.size)
      exact BSt.did ⟨Fs, h.below hb, fun _ h => .inl h, Chg.of_below hb⟩ rfl)
    by_cases hk3 : kind ≠ 1 ∧ kind ≠ 2
    · rw [if_pos (.inl hk3)]
      have hk1z : (kind != 1) = true := by simpa using hk3.1
      have hk2z : (kind != 2) = true := by simpa using hk3.2
      clear hk3
      go_enter Tryz.func8, Tryz.ntmps8
      go_wp2_with (rw [← hw1H.out]; go_at_call 22; refine cE'.mono ?_; rintro e w2 ⟨v, g, rfl, hv, hg, hb2⟩)
      go_ret2
      exact hbad.out _ hb2
    by_cases hrm : room < 0 ∨ 256 < room
    · rw [if_pos (.inr (.inr hrm))]
      rcases (show kind = 1 ∨ kind = 2 by omega) with hk | hk
      case' inl =>
        have hk1z : (kind != 1) = false := by simp [hk]
      case' inr =>
        have hk1z : (kind != 1) = true := by simp [hk]
        have hk2z : (kind != 2) = false := by simp [hk]
      all_goals
        clear hk hk3
        by_cases hr0 : room < 0
        · go_enter Tryz.func8, Tryz.ntmps8
          go_wp2_with (rw [← hw1H.out]; go_at_call 22; refine cE'.mono ?_; rintro e w2 ⟨v, g, rfl, hv, hg, hb2⟩)
          go_ret2
          exact hbad.out _ hb2
        · have hr256 : 256 < room := by omega
          go_enter Tryz.func8, Tryz.ntmps8
          go_wp2_with (rw [← hw1H.out]; go_at_call 22; refine cE'.mono ?_; rintro e w2 ⟨v, g, rfl, hv, hg, hb2⟩)
          go_ret2
          exact hbad.out _ hb2
    · rw [if_neg (fun h => h.elim hk3 (fun h => h.elim (fun h => Bool.noConfusion h) hrm))]
      have hr0 : ¬ room < 0 := fun h => hrm (.inl h)
      have hr256 : ¬ 256 < room := fun h => hrm (.inr h)
      have cK : ∀ w2, Below w1.heap.size w1 w2 → Calls Tryz.prog 23 #[Dptr pn] w2 (CDid w2 p q (S.takeI 0 64).2.2 Fs (.tuple #[.int .i64 ((S.takeI 0 64).2.1 : Int), .int .i64 (S.takeI 0 64).1])) := fun w2 hb2 => by
        have h2 := h1.below hb2
        exact ctake h2.mN h2.nn h2.sto h2.live (by omega) (by have := h2.big; unfold sectorsOf; omega)
      have cb2 : ∀ w2, Below w1.heap.size w1 w2 → w2.cell? ⟨pb, 1, none⟩ = some (Dptr pn) := fun w2 hb2 => (h1.below hb2).c1
      have hkb := takeI_le S 0 64
      have htx := Txn.takeI S 0 64
      have htl := takeI_lt S 0 64
      generalize S.takeI 0 64 = t at *
      obtain ⟨t1, k, S1⟩ := t
      dsimp only at *
      have hFl := h.sto.lt
      rcases (show kind = 1 ∨ kind = 2 by omega) with hk | hk
      case' inl =>
        have hk1z : (kind != 1) = false := by simp [hk]
        have hkw : Hid (IntKind.u8.wrap kind = kind) := Lib.hid (by rw [hk]; rfl)
      case' inr =>
        have hk1z : (kind != 1) = true := by simp [hk]
        have hk2z : (kind != 2) = false := by simp [hk]
        have hkw : Hid (IntKind.u8.wrap kind = kind) := Lib.hid (by rw [hk]; rfl)
      all_goals
        have hkc : u8v (lowByte kind) = .int .u8 kind := by
          rw [lowByte_u8v, Int.emod_eq_of_lt (by omega) (by omega)]
        have hk12 : (1 : Int) ≤ kind ∧ kind ≤ 2 := by omega
        clear hk hk3 hrm
        by_cases ht : t1 = 0
        case' neg =>
          have ht1 : (t1 != 0) = true := by simpa using ht
          rw [if_neg ht]
          go_enter Tryz.func8, Tryz.ntmps8
          go_wp2_with (first
            | (rw [← hw1H.out]; go_at_call 22; refine cE'.mono ?_; rintro e w2 ⟨v, g, rfl, hv, hg, hb2⟩; have cb := cb2 w2 hb2)
            | (go_at_call 23; refine (cK w2 hb2).mono ?_; rintro e w3 ⟨rfl, hs3, hC3⟩))
          go_ret2
          have hb := hb0H.out.trans (hb2.mono hb0H.out.size)
          exact (BSt.of_step (h.below hb) (fun k hk => .inl hk) (Chg.of_below hb) hs3 htx hC3).did rfl
        subst ht
        rw [if_pos rfl]
        have hkl := htl rfl
        dsimp only
        obtain ⟨R, hR⟩ : ∃ R, R = S1.save (k + 1) (mkNode kind room code) := ⟨_, rfl⟩
        rw [← hR]
        have hRH : Hid _ := Lib.hid hR
        clear hR
        have hmk := mk256
        go_enter Tryz.func8, Tryz.ntmps8
        go_upto_region 8 with (first
          | (rw [← hw1H.out]; go_at_call 22; refine cE'.mono ?_; rintro e w2 ⟨v, g, rfl, hv, hg, hb2⟩; have cb := cb2 w2 hb2)
          | (go_at_call 23; refine (cK w2 hb2).mono ?_; rintro e w3 ⟨rfl, hs3, hC3⟩))
        have h2 := h1.below hb2
        have h3 := h2.step hs3 htx (fun k hk => hk.imp id (·.1)) hC3
        have h3l := h3.sto.lt
        have hb12 := hb0H.out.trans (hb2.mono hb0H.out.size)
        have hca : Chg (fun _ => False) w3 ((w3.alloc (.cells cells256 5)).alloc (.cells #[.int .i64 ((k : Int) + 1), .slice (some ⟨w3.heap.size, 0, none⟩) 256 256] 70)) := ((Chg.refl _ w3).alloc _).alloc _
        have hx4 := NodeAt.made w3 (k + 1)
        rw [Int.natCast_add] at hx4
        have hx4 : NodeAt ((w3.alloc (.cells cells256 5)).alloc (.cells #[.int .i64 ((k : Int) + 1), .slice (some ⟨w3.heap.size, 0, none⟩) 256 256] 70)) (w3.heap.size + 1) w3.heap.size 256 (k + 1) zero256 := hx4
        have hN4 : NSt w3 ((w3.alloc (.cells cells256 5)).alloc (.cells #[.int .i64 ((k : Int) + 1), .slice (some ⟨w3.heap.size, 0, none⟩) 256 256] 70)) pb p q pn pk (w3.heap.size + 1) w3.heap.size 256 (k + 1) S1 zero256 (ext Fs w2 w3) :=
          ⟨⟨_, h3.chg hca (fun _ _ h => h), fun _ h => .inl h, fun hk => by have := h3l _ hk; omega, fun hk => by have := h3l _ hk; omega⟩, hx4, hca.mono (fun _ _ h => h.elim)⟩
        have hgl2 : g < w2.heap.size := by obtain ⟨g2, _, _, _, hF, hh, _⟩ := hv; have hF : g2 = g := hF; rw [← hF]; exact lt_of_heap hh
        have hgF : ¬ Fs g := fun hk => by have := hFl g hk; have := hb0H.out.size; omega
        have hsz23 := hC3.size
        have hv4 : Dat 5 ((w3.alloc (.cells cells256 5)).alloc (.cells #[.int .i64 ((k : Int) + 1), .slice (some ⟨w3.heap.size, 0, none⟩) 256 256] 70)) (· = g) v code := (hv.chg hC3 (fun j hj hk => hgF (by have hj : j = g := hj; rw [← hj]; exact hk))).chg hca (fun _ _ h => h)
        have hw34 := hca.size
        generalize (w3.alloc (.cells cells256 5)).alloc (.cells #[.int .i64 ((k : Int) + 1), .slice (some ⟨w3.heap.size, 0, none⟩) 256 256] 70) = w4 at hN4 hv4 hw34 ⊢
        obtain ⟨px, hpx⟩ : ∃ px, px = w3.heap.size + 1 := ⟨_, rfl⟩
        obtain ⟨gb, hgb⟩ : ∃ gb, gb = w3.heap.size := ⟨_, rfl⟩
        rw [← hpx, ← hgb] at hN4 ⊢
        have hgg : g ≠ gb := by omega
        have hpxH : Hid _ := Lib.hid hpx
        have hgbH : Hid _ := Lib.hid hgb
        have hC3H : Hid _ := Lib.hid hC3
        have hb12H : Hid _ := Lib.hid hb12
        have hN5 := hN4.set (k := 0) (by omega) (lowByte kind)
        rw [hkc] at hN5
        have cx4 := hN4.node.c1
        obtain ⟨_, _, _, _, _, hcell4⟩ := hN4.node.raw
        have cg4 := (hcell4 0 (by omega)).1
        have fg4 := (hcell4 0 (by omega)).2
        have hkw2 := hkw.out
        have cx5 := hN5.node.c1
        have hv5 := hv4.chg (M := (· = gb)) ((Chg.refl _ w4).own 0 (.int .u8 kind)) (fun j hj e => hgg (by have hj : j = g := hj; have e : j = gb := e; omega))
        clear hcell4 hx4 hca h2 h3 hs3 hC3 hb12 hpx hgb hN4 hv4 hkw2
        go_upto_region 9 with fail
        generalize w4.setCell ⟨gb, 0, none⟩ (.int .u8 kind) = w5 at hN5 cx5 hv5 ⊢
        have cP := nput2 hN5.node (k := 1) (by omega) room
        have hc1 : ¬ (256 : Nat) = 1 := by decide
        go_upto_region 10 with (go_at_call 24; refine cP.mono ?_; rintro e w6 ⟨rfl, hx6, hC6⟩; have hN6 := hN5.turn hx6 hC6; have hv6 := hv5.chg hC6 (fun j hj e => hgg (by have hj : j = g := hj; have e : j = gb := e; omega)); have cx6 := hx6.c1)
        obtain ⟨g7, cap7, cur7, rfl, hg7, hd1, hd2, hd3, hd4, hd5⟩ := id hv6
        have hg7 : g7 = g := hg7
        subst hg7
        obtain ⟨g8, cap8, cur8, e8, hg8, hh1, hh2, hh3, hh4, hh5⟩ := id hx6.dat
        have hg8 : g8 = gb := hg8
        subst hg8
        have hgc : w6.heap[g8]? = some (.cells cur8.toList.toArray 5 (0, 0)) := by simpa using hh1
        have hnewsH : Hid _ := Lib.hid (Dat.news hd1 hd5)
        have hcllH : Hid _ := Lib.hid hcl
        have hl6 := hx6.len
        have hls8 : 256 ≤ cur8.size := by
          injection e8 with _ e82 _
          omega
        have hu8 : (Tryz.prog.info? 5).map (·.size) = some 1 := by kernel_rfl
        have hpxg : px ≠ g8 := hx6.raw.2.2.2.2.1
        clear hv5 hd5 hh5 e8
        go_upto_region 11 with (refine wpList_copy_own rfl _ _ 23 23 rfl 5 Tryz.underlying23 hu8 g8 7 249 249 ⟨g7, 0, none⟩ code.length cap7 rfl rfl cur8 5 hh1 (code.map u8v) (by rw [List.length_map]; exact (Nat.min_eq_left (by omega)).symm) hnewsH.out (by rw [List.length_map]; omega) (oneCells _) ?_)
        have hw7 := setRow_heap w6 g8 cur8 (cur8.toList.take 7 ++ (code.map u8v ++ cur8.toList.drop (7 + (code.map u8v).length))).toArray 5 _ hh1
        have hC7 : Chg (· = g8) w6 (w6.setRow g8 (cur8.toList.take 7 ++ (code.map u8v ++ cur8.toList.drop (7 + (code.map u8v).length))).toArray) := (Chg.refl _ w6).ownRow _
        generalize w6.setRow g8 (cur8.toList.take 7 ++ (code.map u8v ++ cur8.toList.drop (7 + (code.map u8v).length))).toArray = w7 at hw7 hC7 ⊢
        have hx7 := hx6.spliced (i := 7) (c := code) hgc hw7 (hC7.block _ (lt_of_heap hx6.blk) hpxg) (by omega)
        have hN7 := hN6.turn hx7 hC7
        have cb7 := hN7.cx
        have hcx70 := cb7.1
        go_frame
        have hcx7d : w7.drew.cell? ⟨px, 0, none⟩ = some (.int .i64 ((k + 1 : Nat) : Int)) := hcx70
        have hN7H : Hid _ := Lib.hid hN7
        have hx7H : Hid _ := Lib.hid hx7
        clear hN6 hx6 hN7 hx7 hv6 hgc hw7 cb7 hd1 hd2 hd3 hd4 hh1 hh2 hh3 hh4 hC6 cP hN5 cx4 cx5 cx6
        go_region_held (fun W => W.cell? ⟨px, 0, none⟩ = some (.int .i64 ((k + 1 : Nat) : Int))) (first | exact hcx7d | exact hcx8) (first
          | (go_at_call 25; refine (NSt.base (hN7H.out.below (Below.refl _ w7).drew) (fun F' hB h1 h2 => save_any hB (hx7H.out.below (Below.refl _ w7).drew) h1 h2 (by omega) (by omega)) (fun w8 hN8 => ?_)); have hcx8 := hN8.cx.1))
        all_goals
          go_wp2_with fail
          go_ret2
          have hRR := hRH.out
          have e1 := hgbH.out
          have e2 := hb12H.out.size
          rw [hRR]
          obtain ⟨⟨F8, hB8, hF8, _⟩, _, hC8⟩ := hN8
          refine BSt.did ⟨F8, hB8, fun j hj => (hF8 j hj).elim (fun hh => hh.elim .inl (fun hh => .inr (by omega))) (fun hh => .inr (by omega)), ((Chg.of_below hb12H.out).trans hC3H.out (fun _ _ hh => hh)).trans hC8 (fun j hj hh => ?_)⟩ rfl
          rcases hh with (hh | hh) | hh
          · exact hh
          · exact absurd hh.1 (by omega)
          · exact absurd hh (by omega)
end
end Go.Proofs.YtjngphffgdjcfaaGreatDoor
/-
  A store whose power never failed, plain: what it holds, what was committed; the items' bits in it.
-/
namespace Go.Lz
open Go.RowKit Go.Proofs.YtjngphffgdjcfaaGreatDoor

/-- The store lives and is well; g: what was committed; no more than cc times. -/
structure Kp (S : WalS) (n : Nat) (g : Nat → Bytes) (cc : Nat) : Prop where
  ex : ∃ h c d, Rec S n c d h ∧ c ≤ cc ∧ ∀ k, k < n → h c k = g k
  well : Well S.dev

section
variable {S : WalS} {n cc : Nat} {g : Nat → Bytes}

theorem Kp.isDead (K : Kp S n g cc) : S.isDead = false := by
  obtain ⟨h, c, d, r, _⟩ := K.ex
  obtain ⟨g0, hl⟩ := r.live
  exact hl.isDead
theorem Kp.size (K : Kp S n g cc) : S.size = n := by
  obtain ⟨h, c, d, r, _⟩ := K.ex
  exact r.size
theorem Kp.n_le (K : Kp S n g cc) : n ≤ 7892 := by
  obtain ⟨h, c, d, r, _⟩ := K.ex
  obtain ⟨g0, hl⟩ := r.live
  have h1 := hl.dok.n
  have h2 : S.dev.n - 300 = n := r.size
  omega
theorem Kp.get (K : Kp S n g cc) {k : Nat} (hk : k < n) : S.get k = over S.now g k := by
  obtain ⟨h, c, d, r, _, hg⟩ := K.ex
  rw [r.get hk]
  show (S.now k).getD (h c k) = (S.now k).getD (g k)
  rw [hg k hk]
theorem Kp.len (K : Kp S n g cc) (k : Nat) : (S.get k).length = 64 := by
  obtain ⟨h, c, d, r, _⟩ := K.ex
  obtain ⟨g0, hl⟩ := r.live
  exact hl.ok.get_len hl.dok k
theorem Kp.wrong (K : Kp S n g cc) {k : Nat} (hk : k < n) : S.wrong (k : Int) = 0 := WalS.wrong_ok K.isDead (by rw [K.size]; exact hk)
theorem Kp.write (K : Kp S n g cc) {k : Nat} {b : Bytes} (hk : k < n) (hb : b.length = 64) (hm : (S.now k).isSome = true ∨ (keysF S.now n).length < 128) :
    S.write (k : Int) b = (0, { S with now := upd S.now k (some b) }) ∧ Kp { S with now := upd S.now k (some b) } n g cc := by
  obtain ⟨h, c, d, r, hc, hg⟩ := K.ex
  obtain ⟨e1, r1⟩ := r.write hk hb hm
  exact ⟨e1, ⟨h, c, d, r1, hc, hg⟩, K.well⟩
theorem Kp.mono (K : Kp S n g cc) {cc' : Nat} (h : cc ≤ cc') : Kp S n g cc' := by
  obtain ⟨h', c, d, r, hc, hg⟩ := K.ex
  exact ⟨⟨h', c, d, r, by omega, hg⟩, K.well⟩
theorem well_counted {D : DevS} (h : Well D) (j : Nat) : Well (D.countedN j) := h.countedN j
theorem Kp.cnt (K : Kp S n g cc) (j : Nat) : Kp (S.cnt j) n g cc := by
  obtain ⟨h, c, d, r, hc, hg⟩ := K.ex
  exact ⟨⟨h, c, d, r.cnt j, hc, hg⟩, K.well.countedN j⟩
theorem Kp.aborted (K : Kp S n g cc) : Kp S.aborted n g cc := by
  obtain ⟨h, c, d, r, hc, hg⟩ := K.ex
  exact ⟨⟨h, c, d, r.aborted, hc, hg⟩, K.well⟩
theorem Kp.commit (K : Kp S n g cc) (hcc : cc < 1000000) {g' : Nat → Bytes} (hg' : ∀ k, k < n → g' k = S.get k) : S.commit.1 = 0 ∧ Kp S.commit.2 n g' (cc + 1) ∧ S.commit.2.now = (fun _ => none) := by
  obtain ⟨h, c, d, r, hc, hg⟩ := K.ex
  rcases r.commit (by omega) (fun i => if i ≤ c then h i else g') (fun i hi => if_pos hi) (fun k hk => by
    show (if c + 1 ≤ c then h (c + 1) else g') k = _
    rw [if_neg (by omega), hg' k hk, r.get hk]) with ⟨e1, ⟨d', _, r'⟩, n1, w1⟩ | ⟨_, _, _, _, _, _, _, _, hx⟩
  · exact ⟨e1, ⟨⟨_, c + 1, d', r', by omega, fun k hk => by show (if c + 1 ≤ c then h (c + 1) else g') k = _; rw [if_neg (by omega)]⟩, w1 K.well⟩, n1⟩
  · exact absurd K.well hx

theorem Kp.new {n : Nat} (hn : 300 < n) (hn2 : n ≤ 8192) : Kp (newS n) (n - 300) (fun _ => zero64) 0 ∧ (newS n).now = fun _ => none := by
  obtain ⟨_, r, w, n0⟩ := new_rec hn hn2 (fun _ _ => zero64) (fun _ _ => rfl)
  exact ⟨⟨⟨_, 0, 0, r, Nat.le_refl _, fun _ _ => rfl⟩, w⟩, n0⟩

/-- The transaction under way is within these sectors. -/
def NowIn (S : WalS) (a b : Nat) : Prop := ∀ k, (S.now k).isSome = true → a ≤ k ∧ k < b

theorem keysF_in {f : Nat → Option Bytes} {a b : Nat} (h : ∀ k, (f k).isSome = true → a ≤ k ∧ k < b) (n : Nat) : (keysF f n).length ≤ min n b - a := by
  unfold keysF
  induction n with
  | zero => simp
  | succ n ih =>
    rw [List.range_succ, List.filter_append, List.length_append]
    by_cases e : (f n).isSome = true
    · have := h n e
      simp [e]
      omega
    · simp [e]
      omega
theorem NowIn.small {a b : Nat} (h : NowIn S a b) (hb : b - a < 128) (n : Nat) : (keysF S.now n).length < 128 := by
  have := keysF_in h n
  omega

theorem get_upd (S : WalS) (k j : Nat) (b : Bytes) : ({ S with now := upd S.now k (some b) } : WalS).get j = if j = k then b else S.get j := by
  unfold WalS.get
  by_cases e : j = k
  · subst e; simp
  · simp [upd_other _ e, e]

/-- An item's bit is set or cleared. -/
theorem Kp.setBit (K : Kp S n g cc) {a m i : Nat} (hN : NowIn S a (a + m)) (hm : m < 128) (hi : i / 512 < m) (ha : a + m ≤ n) (tb : Bool) :
    ∃ S', S.setBit a i tb = (0, S') ∧ Kp S' n g cc ∧ NowIn S' a (a + m) ∧ (∀ k, S'.bit a k = if k = i then tb else S.bit a k) ∧ ∀ k, k ≠ a + i / 512 → S'.get k = S.get k := by
  have hl := K.len (a + i / 512)
  obtain ⟨e1, K1⟩ := K.write (k := a + i / 512) (b := setB (S.get (a + i / 512)) (i % 512) tb) (by omega) (by rw [setB_length, hl]) (.inr (hN.small (by omega) n))
  refine ⟨_, e1, K1, fun k hk => ?_, fun k => ?_, fun k hk => by rw [get_upd, if_neg hk]⟩
  · by_cases e : k = a + i / 512
    · omega
    · exact hN k (by rw [show ({ S with now := upd S.now (a + i / 512) (some (setB (S.get (a + i / 512)) (i % 512) tb)) } : WalS).now k = S.now k from upd_other _ e] at hk; exact hk)
  · unfold WalS.bit
    rw [get_upd]
    by_cases e : k = i
    · subst e
      rw [if_pos rfl, if_pos rfl, bitB_set_same (by rw [hl]; omega)]
    · rw [if_neg e]
      by_cases e2 : a + k / 512 = a + i / 512
      · rw [if_pos e2, bitB_set_other (by rw [hl]; omega) (by omega), e2]
      · rw [if_neg e2]

/-- A map of n items at sector a of a store of a hundred: is, and what was committed. -/
structure AM (S : WalS) (N a n cc : Nat) (done is : Nat → Bool) : Prop where
  ex : ∃ g, Kp S N g cc ∧ ∀ i, i < 512 * sectorsOf n → bitB (g (a + i / 512)) (i % 512) = done i
  now : NowIn S a (a + sectorsOf n)
  fits : a + sectorsOf n ≤ N
  hn : n ≤ 8192
  bit : ∀ i, i < 512 * sectorsOf n → S.bit a i = is i

section
variable {N a : Nat} {done is : Nat → Bool}
theorem sectorsOf_lt {i n : Nat} (h : i < n) : i < 512 * sectorsOf n := by unfold sectorsOf; omega
theorem sectorsOf_le {n : Nat} (h : n ≤ 8192) : sectorsOf n ≤ 16 := by unfold sectorsOf; omega
theorem AM.isDead (A : AM S N a n cc done is) : S.isDead = false := by
  obtain ⟨g, K, _⟩ := A.ex
  exact K.isDead
theorem AM.size (A : AM S N a n cc done is) : S.size = N := by
  obtain ⟨g, K, _⟩ := A.ex
  exact K.size
theorem AM.at_ (A : AM S N a n cc done is) {i : Nat} (hi : i < n) : a + i / 512 < S.size := by
  have := A.fits
  rw [A.size]
  unfold sectorsOf at this
  omega
theorem AM.fits' (A : AM S N a n cc done is) : a + sectorsOf n ≤ S.size := by rw [A.size]; exact A.fits
theorem AM.cnt (A : AM S N a n cc done is) (j : Nat) : AM (S.cnt j) N a n cc done is := by
  obtain ⟨g, K, hg⟩ := A.ex
  exact ⟨⟨g, K.cnt j, hg⟩, A.now, A.fits, A.hn, fun i hi => by rw [← A.bit i hi]; unfold WalS.bit; rw [WalS.cnt_get]⟩
theorem AM.set (A : AM S N a n cc done is) {i : Nat} (hi : i < n) (tb : Bool) : (S.setBit a i tb).1 = 0 ∧ AM (S.setBit a i tb).2 N a n cc done (upd is i tb) := by
  obtain ⟨g, K, hg⟩ := A.ex
  have hs := sectorsOf_le A.hn
  obtain ⟨S', e, K', N', b', _⟩ := K.setBit A.now (by omega) (i := i) (by unfold sectorsOf; omega) A.fits tb
  rw [e]
  exact ⟨rfl, ⟨g, K', hg⟩, N', A.fits, A.hn, fun k hk => by rw [b' k, A.bit k hk]; rfl⟩
theorem AM.commit (A : AM S N a n cc done is) (hc : cc < 1000000) : S.commit.1 = 0 ∧ AM S.commit.2 N a n (cc + 1) is is := by
  obtain ⟨g, K, hg⟩ := A.ex
  obtain ⟨e, K', n'⟩ := K.commit hc (g' := S.get) (fun _ _ => rfl)
  have hf := A.fits
  refine ⟨e, ⟨_, K', fun i hi => A.bit i hi⟩, fun k hk => (by rw [n'] at hk; cases hk), A.fits, A.hn, fun i hi => ?_⟩
  unfold WalS.bit
  rw [K'.get (by omega), n']
  exact A.bit i hi
theorem AM.aborted (A : AM S N a n cc done is) : AM S.aborted N a n cc done done := by
  obtain ⟨g, K, hg⟩ := A.ex
  have K' := K.aborted
  have hf := A.fits
  refine ⟨⟨_, K', hg⟩, fun k hk => (by cases hk), A.fits, A.hn, fun i hi => ?_⟩
  unfold WalS.bit
  rw [K'.get (by omega)]
  exact hg i hi
theorem AM.new {M : Nat} (hM : 300 < M) (hM2 : M ≤ 8192) (ha : a + sectorsOf n ≤ M - 300) (hn : n ≤ 8192) : AM (newS M) (M - 300) a n 0 (fun _ => false) (fun _ => false) := by
  obtain ⟨K, n0⟩ := Kp.new hM hM2
  have hz : ∀ j, j < 512 → bitB zero64 j = false := by decide +kernel
  refine ⟨⟨_, K, fun i hi => hz _ (by omega)⟩, fun k hk => (by rw [n0] at hk; cases hk), ha, hn, fun i hi => ?_⟩
  unfold WalS.bit
  rw [K.get (by omega), n0]
  exact hz _ (by omega)
/-- How many are taken. -/
def cntI (is : Nat → Bool) (m : Nat) : Nat := ((List.range m).filter is).length
theorem cntI_succ (is : Nat → Bool) (m : Nat) : cntI is (m + 1) = cntI is m + (if is m then 1 else 0) := by
  unfold cntI
  rw [List.range_succ, List.filter_append, List.length_append]
  congr 1
  by_cases h : is m = true <;> simp [h]
theorem cntI_le (is : Nat → Bool) (m : Nat) : cntI is m ≤ m := by
  have := List.length_filter_le is (List.range m)
  rwa [List.length_range] at this
theorem cntI_congr {is is' : Nat → Bool} {m : Nat} (h : ∀ i, i < m → is i = is' i) : cntI is m = cntI is' m := by
  induction m with
  | zero => rfl
  | succ m ih => rw [cntI_succ, cntI_succ, ih (fun i hi => h i (by omega)), h m (by omega)]
theorem cntI_upd (is : Nat → Bool) {m i : Nat} (hi : i < m) (h : is i = true) : cntI (upd is i false) m + 1 = cntI is m := by
  induction m with
  | zero => omega
  | succ m ih =>
    rw [cntI_succ, cntI_succ]
    by_cases e : m = i
    · subst e
      rw [cntI_congr (is' := is) (fun j hj => upd_other _ (by omega)), upd_same, h]
      simp
    · rw [upd_other _ (show m ≠ i from e)]
      have := ih (by omega)
      omega
theorem cntI_all {is : Nat → Bool} {m : Nat} (h : ∀ i, i < m → is i = true) : cntI is m = m := by
  induction m with
  | zero => rfl
  | succ m ih => rw [cntI_succ, ih (fun i hi => h i (by omega)), h m (by omega)]; rfl
theorem AM.count (A : AM S N a n cc done is) : S.countB a n = cntI is n := cntI_congr (fun i hi => A.bit i (sectorsOf_lt hi))
end
end
end Go.Lz
/-
  A base, plain: what a transaction may still write; bits.
-/
namespace Go.Lz
open Go.RowKit Go.Proofs.YtjngphffgdjcfaaGreatDoor

/-- How many sectors from 16 on a transaction has. -/
def heavyF (f : Nat → Option Bytes) (n : Nat) : Nat := ((List.range n).filter fun k => (f k).isSome && decide (16 ≤ k)).length
theorem heavyF_succ (f : Nat → Option Bytes) (n : Nat) : heavyF f (n + 1) = heavyF f n + if (f n).isSome && decide (16 ≤ n) then 1 else 0 := by
  unfold heavyF
  rw [List.range_succ, List.filter_append, List.length_append]
  congr 1
  by_cases h : ((f n).isSome && decide (16 ≤ n)) = true
  · rw [List.filter_cons_of_pos (by exact h), if_pos h]; rfl
  · rw [List.filter_cons_of_neg (by exact h), if_neg h]; rfl
theorem keysF_heavy (f : Nat → Option Bytes) (n : Nat) : (keysF f n).length ≤ heavyF f n + min n 16 := by
  induction n with
  | zero => simp [keysF]
  | succ n ih =>
    rw [heavyF_succ]
    have e : (keysF f (n + 1)).length = (keysF f n).length + if (f n).isSome then 1 else 0 := by
      unfold keysF
      rw [List.range_succ, List.filter_append, List.length_append]
      congr 1
      by_cases h : (f n).isSome = true <;> simp [h]
    rw [e]
    cases (f n).isSome with
    | false => simp; omega
    | true =>
      by_cases h : 16 ≤ n
      · simp [h]; omega
      · simp [h]; omega
theorem heavyF_congr {f f' : Nat → Option Bytes} {n : Nat} (h : ∀ k, k < n → 16 ≤ k → (f k).isSome = (f' k).isSome) : heavyF f n = heavyF f' n := by
  induction n with
  | zero => rfl
  | succ n ih =>
    rw [heavyF_succ, heavyF_succ, ih (fun k hk h16 => h k (by omega) h16)]
    by_cases e : 16 ≤ n
    · rw [h n (by omega) e]
    · simp [e]
theorem heavyF_upd0 (f : Nat → Option Bytes) (n : Nat) {k : Nat} (b : Bytes) (h : k < 16 ∨ (f k).isSome = true) : heavyF (upd f k (some b)) n = heavyF f n :=
  heavyF_congr fun j _ h16 => by
    by_cases e : j = k
    · subst e
      rw [upd_same]
      rcases h with h | h
      · omega
      · rw [h]; rfl
    · rw [upd_other _ e]
theorem heavyF_upd1 (f : Nat → Option Bytes) (n k : Nat) (b : Bytes) : heavyF (upd f k (some b)) n ≤ heavyF f n + 1 := by
  induction n with
  | zero => simp [heavyF]
  | succ n ih =>
    rw [heavyF_succ, heavyF_succ]
    by_cases e : n = k
    · subst e
      have : heavyF (upd f n (some b)) n = heavyF f n := heavyF_congr fun j hj _ => by rw [upd_other _ (by omega)]
      rw [this]
      split <;> split <;> omega
    · rw [upd_other _ e]
      split <;> omega
theorem heavyF_none (n : Nat) : heavyF (fun _ => none) n = 0 := by
  induction n with
  | zero => rfl
  | succ n ih => rw [heavyF_succ, ih]; rfl

/-- Sector j is in the transaction. -/
def Has (S : WalS) (j : Nat) : Prop := (S.now j).isSome = true
/-- The store lives; at most m sectors from 16 on are under way. -/
structure Kb (S : WalS) (N : Nat) (g : Nat → Bytes) (cc m : Nat) : Prop where
  kp : Kp S N g cc
  few : heavyF S.now N ≤ m
/-- A sector was written. -/
structure Wrote (S S' : WalS) (N : Nat) (g : Nat → Bytes) (cc m k : Nat) (b : Bytes) : Prop where
  kb : Kb S' N g cc m
  get : ∀ j, S'.get j = if j = k then b else S.get j
  has : ∀ j, Has S j → Has S' j
  hk : Has S' k
section
variable {S : WalS} {N cc m : Nat} {g : Nat → Bytes}
theorem Kb.mono (K : Kb S N g cc m) {m' : Nat} (h : m ≤ m') : Kb S N g cc m' := ⟨K.kp, Nat.le_trans K.few h⟩
theorem Kb.len (K : Kb S N g cc m) (k : Nat) : (S.get k).length = 64 := K.kp.len k
theorem Kb.size (K : Kb S N g cc m) : S.size = N := K.kp.size
theorem Kb.keys (K : Kb S N g cc m) (hm : m ≤ 111) : (keysF S.now N).length < 128 := by
  have h1 := keysF_heavy S.now N
  have h2 := K.few
  omega
theorem Kb.write0 (K : Kb S N g cc m) (hm : m ≤ 111) {k : Nat} {b : Bytes} (hk : k < N) (hb : b.length = 64) (h : k < 16 ∨ Has S k) : ∃ S', S.write (k : Int) b = (0, S') ∧ Wrote S S' N g cc m k b := by
  obtain ⟨e, K'⟩ := K.kp.write hk hb (.inr (K.keys hm))
  refine ⟨_, e, ⟨K', ?_⟩, fun j => get_upd S k j b, fun j hj => ?_, ?_⟩
  · show heavyF (upd S.now k (some b)) N ≤ m
    rw [heavyF_upd0 _ _ _ h]
    exact K.few
  · show (upd S.now k (some b) j).isSome = true
    by_cases e : j = k
    · subst e; simp
    · rw [upd_other _ e]; exact hj
  · show (upd S.now k (some b) k).isSome = true
    simp
theorem Kb.write1 (K : Kb S N g cc m) (hm : m ≤ 111) {k : Nat} {b : Bytes} (hk : k < N) (hb : b.length = 64) : ∃ S', S.write (k : Int) b = (0, S') ∧ Wrote S S' N g cc (m + 1) k b := by
  obtain ⟨e, K'⟩ := K.kp.write hk hb (.inr (K.keys hm))
  refine ⟨_, e, ⟨K', ?_⟩, fun j => get_upd S k j b, fun j hj => ?_, ?_⟩
  · show heavyF (upd S.now k (some b)) N ≤ m + 1
    have := heavyF_upd1 S.now N k b
    have := K.few
    omega
  · show (upd S.now k (some b) j).isSome = true
    by_cases e : j = k
    · subst e; simp
    · rw [upd_other _ e]; exact hj
  · show (upd S.now k (some b) k).isSome = true
    simp
/-- A bit was set or cleared. -/
structure BitSet (S S' : WalS) (N : Nat) (g : Nat → Bytes) (cc m a i : Nat) (tb : Bool) : Prop where
  kb : Kb S' N g cc m
  get : ∀ j, j ≠ a + i / 512 → S'.get j = S.get j
  has : ∀ j, Has S j → Has S' j
  bit : ∀ k, S'.bit a k = if k = i then tb else S.bit a k
theorem Kb.setBit (K : Kb S N g cc m) (hm : m ≤ 111) {a i : Nat} (h : a + i / 512 < 16) (hN : 16 ≤ N) (tb : Bool) : ∃ S', S.setBit a i tb = (0, S') ∧ BitSet S S' N g cc m a i tb := by
  have hl := K.len (a + i / 512)
  obtain ⟨S', e1, w⟩ := K.write0 hm (k := a + i / 512) (b := setB (S.get (a + i / 512)) (i % 512) tb) (by omega) (by rw [setB_length, hl]) (.inl h)
  refine ⟨S', e1, w.kb, fun j hj => by rw [w.get, if_neg hj], w.has, fun k => ?_⟩
  unfold WalS.bit
  rw [w.get]
  by_cases e : k = i
  · subst e
    rw [if_pos rfl, if_pos rfl, bitB_set_same (by rw [hl]; omega)]
  · rw [if_neg e]
    by_cases e2 : a + k / 512 = a + i / 512
    · rw [if_pos e2, bitB_set_other (by rw [hl]; omega) (by omega), e2]
    · rw [if_neg e2]
theorem Kb.takeI (K : Kb S N g cc m) (hm : m ≤ 111) {a n i : Nat} (h : a + i / 512 < 16) (hN : 16 ≤ N) (hi : i < n) (h0 : S.bit a i = false) (h1 : ∀ k, k < i → S.bit a k = true) : ∃ S', S.takeI a n = (0, i, S') ∧ BitSet S S' N g cc m a i true := by
  obtain ⟨S', e, b⟩ := K.setBit hm h hN true
  refine ⟨S', ?_, b⟩
  rw [WalS.takeI_some hi h0 h1, e, if_pos rfl]
theorem Kb.giveI (K : Kb S N g cc m) (hm : m ≤ 111) {a n i : Nat} (h : a + i / 512 < 16) (hN : 16 ≤ N) (hi : i < n) (h0 : S.bit a i = true) : ∃ S', S.giveI a n (i : Int) = (0, S') ∧ BitSet S S' N g cc m a i false := by
  obtain ⟨S', e, b⟩ := K.setBit hm h hN false
  refine ⟨S', ?_, b⟩
  unfold WalS.giveI
  rw [if_neg (by omega), if_neg (by rw [Int.toNat_natCast, h0]; decide), Int.toNat_natCast, e]
/-- The least that is free. -/
theorem least_free (f : Nat → Bool) (n : Nat) : (∀ i, i < n → f i = true) ∨ ∃ i, i < n ∧ f i = false ∧ ∀ k, k < i → f k = true := by
  induction n with
  | zero => exact .inl (fun i hi => by omega)
  | succ n ih =>
    rcases ih with h | ⟨i, h1, h2, h3⟩
    · cases e : f n with
      | true =>
        refine .inl fun i hi => ?_
        by_cases e2 : i = n
        · rw [e2]; exact e
        · exact h i (by omega)
      | false => exact .inr ⟨n, by omega, e, h⟩
    · exact .inr ⟨i, by omega, h2, h3⟩
/-- Bits of nodes and of blocks lie apart. -/
theorem bit_apart {S S' : WalS} {a b i : Nat} (h : ∀ j, j ≠ a + i / 512 → S'.get j = S.get j) {k : Nat} (hk : b + k / 512 ≠ a + i / 512) : S'.bit b k = S.bit b k := by
  unfold WalS.bit
  rw [h _ hk]
theorem Kb.commit (K : Kb S N g cc m) (hcc : cc < 1000000) : S.commit.1 = 0 ∧ Kb S.commit.2 N S.get (cc + 1) 0 ∧ ∀ k, k < N → S.commit.2.get k = S.get k := by
  obtain ⟨e, K', n'⟩ := K.kp.commit hcc (g' := S.get) (fun _ _ => rfl)
  refine ⟨e, ⟨K', ?_⟩, fun k hk => ?_⟩
  · rw [n', heavyF_none]; exact Nat.le_refl _
  · rw [K'.get hk, n']; rfl
theorem Kb.aborted (K : Kb S N g cc m) : Kb S.aborted N g cc 0 ∧ ∀ k, k < N → S.aborted.get k = g k := by
  have K' := K.kp.aborted
  refine ⟨⟨K', ?_⟩, fun k hk => ?_⟩
  · show heavyF (fun _ => none) N ≤ 0
    rw [heavyF_none]; exact Nat.le_refl _
  · rw [K'.get hk]; rfl
end
end Go.Lz
/-
  A base, plain: how nodes' blocks lie.
-/
namespace Go.Lz
open Go.RowKit Go.Proofs.YtjngphffgdjcfaaGreatDoor

/-- The j-th number of a node. -/
def ent (b : Bytes) (j : Nat) : Nat := twoN b (140 + 2 * j)
/-- A node's i-th block. -/
def blkG (f : Nat → Bytes) (b : Bytes) (i : Nat) : Nat := if i < 32 then ent b i else twoN (f (299 + ent b (32 + (i - 32) / 32))) (2 * ((i - 32) % 32))
theorem blkG_congr {f f' : Nat → Bytes} {b b' : Bytes} {i : Nat} (h1 : i < 32 → ent b' i = ent b i) (h2 : 32 ≤ i → ent b' (32 + (i - 32) / 32) = ent b (32 + (i - 32) / 32) ∧ twoN (f' (299 + ent b (32 + (i - 32) / 32))) (2 * ((i - 32) % 32)) = twoN (f (299 + ent b (32 + (i - 32) / 32))) (2 * ((i - 32) % 32))) : blkG f' b' i = blkG f b i := by
  unfold blkG
  by_cases h : i < 32
  · rw [if_pos h, if_pos h, h1 h]
  · rw [if_neg h, if_neg h, (h2 (by omega)).1, (h2 (by omega)).2]
theorem placeL_ent (i : Nat) : placeL i = if i < 32 then 0 else 140 + 2 * (32 + (i - 32) / 32) := by
  unfold placeL
  split <;> omega
/-- The i-th block, told by the store. -/
theorem block_eq {S : WalS} {b : Bytes} {i : Nat} (h : 32 ≤ i → 1 ≤ ent b (32 + (i - 32) / 32) ∧ 299 + ent b (32 + (i - 32) / 32) < S.size) : S.block b i = (0, blkG S.get b i) := by
  unfold WalS.block blkG
  by_cases h1 : i < 32
  · have e1 : placeL i = 0 := by unfold placeL; rw [if_pos h1]
    have e2 : placeA i = 140 + 2 * i := by unfold placeA; rw [if_pos h1]
    rw [if_pos e1, if_pos h1, e2]
    rfl
  · have e1 : placeL i = 140 + 2 * (32 + (i - 32) / 32) := by rw [placeL_ent, if_neg h1]
    have e2 : placeA i = 2 * ((i - 32) % 32) := by unfold placeA; rw [if_neg h1]
    have hh := h (by omega)
    rw [if_neg (by omega), if_neg h1, e1, e2]
    unfold WalS.listed
    rw [if_neg (by have := hh.1; unfold ent at this; omega), if_neg (by have := hh.2; unfold ent at this; omega)]
    rfl

abbrev Owner := Nat → Option (Nat × Nat)
/-- Each block has its place; c: how many blocks a node has, ln: how many lists; o: whose a block is. -/
structure Lay (f : Nat → Bytes) (all : Nat) (nb : Nat → Bytes) (c ln : Nat → Nat) (o : Owner) : Prop where
  blk : ∀ n i, i < c n → (32 ≤ i → (i - 32) / 32 < ln n) ∧ (1 ≤ blkG f (nb n) i ∧ blkG f (nb n) i ≤ all) ∧ o (blkG f (nb n) i) = some (n, i)
  lst : ∀ n j, j < ln n → (1 ≤ ent (nb n) (32 + j) ∧ ent (nb n) (32 + j) ≤ all) ∧ o (ent (nb n) (32 + j)) = some (n, 1000 + j)
  cle : ∀ n, c n ≤ 864
  lle : ∀ n, ln n ≤ 26
  rev : ∀ k n x, o k = some (n, x) → (x < c n ∧ blkG f (nb n) x = k) ∨ ∃ j, j < ln n ∧ x = 1000 + j ∧ ent (nb n) (32 + j) = k
section
variable {f f' : Nat → Bytes} {all : Nat} {nb nb' : Nat → Bytes} {c ln : Nat → Nat} {o : Owner}
theorem Lay.congr (h : Lay f all nb c ln o) (hb : ∀ n i, i < c n → blkG f' (nb' n) i = blkG f (nb n) i) (hl : ∀ n j, j < ln n → ent (nb' n) (32 + j) = ent (nb n) (32 + j)) : Lay f' all nb' c ln o where
  blk n i hi := by rw [hb n i hi]; exact h.blk n i hi
  lst n j hj := by rw [hl n j hj]; exact h.lst n j hj
  cle := h.cle
  lle := h.lle
  rev k n x e := by
    rcases h.rev k n x e with ⟨h1, h2⟩ | ⟨j, h1, h2, h3⟩
    · exact .inl ⟨h1, by rw [hb n x h1]; exact h2⟩
    · exact .inr ⟨j, h1, h2, by rw [hl n j h1]; exact h3⟩
/-- One block more, that stands already where it is to stand. -/
theorem Lay.addB (h : Lay f all nb c ln o) {n i : Nat} (hi : c n = i) (hi8 : i < 864) (hp : 32 ≤ i → (i - 32) / 32 < ln n) (hk : 1 ≤ blkG f (nb n) i ∧ blkG f (nb n) i ≤ all) (ho : o (blkG f (nb n) i) = none) : Lay f all nb (upd c n (i + 1)) ln (upd o (blkG f (nb n) i) (some (n, i))) where
  blk n' i' hi' := by
    by_cases e : n' = n ∧ i' = i
    · obtain ⟨rfl, rfl⟩ := e
      exact ⟨hp, hk, upd_same _ _ _⟩
    · have hi2 : i' < c n' := by
        by_cases e1 : n' = n
        · subst e1
          rw [upd_same] at hi'
          have : i' ≠ i := fun e2 => e ⟨rfl, e2⟩
          omega
        · rwa [upd_other _ e1] at hi'
      obtain ⟨h1, h2, h3⟩ := h.blk n' i' hi2
      refine ⟨h1, h2, ?_⟩
      rw [upd_other _ (fun e1 => by rw [e1, ho] at h3; cases h3)]
      exact h3
  lst n' j hj := by
    obtain ⟨h1, h2⟩ := h.lst n' j hj
    refine ⟨h1, ?_⟩
    rw [upd_other _ (fun e1 => by rw [e1, ho] at h2; cases h2)]
    exact h2
  cle n' := by
    by_cases e : n' = n
    · subst e; rw [upd_same]; omega
    · rw [upd_other _ e]; exact h.cle n'
  lle := h.lle
  rev k n' x e := by
    by_cases e1 : k = blkG f (nb n) i
    · subst e1
      rw [upd_same] at e
      injection e with e
      injection e with e2 e3
      subst e2 e3
      exact .inl ⟨by rw [upd_same]; omega, rfl⟩
    · rw [upd_other _ e1] at e
      rcases h.rev k n' x e with ⟨h1, h2⟩ | h1
      · refine .inl ⟨?_, h2⟩
        by_cases e2 : n' = n
        · subst e2; rw [upd_same]; omega
        · rwa [upd_other _ e2]
      · exact .inr h1
/-- One list more, that stands already where it is to stand. -/
theorem Lay.addL (h : Lay f all nb c ln o) {n j : Nat} (hj : ln n = j) (hj8 : j < 26) (hk : 1 ≤ ent (nb n) (32 + j) ∧ ent (nb n) (32 + j) ≤ all) (ho : o (ent (nb n) (32 + j)) = none) : Lay f all nb c (upd ln n (j + 1)) (upd o (ent (nb n) (32 + j)) (some (n, 1000 + j))) where
  blk n' i' hi' := by
    obtain ⟨h1, h2, h3⟩ := h.blk n' i' hi'
    refine ⟨fun h4 => ?_, h2, ?_⟩
    · have := h1 h4
      by_cases e : n' = n
      · subst e; rw [upd_same]; omega
      · rw [upd_other _ e]; exact this
    · rw [upd_other _ (fun e1 => by rw [e1, ho] at h3; cases h3)]
      exact h3
  lst n' j' hj' := by
    by_cases e : n' = n ∧ j' = j
    · obtain ⟨rfl, rfl⟩ := e
      exact ⟨hk, upd_same _ _ _⟩
    · have hi2 : j' < ln n' := by
        by_cases e1 : n' = n
        · subst e1
          rw [upd_same] at hj'
          have : j' ≠ j := fun e2 => e ⟨rfl, e2⟩
          omega
        · rwa [upd_other _ e1] at hj'
      obtain ⟨h1, h2⟩ := h.lst n' j' hi2
      refine ⟨h1, ?_⟩
      rw [upd_other _ (fun e1 => by rw [e1, ho] at h2; cases h2)]
      exact h2
  cle := h.cle
  lle n' := by
    by_cases e : n' = n
    · subst e; rw [upd_same]; omega
    · rw [upd_other _ e]; exact h.lle n'
  rev k n' x e := by
    by_cases e1 : k = ent (nb n) (32 + j)
    · subst e1
      rw [upd_same] at e
      injection e with e
      injection e with e2 e3
      subst e2 e3
      exact .inr ⟨j, by rw [upd_same]; omega, rfl, rfl⟩
    · rw [upd_other _ e1] at e
      rcases h.rev k n' x e with h1 | ⟨j', h1, h2, h3⟩
      · exact .inl h1
      · refine .inr ⟨j', ?_, h2, h3⟩
        by_cases e2 : n' = n
        · subst e2; rw [upd_same]; omega
        · rwa [upd_other _ e2]
/-- The last block is taken away. -/
theorem Lay.delB (h : Lay f all nb c ln o) {n i : Nat} (hi : c n = i + 1) : Lay f all nb (upd c n i) ln (upd o (blkG f (nb n) i) none) := by
  obtain ⟨_, _, hoi⟩ := h.blk n i (by omega)
  have hlt : ∀ n' i', i' < upd c n i n' → i' < c n' ∧ ¬ (n' = n ∧ i' = i) := fun n' i' hi' => by
    by_cases e1 : n' = n
    · subst e1
      rw [upd_same] at hi'
      exact ⟨by omega, fun e => by omega⟩
    · rw [upd_other _ e1] at hi'
      exact ⟨hi', fun e => e1 e.1⟩
  refine ⟨fun n' i' hi' => ?_, fun n' j hj => ?_, fun n' => ?_, h.lle, fun k n' x e => ?_⟩
  · obtain ⟨h0, hne⟩ := hlt n' i' hi'
    obtain ⟨h1, h2, h3⟩ := h.blk n' i' h0
    refine ⟨h1, h2, ?_⟩
    rw [upd_other _ (fun e1 => by
      rw [e1, hoi] at h3
      injection h3 with h3
      injection h3 with e2 e3
      exact hne ⟨e2.symm, e3.symm⟩)]
    exact h3
  · obtain ⟨h1, h2⟩ := h.lst n' j hj
    refine ⟨h1, ?_⟩
    rw [upd_other _ (fun e1 => by
      rw [e1, hoi] at h2
      injection h2 with h2
      injection h2 with e2 e3
      have := h.cle n
      omega)]
    exact h2
  · by_cases e : n' = n
    · subst e
      have := h.cle n'
      rw [upd_same]; omega
    · rw [upd_other _ e]; exact h.cle n'
  · by_cases e1 : k = blkG f (nb n) i
    · subst e1; rw [upd_same] at e; cases e
    · rw [upd_other _ e1] at e
      rcases h.rev k n' x e with ⟨h1, h2⟩ | h1
      · refine .inl ⟨?_, h2⟩
        by_cases e2 : n' = n
        · subst e2
          rw [upd_same]
          have : x ≠ i := fun e3 => by subst e3; exact e1 h2.symm
          omega
        · rwa [upd_other _ e2]
      · exact .inr h1
/-- The last list is taken away. -/
theorem Lay.delL (h : Lay f all nb c ln o) {n j : Nat} (hj : ln n = j + 1) (hc : ∀ i, 32 ≤ i → i < c n → (i - 32) / 32 < j) : Lay f all nb c (upd ln n j) (upd o (ent (nb n) (32 + j)) none) := by
  obtain ⟨_, hoi⟩ := h.lst n j (by omega)
  have hlt : ∀ n' i', i' < upd ln n j n' → i' < ln n' ∧ ¬ (n' = n ∧ i' = j) := fun n' i' hi' => by
    by_cases e1 : n' = n
    · subst e1
      rw [upd_same] at hi'
      exact ⟨by omega, fun e => by omega⟩
    · rw [upd_other _ e1] at hi'
      exact ⟨hi', fun e => e1 e.1⟩
  refine ⟨fun n' i' hi' => ?_, fun n' j' hj' => ?_, h.cle, fun n' => ?_, fun k n' x e => ?_⟩
  · obtain ⟨h1, h2, h3⟩ := h.blk n' i' hi'
    refine ⟨fun h4 => ?_, h2, ?_⟩
    · by_cases e : n' = n
      · subst e; rw [upd_same]; exact hc i' h4 hi'
      · rw [upd_other _ e]; exact h1 h4
    · rw [upd_other _ (fun e1 => by
        rw [e1, hoi] at h3
        injection h3 with h3
        injection h3 with e2 e3
        have := h.cle n'
        omega)]
      exact h3
  · obtain ⟨h0, hne⟩ := hlt n' j' hj'
    obtain ⟨h1, h2⟩ := h.lst n' j' h0
    refine ⟨h1, ?_⟩
    rw [upd_other _ (fun e1 => by
      rw [e1, hoi] at h2
      injection h2 with h2
      injection h2 with e2 e3
      exact hne ⟨e2.symm, by omega⟩)]
    exact h2
  · by_cases e : n' = n
    · subst e
      have := h.lle n'
      rw [upd_same]; omega
    · rw [upd_other _ e]; exact h.lle n'
  · by_cases e1 : k = ent (nb n) (32 + j)
    · subst e1; rw [upd_same] at e; cases e
    · rw [upd_other _ e1] at e
      rcases h.rev k n' x e with h1 | ⟨j', h1, h2, h3⟩
      · exact .inl h1
      · refine .inr ⟨j', ?_, h2, h3⟩
        by_cases e2 : n' = n
        · subst e2
          rw [upd_same]
          have : j' ≠ j := fun e3 => by subst e3; exact e1 h3.symm
          omega
        · rwa [upd_other _ e2]
/-- Two places have two blocks. -/
theorem Lay.inj (h : Lay f all nb c ln o) {n i n' i' : Nat} (hi : i < c n) (hi' : i' < c n') (he : blkG f (nb n) i = blkG f (nb n') i') : n = n' ∧ i = i' := by
  have h1 := (h.blk n i hi).2.2
  have h2 := (h.blk n' i' hi').2.2
  rw [he, h2] at h1
  injection h1 with h1
  injection h1 with e1 e2
  exact ⟨e1.symm, e2.symm⟩
theorem Lay.list_ne (h : Lay f all nb c ln o) {n i n' j : Nat} (hi : i < c n) (hj : j < ln n') : blkG f (nb n) i ≠ ent (nb n') (32 + j) := fun he => by
  have h1 := (h.blk n i hi).2.2
  have h2 := (h.lst n' j hj).2
  rw [he, h2] at h1
  injection h1 with h1
  injection h1 with e1 e2
  have := h.cle n
  omega
theorem Lay.list_inj (h : Lay f all nb c ln o) {n j n' j' : Nat} (hj : j < ln n) (hj' : j' < ln n') (he : ent (nb n) (32 + j) = ent (nb n') (32 + j')) : n = n' ∧ j = j' := by
  have h1 := (h.lst n j hj).2
  have h2 := (h.lst n' j' hj').2
  rw [he, h2] at h1
  injection h1 with h1
  injection h1 with e1 e2
  exact ⟨e1.symm, by omega⟩
/-- Sectors that are no lists may change. -/
theorem Lay.frame (h : Lay f all nb c ln o) (hf : ∀ n j, j < ln n → f' (299 + ent (nb n) (32 + j)) = f (299 + ent (nb n) (32 + j))) {n i : Nat} (hi : i < c n) : blkG f' (nb n) i = blkG f (nb n) i :=
  blkG_congr (fun _ => rfl) (fun h32 => ⟨rfl, by rw [hf n _ ((h.blk n i hi).1 h32)]⟩)
theorem Lay.congrF (h : Lay f all nb c ln o) (hf : ∀ n j, j < ln n → f' (299 + ent (nb n) (32 + j)) = f (299 + ent (nb n) (32 + j))) : Lay f' all nb c ln o :=
  h.congr (fun _ _ hi => h.frame hf hi) (fun _ _ _ => rfl)
end
end Go.Lz
/-
  A base, plain: a block is taken; a node's next block is linked.
-/
namespace Go.Lz
open Go.RowKit Go.Proofs.YtjngphffgdjcfaaGreatDoor

theorem ent_put {b : Bytes} (hb : b.length = 256) {j x : Nat} (hj : j < 58) {k : Nat} (hk : k < 65536) : ent (put2B b (140 + 2 * j) k) x = if x = j then k else ent b x := by
  unfold ent
  by_cases e : x = j
  · subst e
    rw [if_pos rfl, twoN_put2 _ (by omega) hk]
  · rw [if_neg e, twoN_put2_other _ _ (by omega)]
theorem two_put {q : Bytes} (hq : q.length = 64) {a x : Nat} (ha : a < 32) {k : Nat} (hk : k < 65536) : twoN (put2B q (2 * a) k) (2 * x) = if x = a then k else twoN q (2 * x) := by
  by_cases e : x = a
  · subst e
    rw [if_pos rfl, twoN_put2 _ (by omega) hk]
  · rw [if_neg e, twoN_put2_other _ _ (by omega)]
theorem put2_getD (b : Bytes) {i x : Nat} (n : Int) (h : x ≠ i ∧ x ≠ i + 1) : (put2B b i n).getD x 0 = b.getD x 0 := by
  unfold put2B
  rw [getD_set_other _ (by omega), getD_set_other _ (by omega)]
/-- How many lists so many blocks need. -/
def nlN (c : Nat) : Nat := ((c - 32) + 31) / 32
theorem nlN_succ (i : Nat) : nlN (i + 1) = if 32 ≤ i ∧ (i - 32) % 32 = 0 then nlN i + 1 else nlN i := by
  unfold nlN
  split <;> omega
theorem nlN_le {c : Nat} (h : c ≤ 864) : nlN c ≤ 26 := by unfold nlN; omega
theorem nlN_old {i : Nat} (h2 : (i - 32) % 32 ≠ 0) : (i - 32) / 32 < nlN i := by unfold nlN; omega
theorem nlN_new {i : Nat} (h2 : (i - 32) % 32 = 0) : nlN i = (i - 32) / 32 := by unfold nlN; omega
theorem nlN_at {i c : Nat} (h : 32 ≤ i) (h2 : i < c) : (i - 32) / 32 < nlN c := by unfold nlN; omega

section
variable {S : WalS} {N cc m : Nat} {g : Nat → Bytes} {o : Owner}
/-- The bits are those of the blocks that somebody has. -/
def Bits (S : WalS) (all : Nat) (o : Owner) : Prop := ∀ k, 1 ≤ k → k ≤ all → S.bit 1 (k - 1) = (o k).isSome
/-- Block k was taken. -/
structure Took (S S' : WalS) (N : Nat) (g : Nat → Bytes) (cc m k : Nat) (o : Owner) : Prop where
  lo : 1 ≤ k ∧ k ≤ N - 300
  no : o k = none
  kb : Kb S' N g cc m
  zero : S'.get (299 + k) = zero64
  get : ∀ j, j = 0 ∨ 16 ≤ j → j ≠ 299 + k → S'.get j = S.get j
  bits : ∀ x, Bits S' (N - 300) (upd o k (some x))
  has : ∀ j, Has S j → Has S' j
  hk : Has S' (299 + k)
  free : S'.freeB + 1 = S.freeB
theorem freeB_eq (K : Kb S N g cc m) : S.freeB = (N - 300) - cntI (S.bit 1) (N - 300) := by
  unfold WalS.freeB WalS.allB
  rw [K.size]
  rfl
theorem take_step (K : Kb S N g cc m) (hm : m + 1 ≤ 111) (hN : 400 ≤ N) (hB : Bits S (N - 300) o) (hf : 1 ≤ S.freeB) : ∃ k S', S.take = (0, k, S') ∧ Took S S' N g cc (m + 1) k o := by
  have hN2 := K.kp.n_le
  have hfr := freeB_eq K
  rcases least_free (S.bit 1) (N - 300) with h | ⟨i, hi, h0, h1⟩
  · rw [cntI_all h] at hfr
    omega
  · have ha : S.allB = N - 300 := by unfold WalS.allB; rw [K.size]
    obtain ⟨S1, e1, b1⟩ := K.takeI (by omega) (a := 1) (n := N - 300) (i := i) (by omega) (by omega) hi h0 h1
    obtain ⟨S2, e2, w2⟩ := b1.kb.write1 (by omega) (k := 300 + i) (b := zero64) (by omega) rfl
    have hbit : ∀ k, k < 7700 → S2.bit 1 k = if k = i then true else S.bit 1 k := fun k hk => by
      rw [← b1.bit k]
      unfold WalS.bit
      rw [w2.get, if_neg (by omega)]
    have h2 : S2.freeB + 1 = S.freeB := by
      rw [freeB_eq w2.kb, hfr]
      have e : cntI (upd (S2.bit 1) i false) (N - 300) + 1 = cntI (S2.bit 1) (N - 300) := cntI_upd _ hi (by rw [hbit i (by omega), if_pos rfl])
      have e3 : cntI (upd (S2.bit 1) i false) (N - 300) = cntI (S.bit 1) (N - 300) := cntI_congr fun j hj => by
        by_cases ej : j = i
        · subst ej; rw [upd_same, h0]
        · rw [upd_other _ ej, hbit j (by omega), if_neg ej]
      have := cntI_le (S2.bit 1) (N - 300)
      omega
    refine ⟨i + 1, S2, ?_, ⟨by omega, by omega⟩, ?_, w2.kb, ?_, fun j hj hne => ?_, fun x k h1 h2 => ?_, fun j hj => w2.has _ (b1.has _ hj), ?_, h2⟩
    · unfold WalS.take WalS.takeW
      rw [ha, e1, if_pos rfl]
      show ((S1.write _ _).1, i + 1, (S1.write _ _).2) = _
      rw [e2]
    · have := hB (i + 1) (by omega) (by omega)
      rw [Nat.add_sub_cancel, h0] at this
      cases ho : o (i + 1) with
      | none => rfl
      | some x => rw [ho] at this; cases this
    · rw [w2.get, if_pos (by omega)]
    · rw [w2.get, if_neg (by omega), b1.get _ (by omega)]
    · rw [hbit _ (by omega)]
      by_cases e : k = i + 1
      · subst e
        rw [if_pos (by omega), upd_same]; rfl
      · rw [if_neg (by omega), upd_other _ e]
        exact hB k h1 h2
    · have := w2.hk
      rwa [show 300 + i = 299 + (i + 1) by omega] at this

/-- The base is whole: on: which nodes there are, nb: their bytes, c: how many blocks, X: the bytes in them. -/
structure Ready (S : WalS) (N : Nat) (on : Nat → Bool) (nb : Nat → Bytes) (c : Nat → Nat) (o : Owner) (X : Nat → Nat → UInt8) : Prop where
  lay : Lay S.get (N - 300) nb c (fun n => nlN (c n)) o
  bits : Bits S (N - 300) o
  dat : ∀ n i j, i < c n → j < 64 → (S.get (299 + blkG S.get (nb n) i)).getD j 0 = X n (64 * i + j)
  len : ∀ n, (nb n).length = 256
  zer : ∀ n, on n = true → ∀ j, nlN (c n) ≤ j → j < 26 → ent (nb n) (32 + j) = 0
/-- A node has d blocks more, from the i-th on. -/
structure More (S S' : WalS) (nb : Nat → Bytes) (c : Nat → Nat) (n i d : Nat) (b' : Bytes) : Prop where
  hdr : ∀ x, x < 140 → b'.getD x 0 = (nb n).getD x 0
  low : ∀ j, j = 0 ∨ (16 ≤ j ∧ j < 300) → S'.get j = S.get j
  has : ∀ j, Has S j → Has S' j
  same : ∀ n' i', i' < c n' → blkG S'.get (upd nb n b' n') i' = blkG S.get (nb n') i'
  fresh : ∀ x, i ≤ x → x < i + d → Has S' (299 + blkG S'.get b' x)
  free : S'.freeB + d + (nlN (i + d) - nlN i) = S.freeB
  list : 1 ≤ d → 32 < i + d → Has S' (299 + ent b' (32 + (i + d - 1 - 32) / 32))
theorem upd_nlN (c : Nat → Nat) (n v : Nat) : (fun n' => nlN (upd c n v n')) = upd (fun n' => nlN (c n')) n (nlN v) := by
  funext n'
  by_cases e : n' = n
  · subst e; rw [upd_same, upd_same]
  · rw [upd_other _ e, upd_other _ e]
theorem upd_self {α : Type} (f : Nat → α) (n : Nat) : upd f n (f n) = f := by
  funext j
  by_cases e : j = n
  · subst e; rw [upd_same]
  · rw [upd_other _ e]
end
end Go.Lz
/-
  A base, plain: a node's next block is linked.
-/
namespace Go.Lz
open Go.RowKit Go.Proofs.YtjngphffgdjcfaaGreatDoor
section
variable {S S1 : WalS} {N cc m n i k : Nat} {g : Nat → Bytes} {o : Owner} {on : Nat → Bool} {nb : Nat → Bytes} {c : Nat → Nat} {X : Nat → Nat → UInt8}
theorem okN_ok {k : Nat} {S S1 : WalS} {b : Bytes} (h : S.take = (0, k, S1)) (f : Nat → WalS → Int × Bytes × WalS) : WalS.okN S.take b f = f k S1 := by
  rw [h]
  rfl
theorem num_lt {all : Nat} (h : k ≤ all) (h2 : all ≤ 7592) : k < 65536 := by omega
/-- A list's block is not the one that is new. -/
theorem Took.list (t : Took S S1 N g cc m k o) (R : Ready S N on nb c o X) {n' j : Nat} (hj : j < nlN (c n')) : S1.get (299 + ent (nb n') (32 + j)) = S.get (299 + ent (nb n') (32 + j)) := by
  obtain ⟨h1, h2⟩ := R.lay.lst n' j hj
  refine t.get _ (.inr (by omega)) (fun e => ?_)
  have : ent (nb n') (32 + j) = k := by omega
  rw [this, t.no] at h2
  cases h2
theorem Took.blkG (t : Took S S1 N g cc m k o) (R : Ready S N on nb c o X) {n' i' : Nat} (hi : i' < c n') : blkG S1.get (nb n') i' = blkG S.get (nb n') i' := R.lay.frame (fun _ _ hj => t.list R hj) hi
theorem Took.blk_ne (t : Took S S1 N g cc m k o) (R : Ready S N on nb c o X) {n' i' : Nat} (hi : i' < c n') : Go.Lz.blkG S.get (nb n') i' ≠ k := fun e => by
  have := (R.lay.blk n' i' hi).2.2
  rw [e, t.no] at this
  cases this
theorem Took.dat (t : Took S S1 N g cc m k o) (R : Ready S N on nb c o X) {n' i' : Nat} (hi : i' < c n') : S1.get (299 + Go.Lz.blkG S.get (nb n') i') = S.get (299 + Go.Lz.blkG S.get (nb n') i') := by
  have h1 := (R.lay.blk n' i' hi).2.1
  have h2 := t.blk_ne R hi
  exact t.get _ (.inr (by omega)) (by omega)
theorem zero64_getD (j : Nat) : zero64.getD j 0 = 0 := by
  unfold zero64
  rw [List.getD_eq_getElem?_getD, List.getElem?_replicate]
  by_cases h : j < 64
  · rw [if_pos h]; rfl
  · rw [if_neg h]; rfl

theorem Wrote.bit {S' : WalS} {k : Nat} {b : Bytes} (w : Wrote S S' N g cc m k b) (hk : 16 ≤ k) {a i : Nat} (h : a + i / 512 < 16) : S'.bit a i = S.bit a i := by
  unfold WalS.bit
  rw [w.get, if_neg (by omega)]
theorem Wrote.freeB {S' : WalS} {k m' : Nat} {b : Bytes} (w : Wrote S S' N g cc m k b) (K : Kb S N g cc m') (hk : 16 ≤ k) : S'.freeB = S.freeB := by
  have hN := K.kp.n_le
  have e : cntI (S'.bit 1) (N - 300) = cntI (S.bit 1) (N - 300) := cntI_congr fun j hj => w.bit hk (by omega)
  rw [freeB_eq w.kb, freeB_eq K, e]
theorem upd_nl_same {c : Nat → Nat} {n v : Nat} (h : nlN v = nlN (c n)) : (fun n' => nlN (upd c n v n')) = fun n' => nlN (c n') := by
  funext n'
  by_cases e : n' = n
  · subst e; rw [upd_same, h]
  · rw [upd_other _ e]

/-- In the node itself. -/
theorem step_direct (R : Ready S N on nb c o X) (t : Took S S1 N g cc m k o) (hi : c n = i) (hi8 : i < 32) (hX : ∀ j, j < 64 → X n (64 * i + j) = 0) :
    S1.link (nb n) i k = (0, put2B (nb n) (140 + 2 * i) k, S1) ∧ Ready S1 N on (upd nb n (put2B (nb n) (140 + 2 * i) k)) (upd c n (i + 1)) (upd o k (some (n, i))) X ∧ More S S1 nb c n i 1 (put2B (nb n) (140 + 2 * i) k) := by
  have hN2 := t.kb.kp.n_le
  have hk := t.lo
  have hent : ∀ x, ent (put2B (nb n) (140 + 2 * i) k) x = if x = i then k else ent (nb n) x := fun x => ent_put (R.len n) (by omega) (by omega)
  have hnl : nlN (i + 1) = nlN i := by rw [nlN_succ, if_neg (by omega)]
  have hli : ∀ n' j, j < nlN (c n') → ent (upd nb n (put2B (nb n) (140 + 2 * i) k) n') (32 + j) = ent (nb n') (32 + j) := fun n' j hj => by
    by_cases e : n' = n
    · subst e; rw [upd_same, hent, if_neg (by omega)]
    · rw [upd_other _ e]
  have hbl : ∀ n' i', i' < c n' → blkG S1.get (upd nb n (put2B (nb n) (140 + 2 * i) k) n') i' = blkG S.get (nb n') i' := fun n' i' hi' => by
    rw [← t.blkG R hi']
    by_cases e : n' = n
    · subst e
      rw [upd_same]
      exact blkG_congr (fun _ => by rw [hent, if_neg (by omega)]) (fun h => by omega)
    · rw [upd_other _ e]
  have hnew : blkG S1.get (upd nb n (put2B (nb n) (140 + 2 * i) k) n) i = k := by
    rw [upd_same]
    unfold blkG
    rw [if_pos hi8, hent, if_pos rfl]
  have L1 := (R.lay.congr (f' := S1.get) (nb' := upd nb n (put2B (nb n) (140 + 2 * i) k)) hbl hli).addB (n := n) hi (by omega) (fun h => by omega) (by rw [hnew]; exact hk) (by rw [hnew]; exact t.no)
  rw [hnew] at L1
  refine ⟨?_, ⟨?_, t.bits _, fun n' i' j hi' hj => ?_, fun n' => ?_, fun n' hn' j hj hj26 => ?_⟩, ?_⟩
  · unfold WalS.link placeL placeA
    rw [if_pos hi8, if_pos rfl, if_pos hi8]
  · rw [upd_nl_same (by rw [hnl, hi])]
    exact L1
  · by_cases e : n' = n ∧ i' = i
    · obtain ⟨rfl, rfl⟩ := e
      rw [hnew, t.zero, zero64_getD, hX j hj]
    · have hi2 : i' < c n' := by
        by_cases e1 : n' = n
        · subst e1
          rw [upd_same] at hi'
          have : i' ≠ i := fun e2 => e ⟨rfl, e2⟩
          omega
        · rwa [upd_other _ e1] at hi'
      rw [hbl n' i' hi2, t.dat R hi2]
      exact R.dat n' i' j hi2 hj
  · by_cases e : n' = n
    · subst e; rw [upd_same, put2B_length]; exact R.len n'
    · rw [upd_other _ e]; exact R.len n'
  · by_cases e : n' = n
    · subst e
      rw [upd_same] at hj ⊢
      rw [hent, if_neg (by omega)]
      rw [hnl, ← hi] at hj
      exact R.zer n' hn' j hj hj26
    · rw [upd_other _ e] at hj ⊢
      exact R.zer n' hn' j hj hj26
  · refine ⟨fun x hx => put2_getD _ _ (by omega), fun j hj => t.get j (by omega) (by omega), t.has, hbl, fun x h1 h2 => ?_, ?_, fun _ h => by omega⟩
    · have : x = i := by omega
      subst this
      have h3 := hnew
      rw [upd_same] at h3
      rw [h3]
      exact t.hk
    · have := t.free
      omega
theorem link_place (h : 32 ≤ i) : placeL i = 140 + 2 * (32 + (i - 32) / 32) ∧ placeA i = 2 * ((i - 32) % 32) := by
  constructor
  · rw [placeL_ent, if_neg (by omega)]
  · unfold placeA; rw [if_neg (by omega)]

/-- In a list that is there. -/
theorem step_list {e : Nat} (R : Ready S N on nb c o X) (t : Took S S1 N g cc m k o) (hi : c n = i) (hi8 : 32 ≤ i) (hi9 : i < 864) (hm : (i - 32) % 32 ≠ 0) (hX : ∀ j, j < 64 → X n (64 * i + j) = 0) (hN : 400 ≤ N) (hme : m + e ≤ 111) (he : Has S (299 + ent (nb n) (32 + (i - 32) / 32)) ∨ e = 1) :
    ∃ S2, S1.link (nb n) i k = (0, nb n, S2) ∧ Kb S2 N g cc (m + e) ∧ Ready S2 N on (upd nb n (nb n)) (upd c n (i + 1)) (upd o k (some (n, i))) X ∧ More S S2 nb c n i 1 (nb n) := by
  have hN2 := t.kb.kp.n_le
  have hk := t.lo
  have hnl : nlN (i + 1) = nlN i := by rw [nlN_succ, if_neg (by omega)]
  have hj0 : (i - 32) / 32 < nlN (c n) := by rw [hi]; exact nlN_old hm
  obtain ⟨hl1, hlo⟩ := R.lay.lst n _ hj0
  obtain ⟨l, hl⟩ : ∃ l, l = ent (nb n) (32 + (i - 32) / 32) := ⟨_, rfl⟩
  rw [← hl] at hl1 hlo he
  have hlk : l ≠ k := fun e => by rw [e, t.no] at hlo; cases hlo
  obtain ⟨p1, p2⟩ := link_place hi8
  have hlen := t.kb.len (299 + l)
  obtain ⟨S2, e2, w⟩ : ∃ S2, S1.write ((299 + l : Nat) : Int) (put2B (S1.get (299 + l)) (2 * ((i - 32) % 32)) k) = (0, S2) ∧ Wrote S1 S2 N g cc (m + e) (299 + l) (put2B (S1.get (299 + l)) (2 * ((i - 32) % 32)) k) := by
    rcases he with h | h
    · obtain ⟨S2, e2, w⟩ := t.kb.write0 (by omega) (k := 299 + l) (b := put2B (S1.get (299 + l)) (2 * ((i - 32) % 32)) k) (by omega) (by rw [put2B_length]; exact hlen) (.inr (t.has _ h))
      exact ⟨S2, e2, ⟨w.kb.mono (by omega), w.get, w.has, w.hk⟩⟩
    · obtain ⟨S2, e2, w⟩ := t.kb.write1 (by omega) (k := 299 + l) (b := put2B (S1.get (299 + l)) (2 * ((i - 32) % 32)) k) (by omega) (by rw [put2B_length]; exact hlen)
      exact ⟨S2, e2, by rw [h]; exact w⟩
  have hlist : ∀ n' j, j < nlN (c n') → ent (nb n') (32 + j) ≠ l → S2.get (299 + ent (nb n') (32 + j)) = S.get (299 + ent (nb n') (32 + j)) := fun n' j hj hne => by
    rw [w.get, if_neg (by omega), t.list R hj]
  have hbl : ∀ n' i', i' < c n' → blkG S2.get (nb n') i' = blkG S.get (nb n') i' := fun n' i' hi' => by
    refine blkG_congr (fun _ => rfl) (fun h => ⟨rfl, ?_⟩)
    have hjj := nlN_at h hi'
    by_cases e : ent (nb n') (32 + (i' - 32) / 32) = l
    · obtain ⟨rfl, e3⟩ := R.lay.list_inj hjj hj0 (e.trans hl)
      rw [e, w.get, if_pos rfl, two_put hlen (by omega) (by omega), if_neg (by omega)]
      have := t.list R hj0
      rw [← hl] at this
      rw [this]
    · rw [hlist n' _ hjj e]
  have hnew : blkG S2.get (nb n) i = k := by
    unfold blkG
    rw [if_neg (by omega), ← hl, w.get, if_pos rfl, two_put hlen (by omega) (by omega), if_pos rfl]
  have L1 := (R.lay.congr (f' := S2.get) (nb' := nb) hbl (fun _ _ _ => rfl)).addB (n := n) hi hi9 (fun h => hj0) (by rw [hnew]; exact hk) (by rw [hnew]; exact t.no)
  rw [hnew] at L1
  refine ⟨S2, ?_, w.kb, ⟨?_, fun k' h1 h2 => ?_, fun n' i' j hi' hj => ?_, fun n' => ?_, fun n' hn' j hj hj26 => ?_⟩, ?_⟩
  · have hle : ent (nb n) (32 + (i - 32) / 32) ≠ 0 := by omega
    unfold ent at hl hle
    unfold WalS.link WalS.layB WalS.lay
    rw [p1, p2, if_neg (by omega), if_neg hle, ← hl, if_neg (by rw [t.kb.size]; omega), e2]
  · rw [upd_nl_same (by rw [hnl, hi]), upd_self]
    exact L1
  · have := t.bits (n, i) k' h1 h2
    rw [← this]
    exact w.bit (by omega) (by omega)
  · rw [upd_self]
    by_cases e : n' = n ∧ i' = i
    · obtain ⟨rfl, rfl⟩ := e
      rw [hnew, w.get, if_neg (by omega), t.zero, zero64_getD, hX j hj]
    · have hi2 : i' < c n' := by
        by_cases e1 : n' = n
        · subst e1
          rw [upd_same] at hi'
          have : i' ≠ i := fun e2 => e ⟨rfl, e2⟩
          omega
        · rwa [upd_other _ e1] at hi'
      have hne : blkG S.get (nb n') i' ≠ l := by rw [hl]; exact R.lay.list_ne hi2 hj0
      rw [hbl n' i' hi2, w.get, if_neg (by omega), t.dat R hi2]
      exact R.dat n' i' j hi2 hj
  · rw [upd_self]; exact R.len n'
  · rw [upd_self]
    by_cases e : n' = n
    · subst e
      rw [upd_same] at hj
      rw [hnl, ← hi] at hj
      exact R.zer n' hn' j hj hj26
    · rw [upd_other _ e] at hj
      exact R.zer n' hn' j hj hj26
  · refine ⟨fun x hx => rfl, fun j hj => ?_, fun j hj => w.has _ (t.has _ hj), fun n' i' hi' => by rw [upd_self]; exact hbl n' i' hi', fun x h1 h2 => ?_, ?_, fun _ _ => ?_⟩
    · rw [w.get, if_neg (by omega)]
      exact t.get j (by omega) (by omega)
    · have : x = i := by omega
      subst this
      rw [hnew]
      exact w.has _ t.hk
    · have := t.free
      have h3 := w.freeB t.kb (by omega)
      omega
    · rw [Nat.add_sub_cancel, ← hl]
      exact w.hk

/-- In a new list. -/
theorem step_new (R : Ready S N on nb c o X) (t : Took S S1 N g cc m k o) (hon : on n = true) (hi : c n = i) (hi8 : 32 ≤ i) (hi9 : i < 864) (hm : (i - 32) % 32 = 0) (hX : ∀ j, j < 64 → X n (64 * i + j) = 0) (hN : 400 ≤ N) (hme : m + 1 ≤ 111) (hf : 1 ≤ S1.freeB) :
    ∃ b' S3 o', S1.link (nb n) i k = (0, b', S3) ∧ Kb S3 N g cc (m + 1) ∧ Ready S3 N on (upd nb n b') (upd c n (i + 1)) o' X ∧ More S S3 nb c n i 1 b' := by
  have hN2 := t.kb.kp.n_le
  have hk := t.lo
  have hnl : nlN (i + 1) = nlN i + 1 := by rw [nlN_succ, if_pos ⟨hi8, hm⟩]
  have hj0 : nlN i = (i - 32) / 32 := nlN_new hm
  have hz := R.zer n hon ((i - 32) / 32) (by rw [hi]; omega) (by omega)
  obtain ⟨p1, p2⟩ := link_place hi8
  obtain ⟨l, S2, et, t2⟩ := take_step t.kb hme hN (t.bits (n, i)) hf
  have hl1 := t2.lo
  have hlk : l ≠ k := fun e => by have := t2.no; rw [e, upd_same] at this; cases this
  have hlo : o l = none := by have := t2.no; rwa [upd_other _ hlk] at this
  obtain ⟨S3, e3, w⟩ := t2.kb.write0 (by omega) (k := 299 + l) (b := put2B (S2.get (299 + l)) (2 * ((i - 32) % 32)) k) (by omega) (by rw [put2B_length]; exact t2.kb.len _) (.inr t2.hk)
  obtain ⟨b', hb'⟩ : ∃ b', b' = put2B (nb n) (140 + 2 * (32 + (i - 32) / 32)) l := ⟨_, rfl⟩
  have hent : ∀ x, ent b' x = if x = 32 + (i - 32) / 32 then l else ent (nb n) x := fun x => by rw [hb']; exact ent_put (R.len n) (by omega) (by omega)
  have hget : ∀ j, j = 0 ∨ 16 ≤ j → j ≠ 299 + k → j ≠ 299 + l → S3.get j = S.get j := fun j h1 h2 h3 => by rw [w.get, if_neg h3, t2.get j h1 h3, t.get j h1 h2]
  have hown : ∀ x k', o k' = some x → 299 + k' ≠ 299 + k ∧ 299 + k' ≠ 299 + l := fun x k' h => ⟨fun e => (by rw [show k' = k by omega, t.no] at h; cases h), fun e => (by rw [show k' = l by omega, hlo] at h; cases h)⟩
  have hlist : ∀ n' j, j < nlN (c n') → S3.get (299 + ent (nb n') (32 + j)) = S.get (299 + ent (nb n') (32 + j)) := fun n' j hj => by
    obtain ⟨h1, h2⟩ := R.lay.lst n' j hj
    obtain ⟨h3, h4⟩ := hown _ _ h2
    exact hget _ (.inr (by omega)) h3 h4
  have hli : ∀ n' j, j < nlN (c n') → ent (upd nb n b' n') (32 + j) = ent (nb n') (32 + j) := fun n' j hj => by
    by_cases e : n' = n
    · subst e; rw [upd_same, hent, if_neg (by rw [hi] at hj; omega)]
    · rw [upd_other _ e]
  have hbl : ∀ n' i', i' < c n' → blkG S3.get (upd nb n b' n') i' = blkG S.get (nb n') i' := fun n' i' hi' => by
    rw [← R.lay.frame hlist hi']
    refine blkG_congr (fun h => ?_) (fun h => ⟨hli n' _ (nlN_at h hi'), rfl⟩)
    by_cases e : n' = n
    · subst e; rw [upd_same, hent, if_neg (by omega)]
    · rw [upd_other _ e]
  have hnewl : ent (upd nb n b' n) (32 + (i - 32) / 32) = l := by rw [upd_same, hent, if_pos rfl]
  have hnew : blkG S3.get (upd nb n b' n) i = k := by
    unfold blkG
    rw [if_neg (by omega), hnewl, w.get, if_pos rfl, two_put (t2.kb.len _) (by omega) (by omega), if_pos rfl]
  have L1 := (R.lay.congr (f' := S3.get) (nb' := upd nb n b') hbl hli).addL (n := n) (j := (i - 32) / 32) (by show nlN (c n) = _; rw [hi]; exact hj0) (by omega) (by rw [hnewl]; exact hl1) (by rw [hnewl]; exact hlo)
  rw [hnewl] at L1
  have L2 := L1.addB (n := n) hi hi9 (fun h => by rw [upd_same]; omega) (by rw [hnew]; exact hk) (by rw [hnew, upd_other _ (Ne.symm hlk)]; exact t.no)
  rw [hnew] at L2
  refine ⟨b', S3, upd (upd o l (some (n, 1000 + (i - 32) / 32))) k (some (n, i)), ?_, w.kb, ⟨?_, fun k' h1 h2 => ?_, fun n' i' j hi' hj => ?_, fun n' => ?_, fun n' hn' j hj hj26 => ?_⟩, ?_⟩
  · have hz' := hz
    unfold ent at hz'
    have htl : twoN b' (140 + 2 * (32 + (i - 32) / 32)) = l := by have := hnewl; rw [upd_same] at this; exact this
    unfold WalS.link
    rw [p1, p2, if_neg (by omega), if_pos hz', okN_ok et]
    unfold WalS.layB WalS.lay
    rw [p1, p2, ← hb', htl, if_neg (by rw [t2.kb.size]; omega), e3]
  · rw [upd_nlN, hnl, hj0]
    exact L2
  · have := t2.bits (n, 1000 + (i - 32) / 32) k' h1 h2
    rw [w.bit (by omega) (by omega), this]
    by_cases e1 : k' = k
    · subst e1; rw [upd_other _ (Ne.symm hlk), upd_same, upd_same]
    · by_cases e2 : k' = l
      · subst e2; rw [upd_same, upd_other _ e1, upd_same]
      · rw [upd_other _ e2, upd_other _ e1, upd_other _ e1, upd_other _ e2]
  · by_cases e : n' = n ∧ i' = i
    · obtain ⟨rfl, rfl⟩ := e
      rw [hnew, w.get, if_neg (by omega), t2.get _ (.inr (by omega)) (by omega), t.zero, zero64_getD, hX j hj]
    · have hi2 : i' < c n' := by
        by_cases e1 : n' = n
        · subst e1
          rw [upd_same] at hi'
          have : i' ≠ i := fun e2 => e ⟨rfl, e2⟩
          omega
        · rwa [upd_other _ e1] at hi'
      obtain ⟨_, h1, h2⟩ := R.lay.blk n' i' hi2
      obtain ⟨h3, h4⟩ := hown _ _ h2
      rw [hbl n' i' hi2, hget _ (.inr (by omega)) h3 h4]
      exact R.dat n' i' j hi2 hj
  · by_cases e : n' = n
    · subst e; rw [upd_same, hb', put2B_length]; exact R.len n'
    · rw [upd_other _ e]; exact R.len n'
  · by_cases e : n' = n
    · subst e
      rw [upd_same] at hj ⊢
      rw [hent, if_neg (by omega)]
      exact R.zer n' hn' j (by rw [hi]; omega) hj26
    · rw [upd_other _ e] at hj ⊢
      exact R.zer n' hn' j hj hj26
  · refine ⟨fun x hx => by rw [hb']; exact put2_getD _ _ (by omega), fun j hj => hget j (by omega) (by omega) (by omega), fun j hj => w.has _ (t2.has _ (t.has _ hj)), hbl, fun x h1 h2 => ?_, ?_, fun _ _ => ?_⟩
    · have : x = i := by omega
      subst this
      rw [upd_same] at hnew
      rw [hnew]
      exact w.has _ (t2.has _ t.hk)
    · have h1 := t.free
      have h2 := t2.free
      have h3 := w.freeB t2.kb (by omega)
      omega
    · rw [Nat.add_sub_cancel, hent, if_pos rfl]
      exact w.hk

/-- A node's next block. -/
theorem step_grow {e : Nat} (K : Kb S N g cc m) (R : Ready S N on nb c o X) (hN : 400 ≤ N) (hon : on n = true) (hi : c n = i) (hi8 : i < 864) (hf : 1 + (nlN (i + 1) - nlN i) ≤ S.freeB) (hX : ∀ j, j < 64 → X n (64 * i + j) = 0) (hm : m + 1 + (nlN (i + 1) - nlN i) + e ≤ 111) (he : i < 32 ∨ (i - 32) % 32 = 0 ∨ Has S (299 + ent (nb n) (32 + (i - 32) / 32)) ∨ e = 1) :
    ∃ b' S' o', WalS.okN S.take (nb n) (fun k S' => S'.link (nb n) i k) = (0, b', S') ∧ Kb S' N g cc (m + 1 + (nlN (i + 1) - nlN i) + e) ∧ Ready S' N on (upd nb n b') (upd c n (i + 1)) o' X ∧ More S S' nb c n i 1 b' := by
  obtain ⟨k, S1, et, t⟩ := take_step K (by omega) hN R.bits (by omega)
  rw [okN_ok et]
  by_cases h1 : i < 32
  · obtain ⟨e1, R1, M1⟩ := step_direct R t hi h1 hX
    exact ⟨_, S1, _, e1, t.kb.mono (by omega), R1, M1⟩
  · have hs := nlN_succ i
    by_cases h2 : (i - 32) % 32 = 0
    · rw [if_pos ⟨by omega, h2⟩] at hs
      have hfr := t.free
      obtain ⟨b', S3, o', e1, K1, R1, M1⟩ := step_new R t hon hi (by omega) hi8 h2 hX hN (by omega) (by omega)
      exact ⟨b', S3, o', e1, K1.mono (by omega), R1, M1⟩
    · rw [if_neg (by omega)] at hs
      obtain ⟨S2, e1, K1, R1, M1⟩ := step_list (e := e) R t hi (by omega) hi8 h2 hX hN (by omega) (by
        rcases he with h | h | h | h
        · exact absurd h h1
        · exact absurd h h2
        · exact .inl h
        · exact .inr h)
      exact ⟨_, S2, _, e1, K1.mono (by omega), R1, M1⟩
end
end Go.Lz
/-
  A base, plain: a node grows; its bytes are written.
-/
namespace Go.Lz
open Go.RowKit Go.Proofs.YtjngphffgdjcfaaGreatDoor
section
variable {S S1 : WalS} {N cc m n i k : Nat} {g : Nat → Bytes} {o : Owner} {on : Nat → Bool} {nb : Nat → Bytes} {c : Nat → Nat} {X : Nat → Nat → UInt8}
theorem upd_two {α : Type} (f : Nat → α) (k : Nat) (a b : α) : upd (upd f k a) k b = upd f k b := by
  funext j
  by_cases e : j = k
  · subst e; rw [upd_same, upd_same]
  · rw [upd_other _ e, upd_other _ e, upd_other _ e]
theorem nlN_mono {a b : Nat} (h : a ≤ b) : nlN a ≤ nlN b := by unfold nlN; omega
theorem okB_ok {r : Int × Bytes × WalS} {b : Bytes} {S1 : WalS} (h : r = (0, b, S1)) (f : Bytes → WalS → Int × Bytes × WalS) : WalS.okB r f = f b S1 := by
  rw [h]
  rfl
theorem More.none (S : WalS) (nb : Nat → Bytes) (c : Nat → Nat) (n i : Nat) : More S S nb c n i 0 (nb n) where
  hdr _ _ := rfl
  low _ _ := rfl
  has _ h := h
  same n' i' _ := by rw [upd_self]
  fresh x h1 h2 := by omega
  free := by rw [Nat.add_zero, Nat.add_zero, Nat.sub_self, Nat.add_zero]
  list h := by omega
theorem More.trans {S1 S2 : WalS} {b1 b2 : Bytes} {d : Nat} (hc : c n = i) (h0 : d = 0 → b2 = b1) (h1 : More S S1 nb c n i 1 b1) (h2 : More S1 S2 (upd nb n b1) (upd c n (i + 1)) n (i + 1) d b2) : More S S2 nb c n i (d + 1) b2 where
  hdr x hx := by rw [h2.hdr x hx, upd_same, h1.hdr x hx]
  low j hj := (h2.low j hj).trans (h1.low j hj)
  has j hj := h2.has j (h1.has j hj)
  same n' i' hi' := by
    have := h2.same n' i' (by
      by_cases e : n' = n
      · subst e; rw [upd_same]; omega
      · rwa [upd_other _ e])
    rw [upd_two] at this
    rw [this]
    exact h1.same n' i' hi'
  fresh x hx1 hx2 := by
    by_cases e : x = i
    · subst e
      have h3 := h2.same n x (by rw [upd_same]; omega)
      rw [upd_same, upd_same] at h3
      rw [h3]
      exact h2.has _ (h1.fresh x (by omega) (by omega))
    · exact h2.fresh x (by omega) (by omega)
  free := by
    have h3 := h1.free
    have h4 := h2.free
    have h5 := nlN_mono (show i ≤ i + 1 by omega)
    have h6 := nlN_mono (show i + 1 ≤ i + 1 + d by omega)
    rw [show i + (d + 1) = i + 1 + d by omega]
    omega
  list hd h32 := by
    by_cases e : d = 0
    · subst e
      have h3 := h1.list (by omega) (by omega)
      rw [show i + (0 + 1) - 1 = i + 1 - 1 by omega, h0 rfl]
      exact h2.has _ h3
    · rw [show i + (d + 1) - 1 = i + 1 + d - 1 by omega]
      exact h2.list (by omega) (by omega)

theorem growF_ok (hN : 400 ≤ N) (hon : on n = true) : ∀ (d : Nat) {S : WalS} {nb : Nat → Bytes} {c : Nat → Nat} {o : Owner} {i m e : Nat}, Kb S N g cc m → Ready S N on nb c o X → c n = i → i + d ≤ 864 → (∀ x, 64 * i ≤ x → X n x = 0) → d + (nlN (i + d) - nlN i) ≤ S.freeB → m + d + (nlN (i + d) - nlN i) + e ≤ 111 → (i < 32 ∨ (i - 32) % 32 = 0 ∨ Has S (299 + ent (nb n) (32 + (i - 32) / 32)) ∨ e = 1) →
    ∃ b' S' o', WalS.growF d i (nb n) S = (0, b', S') ∧ Kb S' N g cc (m + d + (nlN (i + d) - nlN i) + e) ∧ Ready S' N on (upd nb n b') (upd c n (i + d)) o' X ∧ More S S' nb c n i d b' := by
  intro d
  induction d with
  | zero =>
    intro S nb c o i m e K R hi _ _ _ _ _
    refine ⟨nb n, S, o, rfl, K.mono (by omega), ?_, More.none S nb c n i⟩
    rw [upd_self, Nat.add_zero, ← hi, upd_self]
    exact R
  | succ d ih =>
    intro S nb c o i m e K R hi h8 hX hf hm he
    have h5 := nlN_mono (show i ≤ i + 1 by omega)
    have h6 := nlN_mono (show i + 1 ≤ i + 1 + d by omega)
    have h7 : i + (d + 1) = i + 1 + d := by omega
    rw [h7] at h8 hf hm
    obtain ⟨b1, S1, o1, e1, K1, R1, M1⟩ := step_grow (e := e) K R hN hon hi (by omega) (by omega) (fun j _ => hX _ (by omega)) (by omega) he
    have hfr := M1.free
    obtain ⟨b2, S2, o2, e2, K2, R2, M2⟩ := ih (S := S1) (nb := upd nb n b1) (c := upd c n (i + 1)) (i := i + 1) (e := 0) K1 R1 (upd_same _ _ _) (by omega) (fun x hx => hX x (by omega)) (by omega) (by omega) (by
      rw [upd_same]
      by_cases h : i + 1 < 32
      · exact .inl h
      · by_cases h2 : (i + 1 - 32) % 32 = 0
        · exact .inr (.inl h2)
        · have := M1.list (by omega) (by omega)
          rw [show i + 1 - 1 = i by omega] at this
          refine .inr (.inr (.inl ?_))
          rw [show (i + 1 - 32) / 32 = (i - 32) / 32 by omega]
          exact this)
    rw [upd_same] at e2
    refine ⟨b2, S2, o2, ?_, K2.mono ?_, ?_, M1.trans hi ?_ M2⟩
    · rw [growF_succ, okB_ok e1, e2]
    · rw [h7]
      omega
    · rw [upd_two, upd_two] at R2
      rw [h7]
      exact R2
    · intro h
      subst h
      have e3 : b1 = b2 := congrArg (fun r => r.2.1) e2
      exact e3.symm

/-- Bytes of a node that are not its blocks' numbers may change. -/
theorem Ready.node {b : Bytes} (R : Ready S N on nb c o X) (hb : b.length = 256) (he : ∀ x, x < 58 → ent b x = ent (nb n) x) : Ready S N on (upd nb n b) c o X := by
  have hl : ∀ n' j, j < 26 → ent (upd nb n b n') (32 + j) = ent (nb n') (32 + j) := fun n' j hj => by
    by_cases e : n' = n
    · subst e; rw [upd_same, he _ (by omega)]
    · rw [upd_other _ e]
  have hb2 : ∀ n' i', i' < c n' → blkG S.get (upd nb n b n') i' = blkG S.get (nb n') i' := fun n' i' hi' => by
    have := R.lay.cle n'
    refine blkG_congr (fun h => ?_) (fun h => ⟨hl n' _ (by omega), rfl⟩)
    by_cases e : n' = n
    · subst e; rw [upd_same, he _ (by omega)]
    · rw [upd_other _ e]
  refine ⟨R.lay.congr hb2 (fun n' j hj => hl n' j (by have := R.lay.lle n'; omega)), R.bits, fun n' i' j hi' hj => by rw [hb2 n' i' hi']; exact R.dat n' i' j hi' hj, fun n' => ?_, fun n' hn' j hj hj26 => by rw [hl n' j hj26]; exact R.zer n' hn' j hj hj26⟩
  by_cases e : n' = n
  · subst e; rw [upd_same]; exact hb
  · rw [upd_other _ e]; exact R.len n'
theorem ent_setSize (b : Bytes) (v : Int) (x : Nat) : ent (setSizeB b v) x = ent b x := by
  unfold ent setSizeB
  rw [twoN_put2_other _ _ (by omega), twoN_put2_other _ _ (by omega)]

/-- A piece of a node's bytes is written. -/
def overX (X : Nat → Nat → UInt8) (n i : Nat) (p : Bytes) : Nat → Nat → UInt8 := fun n' x => if n' = n ∧ i ≤ x ∧ x < i + p.length then p.getD (x - i) 0 else X n' x
theorem splice_getD {b p : Bytes} {a : Nat} (h : a + p.length ≤ b.length) (j : Nat) : (splice b a p).getD j 0 = if a ≤ j ∧ j < a + p.length then p.getD (j - a) 0 else b.getD j 0 := by
  unfold splice
  rw [List.getD_eq_getElem?_getD, List.getD_eq_getElem?_getD, List.getD_eq_getElem?_getD, List.getElem?_append, List.length_take, Nat.min_eq_left (by omega)]
  by_cases h1 : j < a
  · rw [if_pos h1, if_neg (by omega), List.getElem?_take, if_pos h1]
  · rw [if_neg h1, List.getElem?_append]
    by_cases h2 : j < a + p.length
    · rw [if_pos (by omega), if_pos (by omega)]
    · rw [if_neg (by omega), if_neg (by omega), List.getElem?_drop, show a + p.length + (j - a - p.length) = j by omega]
/-- A sector of a node's own is written. -/
theorem piece_ok {e a : Nat} {p : Bytes} (K : Kb S N g cc m) (R : Ready S N on nb c o X) (hN : 400 ≤ N) (hi : i < c n) (ha : a + p.length ≤ 64) (hm : m + e ≤ 111) (he : Has S (299 + blkG S.get (nb n) i) ∨ e = 1) :
    ∃ S', S.write ((299 + blkG S.get (nb n) i : Nat) : Int) (splice (S.get (299 + blkG S.get (nb n) i)) a p) = (0, S') ∧ Kb S' N g cc (m + e) ∧ Ready S' N on nb c o (overX X n (64 * i + a) p) ∧ (∀ j, j = 0 ∨ (16 ≤ j ∧ j < 300) → S'.get j = S.get j) ∧ (∀ j, Has S j → Has S' j) ∧ (∀ n' i', i' < c n' → blkG S'.get (nb n') i' = blkG S.get (nb n') i') ∧ S'.freeB = S.freeB := by
  obtain ⟨_, hk, hko⟩ := R.lay.blk n i hi
  obtain ⟨k, hkk⟩ : ∃ k, k = blkG S.get (nb n) i := ⟨_, rfl⟩
  rw [← hkk] at hk hko he ⊢
  have hlen := K.len (299 + k)
  have hsl : (splice (S.get (299 + k)) a p).length = 64 := by rw [length_splice _ _ _ (by omega), hlen]
  obtain ⟨S', e1, w⟩ : ∃ S', S.write ((299 + k : Nat) : Int) (splice (S.get (299 + k)) a p) = (0, S') ∧ Wrote S S' N g cc (m + e) (299 + k) (splice (S.get (299 + k)) a p) := by
    rcases he with h | h
    · obtain ⟨S', e1, w⟩ := K.write0 (by omega) (k := 299 + k) (by omega) hsl (.inr h)
      exact ⟨S', e1, w.kb.mono (by omega), w.get, w.has, w.hk⟩
    · obtain ⟨S', e1, w⟩ := K.write1 (by omega) (k := 299 + k) (by omega) hsl
      exact ⟨S', e1, by rw [h]; exact w⟩
  have hN2 := K.kp.n_le
  have hlist : ∀ n' j, j < nlN (c n') → S'.get (299 + ent (nb n') (32 + j)) = S.get (299 + ent (nb n') (32 + j)) := fun n' j hj => by
    have := R.lay.list_ne hi hj
    rw [w.get, if_neg (by omega)]
  have hbl : ∀ n' i', i' < c n' → blkG S'.get (nb n') i' = blkG S.get (nb n') i' := fun n' i' hi' => R.lay.frame hlist hi'
  refine ⟨S', e1, w.kb, ⟨R.lay.congrF hlist, fun k' h1 h2 => ?_, fun n' i' j hi' hj => ?_, R.len, R.zer⟩, fun j hj => by rw [w.get, if_neg (by omega)], w.has, hbl, w.freeB K (by omega)⟩
  · rw [w.bit (by omega) (by omega)]
    exact R.bits k' h1 h2
  · rw [hbl n' i' hi', w.get]
    have hd := R.dat n' i' j hi' hj
    unfold overX
    by_cases e2 : n' = n ∧ i' = i
    · obtain ⟨rfl, rfl⟩ := e2
      rw [if_pos (by omega), splice_getD (by omega)]
      by_cases h1 : a ≤ j ∧ j < a + p.length
      · rw [if_pos h1, if_pos ⟨rfl, by omega, by omega⟩, show 64 * i' + j - (64 * i' + a) = j - a by omega]
      · rw [if_neg h1, if_neg (by omega), hkk, hd]
    · have hne : blkG S.get (nb n') i' ≠ k := fun h3 => by
        have := R.lay.inj hi' hi (h3.trans hkk)
        exact e2 this
      rw [if_neg (by omega), hd, if_neg (fun h => e2 ⟨h.1, by omega⟩)]
end
end Go.Lz
/-
  A base, plain: Write's pieces; a node is saved.
-/
namespace Go.Lz
open Go.RowKit Go.Proofs.YtjngphffgdjcfaaGreatDoor
section
variable {S S1 : WalS} {N cc m n i k : Nat} {g : Nat → Bytes} {o : Owner} {on : Nat → Bool} {nb : Nat → Bytes} {c : Nat → Nat} {X : Nat → Nat → UInt8}
theorem overX_nil (X : Nat → Nat → UInt8) (n i : Nat) : overX X n i [] = X := by
  funext n' x
  unfold overX
  rw [if_neg (fun h => by have := h.2.2; simp at this; omega)]
theorem overX_split (X : Nat → Nat → UInt8) (n i : Nat) (p : Bytes) {a : Nat} (ha : a ≤ p.length) : overX (overX X n i (p.take a)) n (i + a) (p.drop a) = overX X n i p := by
  have hl : (p.take a).length = a := by rw [List.length_take]; omega
  funext n' x
  unfold overX
  rw [hl, List.length_drop]
  by_cases h : n' = n
  · by_cases h1 : i ≤ x ∧ x < i + p.length
    · by_cases h2 : x < i + a
      · rw [if_neg (show ¬ (n' = n ∧ i + a ≤ x ∧ x < i + a + (p.length - a)) by omega), if_pos (show n' = n ∧ i ≤ x ∧ x < i + a by omega), if_pos (show n' = n ∧ i ≤ x ∧ x < i + p.length by omega), List.getD_eq_getElem?_getD, List.getElem?_take, if_pos (by omega), List.getD_eq_getElem?_getD]
      · rw [if_pos (show n' = n ∧ i + a ≤ x ∧ x < i + a + (p.length - a) by omega), if_pos (show n' = n ∧ i ≤ x ∧ x < i + p.length by omega), List.getD_eq_getElem?_getD, List.getElem?_drop, List.getD_eq_getElem?_getD, show a + (x - (i + a)) = x - i by omega]
    · rw [if_neg (show ¬ (n' = n ∧ i + a ≤ x ∧ x < i + a + (p.length - a)) by omega), if_neg (show ¬ (n' = n ∧ i ≤ x ∧ x < i + a) by omega), if_neg (fun h' => h1 h'.2)]
  · rw [if_neg (fun h' => h h'.1), if_neg (fun h' => h h'.1), if_neg (fun h' => h h'.1)]
/-- How many old blocks a Write of l bytes at i touches. -/
def oldN (fr i l : Nat) : Nat := if l = 0 then 0 else min fr (cntN (i + l)) - i / 64
theorem Ready.block (R : Ready S N on nb c o X) (K : Kb S N g cc m) (hN : 400 ≤ N) (hi : i < c n) : S.block (nb n) i = (0, blkG S.get (nb n) i) := by
  refine block_eq fun h => ?_
  have := (R.lay.lst n _ (nlN_at h hi)).1
  rw [K.size]
  omega
theorem eachW_ok (hN : 400 ≤ N) {fr : Nat} : ∀ (d : Nat) {S : WalS} {X : Nat → Nat → UInt8} {i m : Nat} {p : Bytes}, Kb S N g cc m → Ready S N on nb c o X → i + p.length ≤ 64 * c n → p.length ≤ d → (∀ x, fr ≤ x → x < c n → Has S (299 + blkG S.get (nb n) x)) → m + oldN fr i p.length ≤ 111 →
    ∃ S', eachF writeStep (nb n) d i (i + p.length) S p = (0, S', []) ∧ Kb S' N g cc (m + oldN fr i p.length) ∧ Ready S' N on nb c o (overX X n i p) ∧ (∀ j, j = 0 ∨ (16 ≤ j ∧ j < 300) → S'.get j = S.get j) ∧ S'.freeB = S.freeB := by
  intro d
  induction d with
  | zero =>
    intro S X i m p K R _ hp _ _
    have : p = [] := List.eq_nil_of_length_eq_zero (by omega)
    subst this
    exact ⟨S, rfl, K.mono (by omega), by rw [overX_nil]; exact R, fun _ _ => rfl, rfl⟩
  | succ d ih =>
    intro S X i m p K R hc hp hfr hm
    by_cases h0 : p = []
    · subst h0
      refine ⟨S, ?_, K.mono (by omega), by rw [overX_nil]; exact R, fun _ _ => rfl, rfl⟩
      unfold eachF
      rw [if_neg (by simp)]
    · have hpl : 0 < p.length := List.length_pos_iff.2 h0
      obtain ⟨a, ha⟩ : ∃ a, a = min (64 - i % 64) (i + p.length - i) := ⟨_, rfl⟩
      have hi : i / 64 < c n := by omega
      obtain ⟨e, he, hme, hne⟩ : ∃ e, (Has S (299 + blkG S.get (nb n) (i / 64)) ∨ e = 1) ∧ (e = 0 ∨ e = 1) ∧ (e = 1 → i / 64 < fr) := by
        by_cases h : fr ≤ i / 64
        · exact ⟨0, .inl (hfr _ h hi), .inl rfl, fun e => by omega⟩
        · exact ⟨1, .inr rfl, .inr rfl, fun _ => by omega⟩
      have htl : (p.take a).length = a := by rw [List.length_take]; omega
      have hct : i / 64 < cntN (i + p.length) := by unfold cntN; omega
      have hob : oldN fr i p.length = min fr (cntN (i + p.length)) - i / 64 := by unfold oldN; rw [if_neg (by omega)]
      have heb : e ≤ oldN fr i p.length := by rw [hob]; omega
      obtain ⟨S1, e1, K1, R1, l1, hs1, bl1, f1⟩ := piece_ok (i := i / 64) (a := i % 64) (p := p.take a) (e := e) K R hN hi (by omega) (by omega) he
      have hj : i + p.length = (i + a) + (p.drop a).length := by rw [List.length_drop]; omega
      have h64 : 64 * (i / 64) + i % 64 = i := by omega
      rw [h64] at R1
      have hnext : (p.drop a).length = 0 ∨ (i + a) / 64 = i / 64 + 1 := by rw [List.length_drop]; omega
      have hbud : e + oldN fr (i + a) (p.drop a).length ≤ oldN fr i p.length := by
        rcases hnext with h | h
        · rw [h]
          unfold oldN
          rw [if_pos rfl]
          unfold oldN at heb
          omega
        · rw [hob]
          unfold oldN
          rw [← hj, h]
          split
          · rw [hob] at heb
            omega
          · omega
      obtain ⟨S2, e2, K2, R2, l2, f2⟩ := ih (S := S1) (i := i + a) (p := p.drop a) K1 R1 (by omega) (by rw [List.length_drop]; omega) (fun x h1 h2 => by rw [bl1 n x h2]; exact hs1 _ (hfr x h1 h2)) (by omega)
      rw [overX_split X n i p (by omega)] at R2
      refine ⟨S2, ?_, K2.mono (by omega), R2, fun j hj => (l2 j hj).trans (l1 j hj), f2.trans f1⟩
      unfold eachF
      rw [if_pos (by omega), R.block K hN hi, if_pos rfl, ← ha]
      have hsz : ¬ S.size ≤ 299 + blkG S.get (nb n) (i / 64) := by
        have := (R.lay.blk n _ hi).2.1
        rw [K.size]
        omega
      unfold writeStep
      rw [if_neg hsz, e1, ← hj] at *
      exact e2

/-- A sector of a node's was written. -/
structure Saved (S S' : WalS) (N : Nat) (g : Nat → Bytes) (cc m at' : Nat) (q : Bytes) : Prop where
  kb : Kb S' N g cc m
  get : ∀ j, S'.get j = if j = at' then q else S.get j
theorem saveP_ok (K : Kb S N g cc m) (hN : 400 ≤ N) (hm : m + 1 ≤ 111) (hn : 1 ≤ n ∧ n ≤ 64) {b : Bytes} (hb : b.length = 256) (hi : i < 4) : ∃ S', S.saveP n b i = (0, S') ∧ Saved S S' N g cc (m + 1) (16 + 4 * (n - 1) + i) (WalS.pieceN b i) := by
  unfold WalS.saveP
  by_cases h : WalS.pieceN b i = S.get (16 + 4 * (n - 1) + i)
  · rw [if_pos h]
    refine ⟨S, rfl, K.mono (by omega), fun j => ?_⟩
    by_cases e : j = 16 + 4 * (n - 1) + i
    · rw [if_pos e, e, h]
    · rw [if_neg e]
  · rw [if_neg h]
    have hl : (WalS.pieceN b i).length = 64 := by unfold WalS.pieceN; rw [List.length_take, List.length_drop]; omega
    obtain ⟨S', e1, w⟩ := K.write1 (by omega) (k := 16 + 4 * (n - 1) + i) (by omega) hl
    exact ⟨S', e1, w.kb, w.get⟩
theorem pieces4 {b : Bytes} (hb : b.length = 256) : WalS.pieceN b 0 ++ WalS.pieceN b 1 ++ WalS.pieceN b 2 ++ WalS.pieceN b 3 = b := by
  unfold WalS.pieceN
  apply List.ext_getElem?
  intro j
  simp only [List.getElem?_append, List.length_append, List.length_take, List.length_drop, hb, List.getElem?_take, List.getElem?_drop]
  by_cases h1 : j < 64
  · simp [h1, show j < 128 by omega, show j < 192 by omega]
  · by_cases h2 : j < 128
    · simp [h1, h2, show j < 192 by omega, show j - 64 < 64 by omega, show 64 + (j - 64) = j by omega]
    · by_cases h3 : j < 192
      · simp [h2, h3, show j - 128 < 64 by omega, show 128 + (j - 128) = j by omega]
      · by_cases h4 : j < 256
        · simp [h3, show j - 192 < 64 by omega, show 192 + (j - 192) = j by omega]
        · simp [h3, show ¬ j - 192 < 64 by omega, hb]
          omega
theorem save_ok (K : Kb S N g cc m) (hN : 400 ≤ N) (hm : m + 4 ≤ 111) (hn : 1 ≤ n ∧ n ≤ 64) {b : Bytes} (hb : b.length = 256) : ∃ S', S.save n b = (0, S') ∧ Kb S' N g cc (m + 4) ∧ S'.nodeB n = b ∧ ∀ j, j < 16 + 4 * (n - 1) ∨ 16 + 4 * (n - 1) + 4 ≤ j → S'.get j = S.get j := by
  obtain ⟨S1, e1, w1⟩ := saveP_ok K hN (by omega) hn hb (i := 0) (by omega)
  obtain ⟨S2, e2, w2⟩ := saveP_ok w1.kb hN (by omega) hn hb (i := 1) (by omega)
  obtain ⟨S3, e3, w3⟩ := saveP_ok w2.kb hN (by omega) hn hb (i := 2) (by omega)
  obtain ⟨S4, e4, w4⟩ := saveP_ok w3.kb hN (by omega) hn hb (i := 3) (by omega)
  refine ⟨S4, ?_, w4.kb, ?_, fun j hj => ?_⟩
  · show WalS.okS (S.saveP n b 0) (fun S => WalS.okS (S.saveP n b 1) (fun S => WalS.okS (S.saveP n b 2) (fun S => WalS.okS (S.saveP n b 3) (fun S => (0, S))))) = _
    rw [e1]
    have k0 : ∀ (S : WalS) (f : WalS → Int × WalS), WalS.okS (0, S) f = f S := fun _ _ => rfl
    rw [k0, e2, k0, e3, k0, e4, k0]
  · unfold WalS.nodeB
    rw [w4.get, w4.get, w4.get, w4.get, if_neg (by omega), if_neg (by omega), if_neg (by omega), if_pos rfl, w3.get, w3.get, w3.get, if_neg (by omega), if_neg (by omega), if_pos rfl, w2.get, w2.get, if_neg (by omega), if_pos rfl, w1.get, if_pos (by omega)]
    exact pieces4 hb
  · rw [w4.get, if_neg (by omega), w3.get, if_neg (by omega), w2.get, if_neg (by omega), w1.get, if_neg (by omega)]
end
end Go.Lz
/-
  A base, plain: which nodes it holds; Write.
-/
namespace Go.Lz
open Go.RowKit Go.Proofs.YtjngphffgdjcfaaGreatDoor
/-- A node, told. -/
structure NodeA where
  kind : Nat
  s : List Int
  i : List Int
  room : Nat
  data : Bytes
abbrev Nodes := Nat → Option NodeA
def cOf (A : Nodes) (n : Nat) : Nat := match A n with | none => 0 | some a => cntN a.data.length
def xOf (A : Nodes) (n x : Nat) : UInt8 := match A n with | none => 0 | some a => a.data.getD x 0
def onOf (A : Nodes) (n : Nat) : Bool := (A n).isSome
theorem cOf_some {A : Nodes} {n : Nat} {a : NodeA} (h : A n = some a) : cOf A n = cntN a.data.length := by unfold cOf; rw [h]
theorem cOf_none {A : Nodes} {n : Nat} (h : A n = none) : cOf A n = 0 := by unfold cOf; rw [h]
theorem xOf_some {A : Nodes} {n : Nat} {a : NodeA} (h : A n = some a) (x : Nat) : xOf A n x = a.data.getD x 0 := by unfold xOf; rw [h]
theorem cOf_upd (A : Nodes) (n : Nat) (a : NodeA) : cOf (upd A n (some a)) = upd (cOf A) n (cntN a.data.length) := by
  funext j
  unfold cOf
  by_cases e : j = n
  · subst e; rw [upd_same, upd_same]
  · rw [upd_other _ e, upd_other _ e]
theorem cOf_del (A : Nodes) (n : Nat) : cOf (upd A n none) = upd (cOf A) n 0 := by
  funext j
  unfold cOf
  by_cases e : j = n
  · subst e; rw [upd_same, upd_same]
  · rw [upd_other _ e, upd_other _ e]
theorem onOf_upd (A : Nodes) {n : Nat} {a a' : NodeA} (h : A n = some a) : onOf (upd A n (some a')) = onOf A := by
  funext j
  unfold onOf
  by_cases e : j = n
  · subst e; rw [upd_same, h]; rfl
  · rw [upd_other _ e]
def sumF (f : Nat → Nat) : Nat → Nat
  | 0 => 0
  | k + 1 => sumF f k + f k
theorem sumF_congr {f f' : Nat → Nat} {m : Nat} (h : ∀ k, k < m → f k = f' k) : sumF f m = sumF f' m := by
  induction m with
  | zero => rfl
  | succ m ih => unfold sumF; rw [ih (fun k hk => h k (by omega)), h m (by omega)]
theorem sumF_upd (f : Nat → Nat) {k m : Nat} (hk : k < m) (v : Nat) : sumF (upd f k v) m + f k = sumF f m + v := by
  induction m with
  | zero => omega
  | succ m ih =>
    unfold sumF
    by_cases e : m = k
    · subst e
      rw [sumF_congr (f' := f) (fun j hj => upd_other _ (by omega)), upd_same]
      omega
    · have := ih (by omega)
      rw [upd_other _ e]
      omega
theorem sumF_le (f : Nat → Nat) {k m : Nat} (hk : k < m) : f k ≤ sumF f m := by
  induction m with
  | zero => omega
  | succ m ih =>
    unfold sumF
    by_cases e : m = k
    · subst e; omega
    · have := ih (by omega)
      omega
/-- How many blocks all take. -/
def allOf (A : Nodes) : Nat := sumF (fun n => withN (cOf A n)) 65
/-- A node's bytes tell it. -/
structure NodeSays (b : Bytes) (a : NodeA) : Prop where
  ok : NodeOk b a.s a.i
  kind : (b.getD 0 0).toNat = a.kind
  room : nRoom b = a.room
  size : nSize b = a.data.length
/-- The base holds these nodes. -/
structure BaseP (S : WalS) (N : Nat) (g : Nat → Bytes) (cc m : Nat) (A : Nodes) : Prop where
  kb : Kb S N g cc m
  big : 400 ≤ N
  bit : ∀ n, 1 ≤ n → n ≤ 64 → S.bit 0 (n - 1) = (A n).isSome
  dom : ∀ n, (A n).isSome = true → 1 ≤ n ∧ n ≤ 64
  rdy : ∃ o, Ready S N (onOf A) S.nodeB (cOf A) o (xOf A)
  node : ∀ n a, A n = some a → NodeSays (S.nodeB n) a
  free : S.freeB + allOf A = N - 300

section
variable {S S1 : WalS} {N cc m n i k : Nat} {g : Nat → Bytes} {o : Owner} {on : Nat → Bool} {nb : Nat → Bytes} {c : Nat → Nat} {X : Nat → Nat → UInt8} {A : Nodes}
theorem withN_nl (n : Nat) : withN n = n + nlN n := rfl
theorem Ready.low {S' : WalS} (R : Ready S N on nb c o X) (hN : N ≤ 7892) (hg : ∀ j, (1 ≤ j ∧ j < 16) ∨ 300 ≤ j → S'.get j = S.get j) : Ready S' N on nb c o X := by
  have hl : ∀ n' j, j < nlN (c n') → S'.get (299 + ent (nb n') (32 + j)) = S.get (299 + ent (nb n') (32 + j)) := fun n' j hj => hg _ (by have := (R.lay.lst n' j hj).1; omega)
  have hb : ∀ n' i', i' < c n' → blkG S'.get (nb n') i' = blkG S.get (nb n') i' := fun n' i' hi' => R.lay.frame hl hi'
  refine ⟨R.lay.congrF hl, fun k h1 h2 => ?_, fun n' i' j hi' hj => ?_, R.len, R.zer⟩
  · have := R.bits k h1 h2
    unfold WalS.bit at this ⊢
    rw [hg _ (by omega)]
    exact this
  · rw [hb n' i' hi', hg _ (by have := (R.lay.blk n' i' hi').2.1; omega)]
    exact R.dat n' i' j hi' hj
theorem Ready.swap {nb' : Nat → Bytes} (R : Ready S N on nb c o X) (h1 : ∀ n, on n = true → nb' n = nb n) (h2 : ∀ n, on n = false → c n = 0) (h3 : ∀ n, (nb' n).length = 256) : Ready S N on nb' c o X := by
  have hc : ∀ n', 0 < c n' → nb' n' = nb n' := fun n' h => h1 n' (by
    cases e : on n' with
    | true => rfl
    | false => have := h2 n' e; omega)
  have hb : ∀ n' i', i' < c n' → blkG S.get (nb' n') i' = blkG S.get (nb n') i' := fun n' i' hi' => by rw [hc n' (by omega)]
  refine ⟨R.lay.congr hb (fun n' j hj => by
    rw [hc n' (Nat.pos_of_ne_zero fun e => ?_)]
    have h0 : nlN 0 = 0 := rfl
    rw [e, h0] at hj
    omega), R.bits, fun n' i' j hi' hj => by rw [hb n' i' hi']; exact R.dat n' i' j hi' hj, h3, fun n' hn' j h4 h5 => by rw [h1 n' hn']; exact R.zer n' hn' j h4 h5⟩

/-- A node grows. -/
theorem grow_ok {m' : Nat} (K : Kb S N g cc m) (R : Ready S N on nb c o X) (hN : 400 ≤ N) (hon : on n = true) (hc : c n = cntN (nSize (nb n))) (h1 : nSize (nb n) ≤ m') (h2 : m' ≤ 55296) (hX : ∀ x, 64 * c n ≤ x → X n x = 0) (hm : m + (cntN m' - c n) + (nlN (cntN m') - nlN (c n)) + 1 ≤ 111) :
    (S.freeB + withN (c n) < withN (cntN m') ∧ S.grow (nb n) m' = (60, nb n, S)) ∨
    ∃ b' S' o', S.grow (nb n) m' = (0, b', S') ∧ Kb S' N g cc (m + (cntN m' - c n) + (nlN (cntN m') - nlN (c n)) + 1) ∧ Ready S' N on (upd nb n b') (upd c n (cntN m')) o' X ∧
      (∀ x, x < 140 → (x < 3 ∨ 7 ≤ x) → b'.getD x 0 = (nb n).getD x 0) ∧ nSize b' = m' ∧ (∀ j, j = 0 ∨ (16 ≤ j ∧ j < 300) → S'.get j = S.get j) ∧
      (∀ x, c n ≤ x → x < cntN m' → Has S' (299 + blkG S'.get b' x)) ∧ S'.freeB + withN (cntN m') = S.freeB + withN (c n) ∧ S.freeB + withN (c n) ≥ withN (cntN m') := by
  have hcm : c n ≤ cntN m' := by rw [hc]; unfold cntN; omega
  have hnl := nlN_mono hcm
  have hw1 := withN_nl (c n)
  have hw2 := withN_nl (cntN m')
  by_cases hf : S.freeB + withN (c n) < withN (cntN m')
  · refine .inl ⟨hf, ?_⟩
    unfold WalS.grow
    rw [← hc, if_pos (by omega)]
  · have h8 : cntN m' ≤ 864 := by unfold cntN; omega
    have hd : c n + (cntN m' - c n) = cntN m' := by omega
    obtain ⟨b', S', o', e1, K1, R1, M1⟩ := growF_ok hN hon (cntN m' - c n) (e := 1) K R rfl (by omega) hX (by rw [hd]; omega) (by rw [hd]; omega) (.inr (.inr (.inr rfl)))
    rw [hd] at K1 R1
    have hl : b'.length = 256 := by have := R1.len n; rwa [upd_same] at this
    have R2 := R1.node (n := n) (b := setSizeB b' m') (by rw [setSizeB_length]; exact hl) (fun x _ => by rw [upd_same, ent_setSize])
    rw [upd_two] at R2
    have hfr := M1.free
    rw [hd] at hfr
    have hbl : ∀ x, blkG S'.get (setSizeB b' m') x = blkG S'.get b' x := fun x => by
      unfold blkG
      rw [ent_setSize, ent_setSize]
    refine .inr ⟨setSizeB b' m', S', o', ?_, K1, R2, fun x hx hx2 => ?_, nSize_set _ (by omega) (by omega), M1.low, fun x hx1 hx2 => ?_, by omega, by omega⟩
    · unfold WalS.grow
      rw [← hc, if_neg (by omega), okB_ok e1]
    · rw [← M1.hdr x hx]
      unfold setSizeB
      rw [put2_getD _ _ (by omega), put2_getD _ _ (by omega)]
    · rw [hbl]
      exact M1.fresh x hx1 (by omega)
end
end Go.Lz
/-
  A base, plain: Write.
-/
namespace Go.Lz
open Go.RowKit Go.Proofs.YtjngphffgdjcfaaGreatDoor
section
variable {S S1 : WalS} {N cc m n i k : Nat} {g : Nat → Bytes} {o : Owner} {on : Nat → Bool} {nb : Nat → Bytes} {c : Nat → Nat} {X : Nat → Nat → UInt8} {A : Nodes}
/-- What comes of bytes that are written at a place. -/
def wrB (data : Bytes) (at' : Nat) (p : Bytes) : Bytes := splice (data ++ List.replicate (at' + p.length - data.length) 0) at' p
theorem wrB_length (data : Bytes) (at' : Nat) (p : Bytes) : (wrB data at' p).length = max data.length (at' + p.length) := by
  unfold wrB
  rw [length_splice _ _ _ (by rw [List.length_append, List.length_replicate]; omega), List.length_append, List.length_replicate]
  omega
theorem pad_getD (data : Bytes) (k j : Nat) : (data ++ List.replicate k 0).getD j 0 = data.getD j 0 := by
  rw [List.getD_eq_getElem?_getD, List.getElem?_append, List.getD_eq_getElem?_getD]
  by_cases h : j < data.length
  · rw [if_pos h]
  · rw [if_neg h, List.getElem?_replicate, List.getElem?_eq_none (by omega)]
    split <;> rfl
theorem wrB_getD (data : Bytes) (at' : Nat) (p : Bytes) (j : Nat) : (wrB data at' p).getD j 0 = if at' ≤ j ∧ j < at' + p.length then p.getD (j - at') 0 else data.getD j 0 := by
  unfold wrB
  rw [splice_getD (by rw [List.length_append, List.length_replicate]; omega), pad_getD]
theorem freeB_low {S' : WalS} {m' : Nat} (K : Kb S N g cc m) (K' : Kb S' N g cc m') (h : ∀ j, 1 ≤ j → j < 16 → S'.get j = S.get j) : S'.freeB = S.freeB := by
  have hN := K.kp.n_le
  have e : cntI (S'.bit 1) (N - 300) = cntI (S.bit 1) (N - 300) := cntI_congr fun j hj => by
    unfold WalS.bit
    rw [h _ (by omega) (by omega)]
  rw [freeB_eq K', freeB_eq K, e]
theorem nodeB_same {S' : WalS} (h : ∀ j, 16 + 4 * (n - 1) ≤ j → j < 16 + 4 * (n - 1) + 4 → S'.get j = S.get j) : S'.nodeB n = S.nodeB n := by
  unfold WalS.nodeB
  rw [h _ (by omega) (by omega), h _ (by omega) (by omega), h _ (by omega) (by omega), h _ (by omega) (by omega)]
theorem nodeB_len (K : Kb S N g cc m) (n : Nat) : (S.nodeB n).length = 256 := by
  unfold WalS.nodeB
  rw [List.length_append, List.length_append, List.length_append, K.len, K.len, K.len, K.len]
theorem same_list {b b' : Bytes} {lo l : Nat} (hl : b'.length = b.length) (h : ∀ x, lo ≤ x → x < lo + l → b'.getD x 0 = b.getD x 0) : (b'.drop lo).take l = (b.drop lo).take l := by
  apply List.ext_getElem?
  intro j
  rw [List.getElem?_take, List.getElem?_take]
  by_cases e : j < l
  · rw [if_pos e, if_pos e, List.getElem?_drop, List.getElem?_drop]
    by_cases e2 : lo + j < b.length
    · have := h (lo + j) (by omega) (by omega)
      rw [List.getD_eq_getElem?_getD, List.getD_eq_getElem?_getD, List.getElem?_eq_getElem e2, List.getElem?_eq_getElem (by omega)] at this
      rw [List.getElem?_eq_getElem e2, List.getElem?_eq_getElem (by omega)]
      exact congrArg some this
    · rw [List.getElem?_eq_none (by omega), List.getElem?_eq_none (by omega)]
  · rw [if_neg e, if_neg e]
/-- A node's bytes but for its size. -/
theorem NodeSays.sized {b b' : Bytes} {a : NodeA} {d : Bytes} (h : NodeSays b a) (hl : b'.length = b.length) (hh : ∀ x, x < 140 → (x < 3 ∨ 7 ≤ x) → b'.getD x 0 = b.getD x 0) (hs : nSize b' = d.length) (hr : d.length ≤ 64 * a.room) : NodeSays b' { a with data := d } := by
  have hroom : nRoom b' = nRoom b := by
    unfold nRoom twoN
    rw [hh 1 (by omega) (by omega), hh 2 (by omega) (by omega)]
  have h0 : b'.getD 0 0 = b.getD 0 0 := hh 0 (by omega) (by omega)
  refine ⟨⟨h.ok.hs, h.ok.hi, ?_, by rw [h0]; exact h.ok.kind, by rw [hroom]; exact h.ok.room, ?_⟩, by rw [h0]; exact h.kind, by rw [hroom]; exact h.room, hs⟩
  · rw [same_list (b := b) hl (fun x h1 h2 => hh x (by omega) (by omega))]
    exact h.ok.code
  · rw [hs, hroom, h.room]
    exact hr
theorem BaseP.block_of (B : BaseP S N g cc m A) : ∃ o, Ready S N (onOf A) S.nodeB (cOf A) o (xOf A) := B.rdy
theorem xOf_write {a : NodeA} (ha : A n = some a) (at' : Nat) (p : Bytes) : xOf (upd A n (some { a with data := wrB a.data at' p })) = overX (xOf A) n at' p := by
  funext n' x
  unfold overX
  by_cases e : n' = n
  · subst e
    rw [xOf_some (upd_same _ _ _), xOf_some ha]
    show (wrB a.data at' p).getD x 0 = _
    rw [wrB_getD]
    by_cases h : at' ≤ x ∧ x < at' + p.length
    · rw [if_pos h, if_pos ⟨rfl, h⟩]
    · rw [if_neg h, if_neg (fun h' => h h'.2)]
  · rw [if_neg (fun h' => e h'.1)]
    unfold xOf
    rw [upd_other _ e]
theorem off_cOf (n : Nat) (h : onOf A n = false) : cOf A n = 0 := by
  refine cOf_none ?_
  unfold onOf at h
  cases e : A n with
  | none => rfl
  | some a => rw [e] at h; cases h
/-- A node was changed and saved. -/
theorem BaseP.saved {S2 : WalS} {m2 : Nat} {a d : NodeA} {b1 : Bytes} {o1 : Owner} (B : BaseP S N g cc m A) (ha : A n = some a) (K2 : Kb S2 N g cc m2) (R2 : Ready S2 N (onOf A) (upd S.nodeB n b1) (cOf (upd A n (some d))) o1 (xOf (upd A n (some d)))) (low : ∀ j, j = 0 ∨ (16 ≤ j ∧ j < 300) → S2.get j = S.get j) (hd : NodeSays b1 d) (hf : S2.freeB + withN (cntN d.data.length) = S.freeB + withN (cOf A n)) (hm : m2 + 4 ≤ 111) :
    ∃ S3, S2.save n b1 = (0, S3) ∧ BaseP S3 N g cc (m2 + 4) (upd A n (some d)) := by
  have hn := B.dom n (by rw [ha]; rfl)
  have hN := B.big
  have hN2 := B.kb.kp.n_le
  have hb1 : b1.length = 256 := by have := R2.len n; rwa [upd_same] at this
  obtain ⟨S3, e3, K3, n3, g3⟩ := save_ok K2 hN hm hn hb1
  have hoth : ∀ n', 1 ≤ n' → n' ≤ 64 → n' ≠ n → S3.nodeB n' = S.nodeB n' := fun n' h1 h2 h3 => nodeB_same fun j h4 h5 => by
    rw [g3 j (by omega), low j (by omega)]
  have h0 : S3.get 0 = S.get 0 := by rw [g3 0 (by omega), low 0 (by omega)]
  have hfr : S3.freeB = S2.freeB := freeB_low K2 K3 (fun j _ hj => g3 j (by omega))
  refine ⟨S3, e3, K3, hN, fun n' h1 h2 => ?_, fun n' h => ?_, ⟨o1, ?_⟩, fun n' a' h => ?_, ?_⟩
  · have := B.bit n' h1 h2
    unfold WalS.bit at this ⊢
    rw [show 0 + (n' - 1) / 512 = 0 by omega] at this ⊢
    rw [h0, this]
    by_cases e : n' = n
    · subst e; rw [upd_same, ha]; rfl
    · rw [upd_other _ e]
  · by_cases e : n' = n
    · subst e; exact hn
    · rw [upd_other _ e] at h; exact B.dom n' h
  · rw [onOf_upd A ha]
    refine (R2.low hN2 (fun j hj => g3 j (by omega))).swap (fun n' h => ?_) (fun n' h => off_cOf n' (by rw [onOf_upd A ha]; exact h)) (fun n' => nodeB_len K3 n')
    by_cases e : n' = n
    · subst e; rw [upd_same]; exact n3
    · rw [upd_other _ e]
      have := B.dom n' h
      exact hoth n' this.1 this.2 e
  · by_cases e : n' = n
    · subst e
      rw [upd_same] at h
      injection h with h
      subst h
      rw [n3]
      exact hd
    · rw [upd_other _ e] at h
      have := B.dom n' (by rw [h]; rfl)
      rw [hoth n' this.1 this.2 e]
      exact B.node n' a' h
  · have h1 := B.free
    have h2 : allOf (upd A n (some d)) + withN (cOf A n) = allOf A + withN (cntN d.data.length) := by
      unfold allOf
      have := sumF_upd (fun n => withN (cOf A n)) (k := n) (m := 65) (by omega) (withN (cntN d.data.length))
      have e : (fun n_1 => withN (cOf (upd A n (some d)) n_1)) = upd (fun n => withN (cOf A n)) n (withN (cntN d.data.length)) := by
        funext j
        rw [cOf_upd]
        by_cases e : j = n
        · subst e; rw [upd_same, upd_same]
        · rw [upd_other _ e, upd_other _ e]
      rw [e]
      exact this
    omega
end
end Go.Lz
