/-
  The texts IPlE IPlF, one behind the other.
-/
import Derived.Test.YtbnoebdpbpjbkaaGreatMP22
import Derived.Deep.Upon
/-
  A call of a script, Write: a copy of its bytes; what Write comes to.
-/
namespace Go.Proofs.YtbnoebdpbpjbkaaGreat
open Go.RowKit Go.Lz
/-- A row of bytes of the call's own. -/
def OwnCells (v : Value) (g : Nat) (cur : Array Value) (b : Bytes) : Prop := ∃ cap, v = .slice (some ⟨g, 0, none⟩) b.length cap ∧ b.length ≤ cap ∧ cap ≤ maxLen ∧ cur.size = cap ∧ cur.toList.take b.length = b.map u8v
theorem append_new {w : World} {G : Nat → Prop} {g n c : Nat} {ad : Option Addr} {data : Bytes} (hd : BytesAt w G (.slice ad n c) data) (hdl : data.length ≤ 1048576) (ty : TypeId) :
    ∃ v' w', (Builtin.append_ #[35, 35] ty #[.slice (some ⟨g, 0, none⟩) 0 0, .slice ad n c]).run Tryz.prog w = .ok v' w' ∧ Below w.heap.size w w' ∧
      ((data = [] ∧ v' = .slice (some ⟨g, 0, none⟩) 0 0) ∨ (data ≠ [] ∧ ∃ g' cur, OwnCells v' g' cur data ∧ w.heap.size ≤ g' ∧ w'.heap[g']? = some (.cells cur 5 (0, 0)))) := by
  have hinfo : (Tryz.prog.info? 5).map (fun i => (i.zero, i.size, i.bytes)) = some (some (.int .u8 0), 1, 1) := by kernel_rfl
  obtain ⟨i, hi, hz, hs, hby⟩ := info_parts hinfo
  obtain ⟨a', n', c', e1, hl, hn, hc⟩ := hd
  injection e1 with ea en ec
  subst ea en ec
  by_cases h0 : data = []
  · subst h0
    obtain rfl : n = 0 := by simpa using hl.symm
    have hsrc : _root_.Go.Src Tryz.prog i.size 35 (.slice ad 0 c) 0 [] w := by
      cases ad with
      | none => exact _root_.Go.Src.ofNil w Tryz.underlying35 c
      | some a => exact _root_.Go.Src.ofSlice w Tryz.underlying35 a 0 c [] (by simp) (fun j u hj => by simp at hj) (fun u hu => by cases hu)
    exact ⟨_, _, run_append_nothing w 35 35 ty 5 i Tryz.underlying35 hi (some ⟨g, 0, none⟩) 0 0 (Nat.le_refl _) (.slice ad 0 c) hsrc, Below.refl _ _, .inl ⟨rfl, rfl⟩⟩
  · have hpos : 0 < data.length := List.length_pos_iff.2 h0
    rcases hc with hc | ⟨b, off, rfl, hG, hb, hcell⟩
    · omega
    · obtain ⟨v', w', hrun, hown, hgr⟩ := run_append_arg_grows (P := Tryz.prog) w 35 ty 5 i _ 1 1 Tryz.underlying35 hi hz hs hby (by rfl) (by omega) ⟨g, 0, none⟩ 0 0 [] rfl (fun j u hu => by simp at hu) ⟨b, off, none⟩ n c (data.map u8v) (by rw [List.length_map]; omega) (fun j u hu => by
        have hj : j < data.length := by have := (List.getElem?_eq_some_iff.1 hu).1; simpa using this
        have : (⟨b, off, none⟩ : Addr).add j = ⟨b, off + j, none⟩ := by unfold Addr.add; split <;> simp_all
        rw [this, hcell j (by omega), ← hu]
        simp [List.getD, hj]) (by omega) (by unfold maxLen; omega) (by omega)
      rw [Nat.zero_add, List.nil_append] at hown
      have hB : Below w.heap.size w w' := ⟨hgr.os, hgr.tape, hgr.output, hgr.size, fun k hk => hgr.block k hk (by simp)⟩
      refine ⟨v', w', hrun, hB, .inr ⟨h0, ?_⟩⟩
      rcases hown.2 with ⟨_, h1⟩ | ⟨g', cap', cur, rfl, hb', hg', hnc, hcm, hcs, htk⟩
      · omega
      · exact ⟨g', cur, ⟨cap', by rw [hl], by omega, hcm, by omega, by rw [hl]; rw [Nat.mul_one] at htk; exact htk⟩, hb', hg'⟩
section
variable {w w0 : World} {p q pb pn pk N cc m bl : Nat} {L : Locals} {A A0 : Nodes} {lv : Nat → Value × Value} {data : Bytes}
def wrD (x : Bytes) (at' : Nat) (p : Bytes) : Bytes := if p = [] then x else wrB x at' p
/-- What Write comes to. -/
def WOut (A : Nodes) (z a : Int) (data : Bytes) (A' : Nodes) (m m' : Nat) (ev : Int) : Prop :=
  (atN A z = none ∧ ev = 61 ∧ A' = A ∧ m' = m) ∨ ∃ (n : Nat) (x : NodeA), z = n ∧ 1 ≤ n ∧ n ≤ 64 ∧ A n = some x ∧ atN A z = some x ∧
    ((a < 0 ∧ ev = 1 ∧ A' = A ∧ m' = m) ∨ ∃ at' : Nat, a = at' ∧
      ((64 * x.room < at' + data.length ∧ ev = 72 ∧ A' = A ∧ m' = m) ∨ (at' + data.length ≤ 64 * x.room ∧
        ((6144 < at' + data.length - min at' x.data.length ∧ (ev = 5 ∨ data = [] ∧ ev = 0) ∧ A' = A ∧ m' = m) ∨
         (at' + data.length - min at' x.data.length ≤ 6144 ∧ ev = 0 ∧ A' = upd A n (some { x with data := wrD x.data at' data }) ∧ m' ≤ m + 106)))))
theorem upd_idA {n : Nat} {x : NodeA} (ha : A n = some x) : upd A n (some x) = A := by
  funext k
  by_cases e : k = n
  · subst e; rw [upd_same, ha]
  · rw [upd_other _ e]
theorem write_out {W : World} {z a : Int} {ad : Option Addr} {cp : Nat} {G : Nat → Prop} (hO : Own w0 W (TB p q 600 A A0 cc m) L) (hL : BaseL L pb p pn pk 600) (hF : Fine w0 A lv) (hdl : data.length ≤ 1048576) (hv : data ≠ [] → Go.Lz.Src 5 W G (.slice ad data.length cp) data) (hG : ∀ k, G k → Mine w0 L k) (hm : m ≤ 5) (hh : heavyN A 65 + data.length / 64 ≤ 100) :
    ∃ A' m' ev, Calls Tryz.prog 11 #[Dptr pb, .int .i64 z, .int .i64 a, .slice ad data.length cp] W (Did w0 W (TB p q 600 A' A0 cc m') L (.int .i64 ev)) ∧ WOut A z a data A' m m' ev := by
  have hml : data.length ≤ maxLen := by unfold maxLen; omega
  cases hat : atN A z with
  | none => exact ⟨A, m, 61, write6_none hO hL rfl hv hG hml (atN_none hF hat), .inl ⟨hat, rfl, rfl, rfl⟩⟩
  | some x =>
    obtain ⟨n, rfl, h1, h2, ha⟩ := atN_some hat
    have key : ∀ {A' m' ev}, Calls Tryz.prog 11 #[Dptr pb, .int .i64 (n : Int), .int .i64 a, .slice ad data.length cp] W (Did w0 W (TB p q 600 A' A0 cc m') L (.int .i64 ev)) →
        ((a < 0 ∧ ev = 1 ∧ A' = A ∧ m' = m) ∨ ∃ at' : Nat, a = at' ∧
      ((64 * x.room < at' + data.length ∧ ev = 72 ∧ A' = A ∧ m' = m) ∨ (at' + data.length ≤ 64 * x.room ∧
        ((6144 < at' + data.length - min at' x.data.length ∧ (ev = 5 ∨ data = [] ∧ ev = 0) ∧ A' = A ∧ m' = m) ∨
         (at' + data.length - min at' x.data.length ≤ 6144 ∧ ev = 0 ∧ A' = upd A n (some { x with data := wrD x.data at' data }) ∧ m' ≤ m + 106))))) →
        ∃ A' m' ev, Calls Tryz.prog 11 #[Dptr pb, .int .i64 (n : Int), .int .i64 a, .slice ad data.length cp] W (Did w0 W (TB p q 600 A' A0 cc m') L (.int .i64 ev)) ∧ WOut A n a data A' m m' ev := fun c o => ⟨_, _, _, c, .inr ⟨n, x, rfl, h1, h2, ha, hat, o⟩⟩
    by_cases hneg : a < 0
    · exact key (write6_neg hO hL rfl hv hG hml ha hneg) (.inl ⟨hneg, rfl, rfl, rfl⟩)
    · obtain ⟨at', rfl⟩ : ∃ at' : Nat, a = at' := ⟨a.toNat, by omega⟩
      by_cases hr : 64 * x.room < at' + data.length
      · exact key (write6_room hO hL rfl hv hG hml ha (.inr hr)) (.inr ⟨at', rfl, .inl ⟨hr, rfl, rfl, rfl⟩⟩)
      · have hr' : at' + data.length ≤ 64 * x.room := by omega
        by_cases h0 : data = []
        · have hl0 : data.length = 0 := by rw [h0]; rfl
          have cE := write6_empty (ad := ad) (cp := cp) (Ln := data.length) hO hL hl0 ha (by omega : at' ≤ 64 * x.room)
          by_cases hb : 6144 < at' + data.length - min at' x.data.length
          · exact key cE (.inr ⟨at', rfl, .inr ⟨hr', .inl ⟨hb, .inr ⟨h0, rfl⟩, rfl, rfl⟩⟩⟩)
          · have e : upd A n (some { x with data := wrD x.data at' data }) = A := by
              unfold wrD
              rw [if_pos h0]
              exact upd_idA ha
            exact key cE (.inr ⟨at', rfl, .inr ⟨hr', .inr ⟨by omega, rfl, e.symm, by omega⟩⟩⟩)
        · by_cases hb : 6144 < at' + data.length - min at' x.data.length
          · exact key (write6_big hO hL rfl hv hG hml ha hr' h0 hb) (.inr ⟨at', rfl, .inr ⟨hr', .inl ⟨hb, .inl rfl, rfl, rfl⟩⟩⟩)
          · have hb' : at' + data.length - min at' x.data.length ≤ 6144 := by omega
            have cW := write6_fit hO hL rfl hv hG hml ha hr' h0 hb' hm (fit_of ha h2 hh hb' rfl)
            exact key cW (.inr ⟨at', rfl, .inr ⟨hr', .inr ⟨hb', rfl, by unfold wrD; rw [if_neg h0], Nat.le_refl _⟩⟩⟩)
end
end Go.Proofs.YtbnoebdpbpjbkaaGreat
/-
  A call of a script, done to both: Write.
-/
namespace Go.Proofs.YtbnoebdpbpjbkaaGreat
open Go.RowKit Go.Lz
section
variable {w w0 : World} {p q pb pn pk N cc m bl : Nat} {L : Locals} {A A0 : Nodes} {lv : Nat → Value × Value}
section
variable {data : Bytes}
def U8b (n : Nat) (cur : Array Value) : Prop := ∀ i, i < n → ∃ y : Int, cur[i]? = some (.int .u8 y)
theorem U8b.set {n : Nat} {cur : Array Value} (h : U8b n cur) (k : Nat) (y : Int) : U8b n (cur.setIfInBounds k (.int .u8 y)) := by
  intro i hi
  obtain ⟨z, hz⟩ := h i hi
  rw [Array.getElem?_setIfInBounds]
  by_cases e : k = i
  · subst e
    rw [if_pos rfl, if_pos (Array.getElem?_eq_some_iff.1 hz).1]
    exact ⟨y, rfl⟩
  · rw [if_neg e]
    exact ⟨z, hz⟩
theorem U8b.of {cur : Array Value} {b : Bytes} (h : cur.toList.take b.length = b.map u8v) : U8b b.length cur := by
  intro i hi
  have h1 : (cur.toList.take b.length)[i]? = some (u8v b[i]) := by rw [h, List.getElem?_map, List.getElem?_eq_getElem hi]; rfl
  rw [List.getElem?_take, if_pos hi] at h1
  exact ⟨_, by rw [← Array.getElem?_toList]; exact h1⟩
/-- The copy's row, as long as there are bytes. -/
def Incs (L : Locals) (g : Nat) (data : Bytes) : Prop := data = [] ∨ ∃ cur, L g = some (.cells cur 5 (0, 0)) ∧ U8b data.length cur
theorem copy_state {T : World → (Nat → Prop) → Prop} {w4 : World} {L3 : Locals} {g : Nat} {v' : Value} (h3 : Own w0 w T L3) (hk : Keeps T) (hB : Below w.heap.size w w4)
    (hv : (data = [] ∧ v' = .slice (some ⟨g, 0, none⟩) 0 0) ∨ (data ≠ [] ∧ ∃ g' cur, OwnCells v' g' cur data ∧ w.heap.size ≤ g' ∧ w4.heap[g']? = some (.cells cur 5 (0, 0)))) :
    ∃ g' cp' L4 G', v' = .slice (some ⟨g', 0, none⟩) data.length cp' ∧ Own w0 w4 T L4 ∧ LocIn L3 L4 ∧ (data ≠ [] → Go.Lz.Src 5 w4 G' v' data) ∧ (∀ k, G' k → Mine w0 L4 k) ∧ Incs L4 g' data ∧ (data ≠ [] → L3 g' = none) := by
  rcases hv with ⟨rfl, rfl⟩ | ⟨hne, g', cur, ⟨cap, rfl, hc1, hc2, hc3, hc4⟩, hg, hg'⟩
  · exact ⟨g, 0, L3, fun _ => False, rfl, h3.below hk hB, LocIn.refl _, fun h => absurd rfl h, fun k h => h.elim, .inl rfl, fun h => absurd rfl h⟩
  · have hn := h3.none_ hg
    have hO := h3.local_ hk hB hg hg'
    refine ⟨g', cap, _, (· = g'), rfl, hO, LocIn.upd_ hn, fun _ => ⟨g', 0, cap, cur, (0, 0), rfl, rfl, hg', hc1, hc2, fun j u hj => ?_⟩, fun k hk => ?_, .inr ⟨cur, upd_same _ _ _, U8b.of hc4⟩, fun _ => hn⟩
    · have hjl : j < data.length := by have := (List.getElem?_eq_some_iff.1 hj).1; simpa using this
      rw [Nat.zero_add, cell_of hg', ← Array.getElem?_toList]
      have h1 : (cur.toList.take data.length)[j]? = some u := by rw [hc4]; exact hj
      rwa [List.getElem?_take, if_pos hjl] at h1
    · subst hk
      exact .inr ⟨_, upd_same _ _ _⟩
set_option maxRecDepth 100000 in
theorem bytes_string {w' : World} {G : Nat → Prop} {n c : Nat} {ad : Option Addr} (h : BytesAt w G (.slice ad n c) data) (hb : Below w.heap.size w w') : (convert 35 9 (.slice ad n c)).run Tryz.prog w' = .ok (.string ⟨data.toArray⟩) w' := by
  obtain ⟨a', n', c', e1, hl, hn, hc⟩ := h
  injection e1 with ea en ec
  subst ea en ec
  subst hl
  rcases hc with h0 | ⟨b, off, rfl, _, hlt, hcell⟩
  · obtain rfl : data = [] := List.length_eq_zero_iff.1 h0
    cases ad with
    | none => exact Lib.run_convert_nil_bytes w' 35 9 5 c Tryz.underlying35 Tryz.underlying5 Tryz.underlying9
    | some a => exact run_convert_bytes_back (P := Tryz.prog) w' 35 9 5 a c [] Tryz.underlying35 Tryz.underlying5 Tryz.underlying9 (fun i hi => absurd hi (Nat.not_lt_zero _))
  · refine run_convert_bytes_back (P := Tryz.prog) w' 35 9 5 ⟨b, off, none⟩ c data Tryz.underlying35 Tryz.underlying5 Tryz.underlying9 (fun i hi => ?_)
    rw [show (⟨b, off, none⟩ : Addr).add i = ⟨b, off + i, none⟩ from by unfold Addr.add; split <;> simp_all, hb.cell (p := ⟨b, off + i, none⟩) hlt, hcell i hi]
    simp [List.getD, hi, u8v]
theorem wrD_len {x : Bytes} {at' R : Nat} (h1 : at' + data.length ≤ R) (h2 : x.length ≤ R) : (wrD x at' data).length ≤ R := by
  unfold wrD wrB
  split
  · exact h2
  · rw [length_splice _ _ _ (by rw [List.length_append, List.length_replicate]; omega), List.length_append, List.length_replicate]
    omega
end
set_option maxRecDepth 100000 in
set_option maxHeartbeats 4000000 in
theorem do_write {z a b : Int} {vs vi vd : Value} {s i : List Int} {data : Bytes} (h : Own w0 w (TB p q 600 A A0 cc m) L) (hL : BaseL L pb p pn pk 600) (hb : L bl = some (lstO A lv)) (hF : Fine w0 A lv) (hV : OpV w0 (fun _ => True) vs vi vd ⟨2, z, a, b, s, i, data⟩) (hm : m ≤ 5) (hdl : data.length ≤ 1048576) (hh : heavyN A 65 + data.length / 64 ≤ 100) :
    Calls Tryz.prog 22 #[Dptr pb, .pointer (some ⟨bl, 0, none⟩), .agg #[.int .i64 2, .int .i64 z, .int .i64 a, .int .i64 b, vs, vi, vd]] w (DoDid w0 p q cc m bl L A0 2) := by
  have hVs := IntsAt.form hV.s
  have hVi := IntsAt.form hV.i
  have hVd := BytesAt.form hV.d
  obtain ⟨ax, cs, rfl⟩ := hVs
  obtain ⟨ai, ci, rfl⟩ := hVi
  obtain ⟨ad, cd, rfl⟩ := hVd
  have hn := h.none_ (Nat.le_refl w.heap.size)
  have hnz0 := h.none_ (show w.heap.size ≤ w.heap.size + 1 by omega)
  obtain ⟨bo, hbo⟩ : ∃ bo, bo = w.heap.size := ⟨_, rfl⟩
  obtain ⟨O, hOe⟩ : ∃ O, O = opO 2 z a b (.slice ax s.length cs) (.slice ai i.length ci) (.slice ad data.length cd) := ⟨_, rfl⟩
  obtain ⟨Z, hZe⟩ : ∃ Z, Z = nodeO none (lv z.toNat) := ⟨_, rfl⟩
  have hO1 := own_new6 h (keepsTB _ _ _ _ _ _ _) O
  have hL1 := hL.upd_ (o := O) hn
  have hn1 := hO1.none_ (Nat.le_refl _)
  have s1 : (w.alloc O).heap.size = bo + 1 := by rw [hbo]; simp
  have hO2 := own_new6 hO1 (keepsTB _ _ _ _ _ _ _) Z
  have hL2 := hL1.upd_ (o := Z) hn1
  have iL1 : LocIn L (upd L w.heap.size (some O)) := LocIn.upd_ hn
  have iL2 := iL1.trans (LocIn.upd_ (g := (w.alloc O).heap.size) (o := Z) hn1)
  rw [s1, ← hbo] at hO2 hL2 iL2
  rw [s1, ← hbo] at hn1
  rw [← hbo] at hn hnz0
  obtain ⟨L2, hL2e⟩ : ∃ L2, L2 = upd (upd L bo (some O)) (bo + 1) (some Z) := ⟨_, rfl⟩
  rw [← hL2e] at hO2 hL2 iL2
  have kO : L2 bo = some O := by rw [hL2e, upd_other _ (by omega), upd_same]
  have kZ : L2 (bo + 1) = some Z := by rw [hL2e, upd_same]
  have hbL : L2 bl = some (lstO A lv) := iL2 _ _ hb
  have hlt := h.loc_lt hb
  have ne1 : bl ≠ bo := by omega
  have ne2 : bl ≠ bo + 1 := by omega
  have hOeH : Hid _ := Lib.hid hOe
  have hZeH : Hid _ := Lib.hid hZe
  have hboH : Hid _ := Lib.hid hbo
  clear hL2e hO1 hL1 iL1 s1 hn1 hlt hbo
  go_enter Tryz.func22, Tryz.ntmps22
  go_upto_region 3 with fail
  have hW : (w.alloc (.cells #[.int .i64 2, .int .i64 z, .int .i64 a, .int .i64 b, .slice ax s.length cs, .slice ai i.length ci, .slice ad data.length cd] 56)).alloc (.cells #[.bool false, .int .i64 0, .int .i64 0, .slice none 0 0, .slice none 0 0, .string ⟨#[]⟩] 53) = (w.alloc O).alloc Z := by rw [hOeH.out, hZeH.out]; rfl
  rw [hW, ← hboH.out]
  clear hW
  generalize (w.alloc O).alloc Z = W2 at *
  go_cut [28] from 23 to 28 (fun v wx => v = .bool (decide (1 ≤ z ∧ z ≤ 64)) ∧ wx = W2)
  case first =>
    by_cases h1 : 1 ≤ z
    · by_cases h2 : z ≤ 64
      · go_wp2_with fail
        go_meet
        case rel => exact ⟨by rw [decide_eq_true (by omega : 1 ≤ z ∧ z ≤ 64)], rfl⟩
      · go_wp2_with fail
        go_meet
        case rel => exact ⟨by rw [decide_eq_false (by omega : ¬ (1 ≤ z ∧ z ≤ 64))], rfl⟩
    · go_wp2_with fail
      go_meet
      case rel => exact ⟨by rw [decide_eq_false (by omega : ¬ (1 ≤ z ∧ z ≤ 64))], rfl⟩
  case rest =>
  obtain ⟨rfl, rfl⟩ := hcut
  rename World => wc
  go_upto_if 28 with fail
  go_cut [28] from 29 to 33 (fun _ wx => Own w0 wx (TB p q 600 A A0 cc m) (upd L2 (bo + 1) (some (nodeO (atN A z) (lv z.toNat)))))
  case first =>
    by_cases hz : 1 ≤ z ∧ z ≤ 64
    · rw [decide_eq_true hz]
      have hat : atN A z = A z.toNat := if_pos hz
      obtain ⟨n, rfl, hn64⟩ : ∃ n : Nat, z = n ∧ n ≤ 64 := ⟨z.toNat, by omega, by omega⟩
      rw [Int.toNat_natCast] at hat hZeH
      have hwL := hO2.loc hbL
      have hwZ := hO2.loc kZ
      rw [hZeH.out] at hwZ
      have q0 : wc.cell? ⟨bl, n * 6, none⟩ = some (lnodeC (A n) (lv n) 0) := lst_cell (c := 0) hwL hn64 (by omega)
      have q1 := lst_cell (c := 1) hwL hn64 (by omega)
      have q2 := lst_cell (c := 2) hwL hn64 (by omega)
      have q3 := lst_cell (c := 3) hwL hn64 (by omega)
      have q4 := lst_cell (c := 4) hwL hn64 (by omega)
      have q5 := lst_cell (c := 5) hwL hn64 (by omega)
      have n65 : n < 65 := by omega
      have z0 := node_cell (c := 0) hwZ (by omega)
      have f0 := frozen_of hwZ 0
      have z1 := node_cell (c := 1) hwZ (by omega)
      have f1 := frozen_of hwZ 1
      have z2 := node_cell (c := 2) hwZ (by omega)
      have f2 := frozen_of hwZ 2
      have z3 := node_cell (c := 3) hwZ (by omega)
      have f3 := frozen_of hwZ 3
      have z4 := node_cell (c := 4) hwZ (by omega)
      have f4 := frozen_of hwZ 4
      have z5 := node_cell (c := 5) hwZ (by omega)
      have f5 := frozen_of hwZ 5
      have hres := own_node (o' := A n) (l' := lv n) hO2 (keepsTB _ _ _ _ _ _ _) (by rw [← hZeH.out]; exact kZ)
      have hresH : Hid _ := Lib.hid hres
      clear hres hwL hwZ
      cases hA : A n with
      | none =>
        rw [hA] at q0 q1 q2 q3 q4 q5
        dsimp only [lnodeC] at q0 q1 q2 q3 q4 q5 z0 z1 z2 z3 z4 z5
        go_wp2_with fail
        go_meet
        case rel =>
          have := hresH.out
          rw [hA] at this
          rw [hat, hA]
          exact this
      | some x =>
        obtain ⟨a1, c1, e1⟩ := IntsAt.form (hF.lbl n x hA).1
        obtain ⟨a2, c2, e2⟩ := IntsAt.form (hF.lbl n x hA).2
        rw [hA] at q0 q1 q2 q3 q4 q5
        dsimp only [lnodeC] at q0 q1 q2 q3 q4 q5 z0 z1 z2 z3 z4 z5
        rw [e1] at q3
        rw [e2] at q4
        go_wp2_with fail
        go_meet
        case rel =>
          have := hresH.out
          rw [hA] at this
          dsimp only [lnodeC] at this
          rw [e1, e2] at this
          rw [hat, hA]
          exact this
    · rw [decide_eq_false hz]
      have hat : atN A z = none := if_neg hz
      go_wp2_with fail
      go_meet
      case rel =>
        rw [hat, ← hZeH.out, upd_id kZ]
        exact hO2
  case rest =>
  rename World => wx
  obtain ⟨L3, hL3e⟩ : ∃ L3, L3 = upd L2 (bo + 1) (some (nodeO (atN A z) (lv z.toNat))) := ⟨_, rfl⟩
  rw [← hL3e] at hcut
  have i3 : LocIn L L3 := fun b o hb' => by
    have ne : b ≠ bo + 1 := fun e => by rw [e, hnz0] at hb'; cases hb'
    rw [hL3e, upd_other _ ne]
    exact iL2 b o hb'
  have kN : L3 (bo + 1) = some (nodeO (atN A z) (lv z.toNat)) := by rw [hL3e, upd_same]
  have kO3 : L3 bo = some O := by rw [hL3e, upd_other _ (by omega)]; exact kO
  have kL3 : L3 bl = some (lstO A lv) := i3 _ _ hb
  have hL3 := hL.mono i3
  rw [hOeH.out] at kO3
  obtain ⟨o0, o1, o2, o3, o4, o5, o6⟩ := op_cells (hcut.loc kO3)
  clear hL3e hL2 hO2 iL2 kO kZ hbL hOeH hZeH hOe hZe O Z hn hnz0 h hboH
  have hW4 := hcut.below (keepsTB _ _ _ _ _ _ _) ((Below.refl _ wx).alloc (Nat.le_refl _) (.cells #[] 5))
  have hDx := hV.d.below hW4.base
  obtain ⟨v', w4, hrun, hB4, hvv⟩ := append_new (g := wx.heap.size) hDx hdl 35
  obtain ⟨g', cp', L4, G', rfl, hO4, i4, hsrc, hG', hinc, hg3⟩ := copy_state hW4 (keepsTB _ _ _ _ _ _ _) hB4 hvv
  obtain ⟨A', m', ev, cF, hout⟩ := write_out (z := z) (a := a) hO4 (hL3.mono i4) hF hdl hsrc hG' hm hh
  have hrunH : Hid _ := Lib.hid hrun
  obtain ⟨_, _, _, _, _, _, c6⟩ := op_cells (hW4.loc kO3)
  obtain ⟨_, _, p2, _, _, _, p6⟩ := op_cells (hO4.loc (i4 _ _ kO3))
  have houtH : Hid _ := Lib.hid hout
  clear hrun hDx hW4 hB4 hvv hsrc hG' hout hO4 hh hcut
  go_upto_region 24 with fail
  go_step
  go_step
  go_step
  go_step
  go_step
  go_step
  go_step
  go_step
  go_step
  go_step
  refine wpList_append_run rfl _ _ 35 rfl rfl rfl hrunH.out ?_
  go_frame
  clear c6 o0 o1 o2 o3 o4 o5 o6 hrunH
  go_upto_region 26 with (go_at_call 11; refine cF.mono ?_; rintro e w5 ⟨rfl, hO5, hs5⟩)
  clear cF p2 p6
  have hO5H : Hid _ := Lib.hid hO5
  have hincH : Hid _ := Lib.hid hinc
  clear hO5 hinc
  go_wp2_with fail
  go_loopg [15, 142, 143, 144, 145, 146, 147, 148, 149, 150, 151, 152, 153] data.length (fun g iv _ _ _ _ _ _ _ _ _ _ _ _ wr => ∃ j : Nat, j + g = data.length ∧ iv = .int .i64 (j : Int) ∧ ∃ L5, Own w0 wr (TB p q 600 A' A0 cc m') L5 ∧ LocIn L3 L5 ∧ Incs L5 g' data)
  case atStart => exact ⟨0, by omega, rfl, L4, hO5H.out, i4, hincH.out⟩
  case round =>
    obtain ⟨j, hj, rfl, L5, hO6, i5, hin⟩ := hrel
    rename World => wr
    clear hO5H hincH i4
    by_cases hjl : j < data.length
    · have hjz : (j : Int) < (data.length : Int) := by omega
      have hne : data ≠ [] := fun e => by rw [e] at hjl; exact absurd hjl (Nat.not_lt_zero _)
      obtain ⟨cur, hcur, hU⟩ := hin.resolve_left hne
      obtain ⟨y, hy⟩ := hU j hjl
      have hog := hO6.loc hcur
      have cy := (cell_of hog j).trans hy
      have fy := frozen_of hog j
      have hput := Own.put hO6 (keepsTB _ _ _ _ _ _ _) hcur j (.int .u8 (IntKind.u8.wrap (y + 1)))
      have hi6 : LocIn L3 (upd L5 g' (some (.cells (cur.setIfInBounds j (.int .u8 (IntKind.u8.wrap (y + 1)))) 5 (0, 0)))) := fun b o hb => by
        have ne : b ≠ g' := fun e => by rw [e, hg3 hne] at hb; cases hb
        rw [upd_other _ ne]
        exact i5 b o hb
      have hputH : Hid _ := Lib.hid hput
      have hi6H : Hid _ := Lib.hid hi6
      have hUH : Hid _ := Lib.hid hU
      have hjH : Hid _ := Lib.hid hj
      have hjlH : Hid _ := Lib.hid hjl
      have hg3H : Hid _ := Lib.hid hg3
      clear hput hi6 hU hj hO6 hy hog hcur hin hne hg3 i5 houtH
      go_wp2_with fail
      go_roundg (gk - 1)
      case measure => have := hjH.out; have := hjlH.out; omega
      case rel =>
        have := hjH.out
        have := hjlH.out
        exact ⟨j + 1, by omega, by go_num, _, hputH.out, hi6H.out, .inr ⟨_, upd_same _ _ _, hUH.out.set j _⟩⟩
    · have hjz : ¬ (j : Int) < (data.length : Int) := by omega
      have hn5 := hO6.loc (i5 _ _ kN)
      have y0 := node_cell (c := 0) hn5 (by omega)
      have hres : ∀ w' : World, Below wr.heap.size wr w' → A' = A → Own w0 w' (TB p q 600 A A0 cc m') (upd L bl (some (lstO A lv))) := fun w' hb' e => by
        rw [e] at hO6
        exact own_same (hO6.below (keepsTB _ _ _ _ _ _ _) hb') (i3.trans i5) hb
      have hresH : Hid _ := Lib.hid hres
      have hjlH : Hid _ := Lib.hid hjl
      clear hres hj hin hjl hg3
      rcases houtH.out with ⟨hat, rfl, rfl, rfl⟩ | ⟨n, x, rfl, hn1, hn64, ha, hat, hout⟩
      · rw [hat] at y0
        dsimp only [lnodeC] at y0
        clear houtH hO6
        go_wp2_with fail
        go_ret
        exact ⟨rfl, A', lv, m', hresH.out _ (Below.refl _ _) trivial, hF, by omega, fun h => by omega⟩
      · have y2 := node_cell (c := 2) hn5 (by omega)
        have y5 := node_cell (c := 5) hn5 (by omega)
        rw [hat] at y0 y2 y5
        dsimp only [lnodeC] at y0 y2 y5
        obtain ⟨_, _, p2, _, _, _, p6⟩ := op_cells (hO6.loc (i5 _ _ kO3))
        have hxr := hF.room n x ha
        clear houtH
        rcases hout with ⟨hneg, rfl, rfl, rfl⟩ | ⟨at', rfl, ⟨hroom, rfl, rfl, rfl⟩ | ⟨hr, hout⟩⟩
        · clear hO6
          go_wp2_with fail
          go_ret
          exact ⟨rfl, A', lv, m', hresH.out _ (Below.refl _ _) trivial, hF, by omega, fun h => by omega⟩
        · clear hO6
          by_cases h1 : 64 * x.room < at'
          · have h1z : 64 * (x.room : Int) < (at' : Int) := by omega
            go_wp2_with fail
            go_ret
            exact ⟨rfl, A', lv, m', hresH.out _ (Below.refl _ _) trivial, hF, by omega, fun h => by omega⟩
          · have h1z : ¬ 64 * (x.room : Int) < (at' : Int) := by omega
            have h2z : 64 * (x.room : Int) - (at' : Int) < (data.length : Int) := by omega
            go_wp2_with fail
            go_ret
            exact ⟨rfl, A', lv, m', hresH.out _ (Below.refl _ _) trivial, hF, by omega, fun h => by omega⟩
        · have h1z : ¬ 64 * (x.room : Int) < (at' : Int) := by omega
          have h2z : ¬ 64 * (x.room : Int) - (at' : Int) < (data.length : Int) := by omega
          obtain ⟨fr, hfr⟩ : ∃ fr, fr = min at' x.data.length := ⟨_, rfl⟩
          have hmin1 : min (at' : Int) (x.data.length : Int) = (fr : Int) := by omega
          rw [← hfr] at hout
          have hfrl : fr ≤ at' := by omega
          clear hfr
          rcases hout with ⟨hbig, hev, rfl, rfl⟩ | ⟨hsm, rfl, rfl, hm'⟩
          · have h3z : 6144 < (at' : Int) + (data.length : Int) - (fr : Int) := by omega
            clear hO6
            rcases hev with rfl | ⟨h0, rfl⟩
            · go_wp2_with fail
              go_ret
              exact ⟨rfl, A', lv, m', hresH.out _ (Below.refl _ _) trivial, hF, by omega, fun h => by omega⟩
            · have hl0 : data.length = 0 := by rw [h0]; rfl
              have hl0z : (data.length : Int) = 0 := by omega
              clear h0
              go_wp2_with fail
              go_ret
              exact ⟨rfl, A', lv, m', hresH.out _ (Below.refl _ _) trivial, hF, by omega, fun h => by omega⟩
          · have h3z : ¬ 6144 < (at' : Int) + (data.length : Int) - (fr : Int) := by omega
            have hD6 := hV.d.below hO6.base
            have hst : (convert 35 9 (.slice ad data.length cd)).run Tryz.prog wr.drew = .ok (.string ⟨data.toArray⟩) wr.drew := bytes_string hD6 (Below.refl _ _).drew
            have cL : Calls Tryz.prog 58 #[.string ⟨x.data.toArray⟩, .int .i64 (at' : Int), .string ⟨data.toArray⟩] wr.drew fun e w' => e = .returned (.string ⟨(wrD x.data at' data).toArray⟩) ∧ Below wr.drew.heap.size wr.drew w' := lwrite_any wr.drew (s := x.data) (p := data) (at' := at') (by omega) (by omega)
            have hwl := wrD_len (data := data) hr hxr.2
            have hwL := hO6.loc (i5 _ _ kL3)
            have n65 : n < 65 := by omega
            have hfin : ∀ w' : World, Below wr.heap.size wr w' → Own w0 (w'.setCell ⟨bl, n * 6 + 5, none⟩ (.string ⟨(wrD x.data at' data).toArray⟩)) (TB p q 600 (upd A n (some { x with data := wrD x.data at' data })) A0 cc m') (upd L bl (some (lstO (upd A n (some { x with data := wrD x.data at' data })) lv))) := fun w' hb' =>
              own_back (own_data (n := n) (hO6.below (keepsTB _ _ _ _ _ _ _) hb') (keepsTB _ _ _ _ _ _ _) (i5 _ _ kL3) ha _) (i3.trans i5)
            have hfinH : Hid _ := Lib.hid hfin
            have hcellL : ∀ w' : World, Below wr.heap.size wr w' → w'.cell? ⟨bl, n * 6 + 5, none⟩ = some (lnodeC (A n) (lv n) 5) ∧ w'.frozen? ⟨bl, n * 6 + 5, none⟩ = false := fun w' hb' => by
              have hw' := (hb'.block bl (lt_of_heap hwL)).trans hwL
              exact ⟨lst_cell (c := 5) hw' hn64 (by omega), lst_froz hw' _⟩
            have hS0 : wr.drew.cell? ⟨bo + 1, 5, none⟩ = some (.string ⟨x.data.toArray⟩) ∧ wr.drew.cell? ⟨bo, 2, none⟩ = some (.int .i64 (at' : Int)) ∧ wr.drew.cell? ⟨bo, 6, none⟩ = some (.slice ad data.length cd) ∧ (convert 35 9 (.slice ad data.length cd)).run Tryz.prog wr.drew = .ok (.string ⟨data.toArray⟩) wr.drew := ⟨y5, p2, p6, hst⟩
            have hSb : ∀ w' : World, Below wr.drew.heap.size wr.drew w' → w'.cell? ⟨bo + 1, 5, none⟩ = some (.string ⟨x.data.toArray⟩) ∧ w'.cell? ⟨bo, 2, none⟩ = some (.int .i64 (at' : Int)) ∧ w'.cell? ⟨bo, 6, none⟩ = some (.slice ad data.length cd) ∧ (convert 35 9 (.slice ad data.length cd)).run Tryz.prog w' = .ok (.string ⟨data.toArray⟩) w' := fun w' hb' =>
              ⟨(hb'.cell (p := ⟨bo + 1, 5, none⟩) (hO6.loc_lt (i5 _ _ kN))).trans y5, (hb'.cell (p := ⟨bo, 2, none⟩) (hO6.loc_lt (i5 _ _ kO3))).trans p2, (hb'.cell (p := ⟨bo, 6, none⟩) (hO6.loc_lt (i5 _ _ kO3))).trans p6, bytes_string hD6 ((Below.refl _ wr).drew.trans hb')⟩
            have hS7 : ∀ w' : World, Below wr.heap.size wr w' → (w'.setCell ⟨bl, n * 6 + 5, none⟩ (.string ⟨(wrD x.data at' data).toArray⟩)).cell? ⟨bo + 1, 5, none⟩ = some (.string ⟨x.data.toArray⟩) ∧ (w'.setCell ⟨bl, n * 6 + 5, none⟩ (.string ⟨(wrD x.data at' data).toArray⟩)).cell? ⟨bo, 2, none⟩ = some (.int .i64 (at' : Int)) ∧ (w'.setCell ⟨bl, n * 6 + 5, none⟩ (.string ⟨(wrD x.data at' data).toArray⟩)).cell? ⟨bo, 6, none⟩ = some (.slice ad data.length cd) ∧ (convert 35 9 (.slice ad data.length cd)).run Tryz.prog (w'.setCell ⟨bl, n * 6 + 5, none⟩ (.string ⟨(wrD x.data at' data).toArray⟩)) = .ok (.string ⟨data.toArray⟩) (w'.setCell ⟨bl, n * 6 + 5, none⟩ (.string ⟨(wrD x.data at' data).toArray⟩)) := fun w' hb' => by
              have h7 := own_data (n := n) (hO6.below (keepsTB _ _ _ _ _ _ _) hb') (keepsTB _ _ _ _ _ _ _) (i5 _ _ kL3) ha (wrD x.data at' data)
              have k1 := h7.loc (b := bo) (by rw [upd_other _ (Ne.symm ne1)]; exact i5 _ _ kO3)
              have k2 := h7.loc (b := bo + 1) (by rw [upd_other _ (Ne.symm ne2)]; exact i5 _ _ kN)
              obtain ⟨_, _, r2, _, _, _, r6⟩ := op_cells k1
              have r5 := node_cell (c := 5) k2 (by omega)
              rw [hat] at r5
              exact ⟨r5, r2, r6, bytes_string hV.d h7.base⟩
            have hS7H : Hid _ := Lib.hid hS7
            have hSbH : Hid _ := Lib.hid hSb
            have hcellLH : Hid _ := Lib.hid hcellL
            have hm'H : Hid _ := Lib.hid hm'
            clear hresH hD6 hfin hSb hS7 hcellL hO6 hwL hm' i5 hst hn5
            go_upto_region 38 with fail
            go_region_held (fun W => W.cell? ⟨bo + 1, 5, none⟩ = some (.string ⟨x.data.toArray⟩) ∧ W.cell? ⟨bo, 2, none⟩ = some (.int .i64 (at' : Int)) ∧ W.cell? ⟨bo, 6, none⟩ = some (.slice ad data.length cd) ∧ (convert 35 9 (.slice ad data.length cd)).run Tryz.prog W = .ok (.string ⟨data.toArray⟩) W) (first | with_reducible exact hS0 | with_reducible exact hS6 | with_reducible exact hS8) (first
              | (go_at_call 58; refine cL.mono ?_; rintro e w6 ⟨rfl, hb6⟩; have hS6 := hSbH.out _ hb6; have hS8 := hS7H.out _ ((Below.refl _ wr).drew.trans hb6); obtain ⟨q5, f5⟩ := hcellLH.out _ ((Below.refl _ wr).drew.trans hb6)))
            all_goals
              go_wp2_with fail
              go_ret

              refine ⟨rfl, _, lv, m', hfinH.out _ ((Below.refl _ wr).drew.trans hb6), hF.set ha (d := wrD x.data at' data) ?_, hm'H.out, fun h => by omega⟩
              exact wrD_len hr hxr.2
end
end Go.Proofs.YtbnoebdpbpjbkaaGreat
