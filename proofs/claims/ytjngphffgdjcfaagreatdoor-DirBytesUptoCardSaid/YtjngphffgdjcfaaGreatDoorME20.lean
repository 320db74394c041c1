/-
  The texts Is4 Is5 Is6, one behind the other.
-/
import Derived.Test.YtjngphffgdjcfaaGreatDoorME15
import Derived.Test.YtjngphffgdjcfaaGreatDoorMExTb3
/-
  A base's calls: Cut, Free.
-/
namespace Go.Proofs.YtjngphffgdjcfaaGreatDoor
open Go.RowKit Go.Lz
section
variable {w w0 : World} {p q pb pn pk px gb cap n N cc m : Nat} {S : WalS} {Fs : Nat → Prop} {b : Bytes} {L : Locals} {A A0 : Nodes} {a : NodeA} {g : Nat → Bytes}
theorem shrink_st (h : BaseIn w pb p q pn pk S Fs) (hx : NodeAt w px gb cap n b) (hpx : ¬ Fs px) (hgb : ¬ Fs gb) {to' : Nat} (hm : to' ≤ nSize b) (hs : nSize b ≤ 55296) (hok : S.ShrinkOk b to') :
    Calls Tryz.prog 93 #[Dptr pb, Dptr px, .int .i64 (to' : Int)] w fun e w' => e = .returned (.int .i64 0) ∧ NSt w w' pb p q pn pk px gb cap n (S.shrinkS b to') (S.shrinkB b to') Fs := shrink_any h hx hpx hgb hm hs hok
theorem nst_out {w1 w2 : World} {S' : WalS} (hC : Chg Fs w w1) (hN : NSt w1 w2 pb p q pn pk px gb cap n S' b Fs) (hg : w.heap.size ≤ gb) : (∃ Fs', BaseIn w2 pb p q pn pk S' Fs' ∧ ∀ k, Fs' k → Fs k ∨ w.heap.size ≤ k) ∧ Chg Fs w w2 := by
  obtain ⟨F', hB, hF, _⟩ := hN.st
  have hs := hC.size
  exact ⟨⟨F', hB, fun k hk => (hF k hk).imp id (fun h => by omega)⟩, hC.trans hN.chg (fun k hk h => h.elim id (fun e => by omega))⟩
set_option maxHeartbeats 2000000 in
set_option maxRecDepth 100000 in
theorem cut_any (h : BaseIn w pb p q pn pk S Fs) (B : BaseP S N g cc m A) (ha : A n = some a) {to' : Nat} (ht : to' ≤ a.data.length) (hm : m + 5 ≤ 111) :
    Calls Tryz.prog 72 #[Dptr pb, .int .i64 (n : Int), .int .i64 (to' : Int)] w fun e w' => e = .returned (.int .i64 0) ∧ ∃ S', BaseP S' N g cc (m + 5) (upd A n (some { a with data := a.data.take to' })) ∧ (∃ Fs', BaseIn w' pb p q pn pk S' Fs' ∧ ∀ k, Fs' k → Fs k ∨ w.heap.size ≤ k) ∧ Chg Fs w w' := by
  have hn := B.dom n (by rw [ha]; rfl)
  obtain ⟨z1, z2, z3⟩ := B.size_ok ha
  obtain ⟨hok, S3, e3, B3⟩ := B.cut ha ht hm
  have cL := load_yes h (n := (n : Int)) (B.nodeE_some ha)
  rw [Int.toNat_natCast] at cL
  have ht0 : ¬ (a.data.length : Int) < (to' : Int) := by omega
  have ht1 : ¬ (to' : Int) < 0 := by omega
  go_enter Tryz.func72, Tryz.ntmps72
  go_upto_region 4 with (go_at_call 26; refine cL.mono ?_; rintro e w1 ⟨px, gb, cap, rfl, hB1, hC1, hx1, hp1, hg1, hn1, hn2⟩)
  have cZ := nsize_any hx1
  rw [z1] at cZ
  have h1H : Hid _ := Lib.hid (And.intro hB1 hx1)
  have hb := Below.refl w1.heap.size w1
  clear hB1 hx1 cL
  go_upto_region 6 with (go_at_call 28; refine cZ.mono ?_; rintro e w2 ⟨rfl, hb2⟩)
  have hB2 := h1H.out.1.below hb2
  have hx2 := h1H.out.2.below hb2
  have cS := shrink_st hB2 hx2 hn1 hn2 (to' := to') (by rw [z1]; exact ht) (by rw [z1]; omega) hok
  have hC2 : Chg Fs w w2 := hC1.trans (Chg.of_below (M := fun _ => False) hb2) (fun _ _ h => h.elim)
  have cV : ∀ w3, NSt w2 w3 pb p q pn pk px gb cap n (S.shrinkS (S.nodeB n) to') (S.shrinkB (S.nodeB n) to') Fs → Calls Tryz.prog 25 #[Dptr pb, Dptr px] w3 fun e w4 => e = .returned (.int .i64 0) ∧ NSt w2 w4 pb p q pn pk px gb cap n S3 (S.shrinkB (S.nodeB n) to') Fs := fun w3 hN3 => by
    refine hN3.base (v := .int .i64 0) (fun F' hB h1 h2 => ?_) (fun _ h' => ⟨rfl, h'⟩)
    have := save_any hB hN3.node h1 h2 hn.1 hn.2
    rw [e3] at this
    exact this
  have hB3H : Hid _ := Lib.hid B3
  clear hB2 hx2 e3 B3 hC1 hb2 hok h1H cZ
  go_wp2_with (first
    | (go_at_call 93; refine cS.mono ?_; rintro e w3 ⟨rfl, hN3⟩)
    | (go_at_call 25; refine (cV _ hN3).mono ?_; rintro e w4 ⟨rfl, hN4⟩))
  go_ret
  exact ⟨rfl, S3, hB3H.out, nst_out hC2 hN4 hg1⟩
set_option maxRecDepth 100000 in
theorem cut_none (h : BaseIn w pb p q pn pk S Fs) {z k : Int} (hz : S.nodeE z = 61) :
    Calls Tryz.prog 72 #[Dptr pb, .int .i64 z, .int .i64 k] w fun e w' => e = .returned (.int .i64 61) ∧ BaseIn w' pb p q pn pk S Fs ∧ Chg Fs w w' := by
  have cL := load_no h (n := z) (by rw [hz]; decide)
  rw [hz] at cL
  go_enter Tryz.func72, Tryz.ntmps72
  go_wp2_with (go_at_call 26; refine cL.mono ?_; rintro e w1 ⟨rfl, hB1, hC1⟩)
  go_ret
  exact ⟨rfl, hB1, hC1⟩
set_option maxHeartbeats 2000000 in
set_option maxRecDepth 100000 in
theorem cut_bad (h : BaseIn w pb p q pn pk S Fs) (B : BaseP S N g cc m A) (ha : A n = some a) {k : Int} (hk : k < 0 ∨ (a.data.length : Int) < k) :
    Calls Tryz.prog 72 #[Dptr pb, .int .i64 (n : Int), .int .i64 k] w fun e w' => e = .returned (.int .i64 1) ∧ BaseIn w' pb p q pn pk S Fs ∧ Chg Fs w w' := by
  obtain ⟨z1, z2, z3⟩ := B.size_ok ha
  have cL := load_yes h (n := (n : Int)) (B.nodeE_some ha)
  rw [Int.toNat_natCast] at cL
  by_cases h0 : k < 0
  · go_enter Tryz.func72, Tryz.ntmps72
    go_wp2_with (go_at_call 26; refine cL.mono ?_; rintro e w1 ⟨px, gb, cap, rfl, hB1, hC1, hx1, hp1, hg1, hn1, hn2⟩)
    go_ret
    exact ⟨rfl, hB1, hC1⟩
  · have h1 : (a.data.length : Int) < k := by omega
    clear hk
    go_enter Tryz.func72, Tryz.ntmps72
    go_upto_region 4 with (go_at_call 26; refine cL.mono ?_; rintro e w1 ⟨px, gb, cap, rfl, hB1, hC1, hx1, hp1, hg1, hn1, hn2⟩)
    have cZ := nsize_any hx1
    rw [z1] at cZ
    go_wp2_with (go_at_call 28; refine cZ.mono ?_; rintro e w2 ⟨rfl, hb2⟩)
    go_ret
    exact ⟨rfl, hB1.below hb2, hC1.trans (Chg.of_below (M := fun _ => False) hb2) (fun _ _ h => h.elim)⟩
/-! ### as a statement's function meets them -/
theorem cut6_ok {to' : Nat} (h : Own w0 w (TB p q N A A0 cc m) L) (hL : BaseL L pb p pn pk N) (ha : A n = some a) (ht : to' ≤ a.data.length) (hm : m + 5 ≤ 111) :
    Calls Tryz.prog 72 #[Dptr pb, .int .i64 (n : Int), .int .i64 (to' : Int)] w (Did w0 w (TB p q N (upd A n (some { a with data := a.data.take to' })) A0 cc (m + 5)) L (.int .i64 0)) := by
  obtain ⟨F, S, g, hB, B, D, _, hgo⟩ := base6 h hL
  refine (cut_any hB B ha ht hm).mono ?_
  rintro e w' ⟨rfl, S', B', ⟨F', hB', hF'⟩, hC⟩
  exact ⟨rfl, (hgo hB' hF' hC B' D).1, hC.size⟩
theorem cut6_none {z k : Int} (h : Own w0 w (TB p q N A A0 cc m) L) (hL : BaseL L pb p pn pk N) (hz : ¬ IsN A z) :
    Calls Tryz.prog 72 #[Dptr pb, .int .i64 z, .int .i64 k] w (Did w0 w (TB p q N A A0 cc m) L (.int .i64 61)) := by
  obtain ⟨F, S, g, hB, B, D, _, hgo⟩ := base6 h hL
  refine (cut_none hB (BaseP.nodeE_no B hz)).mono ?_
  rintro e w' ⟨rfl, hB', hC⟩
  exact ⟨rfl, (hgo hB' (fun _ h => .inl h) hC B D).1, hC.size⟩
theorem cut6_bad {k : Int} (h : Own w0 w (TB p q N A A0 cc m) L) (hL : BaseL L pb p pn pk N) (ha : A n = some a) (hk : k < 0 ∨ (a.data.length : Int) < k) :
    Calls Tryz.prog 72 #[Dptr pb, .int .i64 (n : Int), .int .i64 k] w (Did w0 w (TB p q N A A0 cc m) L (.int .i64 1)) := by
  obtain ⟨F, S, g, hB, B, D, _, hgo⟩ := base6 h hL
  refine (cut_bad hB B ha hk).mono ?_
  rintro e w' ⟨rfl, hB', hC⟩
  exact ⟨rfl, (hgo hB' (fun _ h => .inl h) hC B D).1, hC.size⟩
end
end Go.Proofs.YtjngphffgdjcfaaGreatDoor
/-
  A base's calls: Info.
-/
namespace Go.Proofs.YtjngphffgdjcfaaGreatDoor
open Go.RowKit Go.Lz
section
variable {w w0 : World} {p q pb pn pk px gb cap n N cc m : Nat} {S : WalS} {Fs : Nat → Prop} {b : Bytes} {L : Locals} {A A0 : Nodes} {a : NodeA} {g : Nat → Bytes}
theorem cell_block_lt {w : World} {a : Addr} {v : Value} (h : w.cell? a = some v) : a.block < w.heap.size := by
  rcases Nat.lt_or_ge a.block w.heap.size with h' | h'
  · exact h'
  · simp [World.cell?, Array.getElem?_eq_none h'] at h
theorem results_cell_tmp1 {fn : Func} {p u : Tmp} {ty : TypeId} (h : fn.results = #[.cell p ty, .tmp u]) (tmps : Array Value) (P : Program) (w : World) :
    (results fn tmps).run P w = ((asAddr (tmps.getD p undef)).run P w).andThen fun a w₁ => ((loadVar ty a).run P w₁).andThen fun x w₂ => .ok (.tuple #[x, tmps.getD u undef]) w₂ := by
  simp only [results, h]
  simp [Sem.run_bind, Result.andThen]
def InfoV (a : NodeA) (vs vi : Value) : Value := .agg #[.int .i64 (a.kind : Int), .int .i64 (a.data.length : Int), .int .i64 (a.room : Int), vs, vi]
def InfoPost (w : World) (pb p q pn pk : Nat) (S : WalS) (Fs : Nat → Prop) (a : NodeA) (e : Ending) (w' : World) : Prop :=
  ∃ vs vi, e = .returned (.tuple #[InfoV a vs vi, .int .i64 0]) ∧ IntsAt w' (fun k => w.heap.size ≤ k) vs a.s ∧ IntsAt w' (fun k => w.heap.size ≤ k) vi a.i ∧ BaseIn w' pb p q pn pk S Fs ∧ Chg Fs w w'
set_option maxHeartbeats 4000000 in
set_option maxRecDepth 100000 in
theorem info_any (h : BaseIn w pb p q pn pk S Fs) (B : BaseP S N g cc m A) (ha : A n = some a) :
    Calls Tryz.prog 37 #[Dptr pb, .int .i64 (n : Int)] w (InfoPost w pb p q pn pk S Fs a) := by
  have hd := B.node n a ha
  obtain ⟨hs, hi, ⟨rest, hcode⟩, hkind, hroom, hsize⟩ := hd.ok
  have hFl := h.sto.lt
  have hE := B.nodeE_some ha
  go_enter Tryz.func37, Tryz.ntmps37
  go_upto_region 1 with fail
  have hb0 : Below w.heap.size w (w.alloc (.cells #[.int .i64 0, .int .i64 0, .int .i64 0, .slice none 0 0, .slice none 0 0] 86)) := (Below.refl _ w).alloc (Nat.le_refl _) _
  have s0 : (w.alloc (.cells #[.int .i64 0, .int .i64 0, .int .i64 0, .slice none 0 0, .slice none 0 0] 86)).heap.size = w.heap.size + 1 := by simp
  have k0 := heap_alloc_new w (.cells #[.int .i64 0, .int .i64 0, .int .i64 0, .slice none 0 0, .slice none 0 0] 86)
  generalize w.alloc (.cells #[.int .i64 0, .int .i64 0, .int .i64 0, .slice none 0 0, .slice none 0 0] 86) = w1 at *
  have hB1 := h.below hb0
  have cL := load_yes hB1 (n := (n : Int)) hE
  rw [Int.toNat_natCast] at cL
  go_upto_region 4 with (go_at_call 26; refine cL.mono ?_; rintro e w2 ⟨px, gb, cap, rfl, hB2, hC2, hx, hp1, hg1, hn1, hn2⟩)
  have k2 := (hC2.block w.heap.size (by omega) (fun e => by have := hFl _ e; omega)).trans k0
  have hcap := hx.raw.1
  have hcapm := hx.raw.2.1
  have cx1 := hx.c1
  have hpc := Src.sub (hx.drop (k := 0) (by omega)) (k := 7) (l := 133) (by rw [List.drop_zero, hx.len]; omega)
  rw [List.drop_zero, hcode, Nat.zero_add] at hpc
  have cD := decode_ok hpc hs hi
  have hc7 : ¬ cap = 7 := by omega
  have ck : ∀ w', Below w2.heap.size w2 w' → w'.cell? ⟨gb, 0, none⟩ = some (.int .u8 (a.kind : Int)) := fun w' hb => by
    have := ((hx.below hb).raw.2.2.2.2.2 0 (by omega)).1
    rw [this]
    unfold u8v
    rw [hd.kind]
  have cR : ∀ w', Below w2.heap.size w2 w' → Calls Tryz.prog 27 #[Dptr px] w' fun e w3 => e = .returned (.int .i64 (a.room : Int)) ∧ Below w'.heap.size w' w3 := fun w' hb => by
    have := room_any_ (hx.below hb)
    rwa [hd.room] at this
  have cZ : ∀ w', Below w2.heap.size w2 w' → Calls Tryz.prog 28 #[Dptr px] w' fun e w3 => e = .returned (.int .i64 (a.data.length : Int)) ∧ Below w'.heap.size w' w3 := fun w' hb => by
    have := nsize_any (hx.below hb)
    rwa [hd.size] at this
  have cx : ∀ w', Below w2.heap.size w2 w' → w'.cell? ⟨px, 1, none⟩ = some (.slice (some ⟨gb, 0, none⟩) 256 cap) := fun w' hb => (hx.below hb).c1
  have hkd : a.kind = 1 ∨ a.kind = 2 := by rw [← hd.kind]; exact hkind
  have hrm : a.room ≤ 256 := by rw [← hd.room]; exact hroom
  have hsz : a.data.length ≤ 64 * a.room := by rw [← hd.size, ← hd.room]; exact hsize
  have ckH : Hid _ := Lib.hid ck
  have cRH : Hid _ := Lib.hid cR
  have cZH : Hid _ := Lib.hid cZ
  have cxH : Hid _ := Lib.hid cx
  have hB2H : Hid _ := Lib.hid hB2
  have hC02 : Chg Fs w w2 := (Chg.of_below (M := Fs) hb0).trans hC2 (fun _ _ h => h)
  have hC2H : Hid _ := Lib.hid hC02
  have hs2 := hC02.size
  have hwl : w.heap.size < w2.heap.size := lt_of_heap k2
  clear ck cR cZ cx hx hcode hpc hB1 hB2 hC2 hC02 hb0 k0 cL hd hkind hroom hsize
  go_upto_region 5 with (go_at_call 75; refine cD.mono ?_; rintro e w3 ⟨vs, vi, rfl, hvs, hvi, hb3⟩; obtain ⟨a1, c1, rfl⟩ := IntsAt.form hvs; obtain ⟨a2, c2, rfl⟩ := IntsAt.form hvi)
  have hb4 : Below w2.heap.size w2 (w3.alloc (.cells #[.slice a1 a.s.length c1, .slice a2 a.i.length c2] 34)) := hb3.alloc hb3.size _
  have k4 : (w3.alloc (.cells #[.slice a1 a.s.length c1, .slice a2 a.i.length c2] 34)).heap[w3.heap.size]? = some (.cells #[.slice a1 a.s.length c1, .slice a2 a.i.length c2] 34 (0, 0)) := heap_alloc_new w3 _
  have hvs4 := IntsAt.below hvs ((Below.refl _ w3).alloc (Nat.le_refl _) (.cells #[.slice a1 a.s.length c1, .slice a2 a.i.length c2] 34))
  have hvi4 := IntsAt.below hvi ((Below.refl _ w3).alloc (Nat.le_refl _) (.cells #[.slice a1 a.s.length c1, .slice a2 a.i.length c2] 34))
  generalize w3.alloc (.cells #[.slice a1 a.s.length c1, .slice a2 a.i.length c2] 34) = w4 at hb4 k4 hvs4 hvi4 ⊢
  have hlt3 : w3.heap.size < w4.heap.size := lt_of_heap k4
  have hF : ∀ W, Below w4.heap.size w4 W → W.cell? ⟨px, 1, none⟩ = some (.slice (some ⟨gb, 0, none⟩) 256 cap) ∧ W.cell? ⟨gb, 0, none⟩ = some (.int .u8 (a.kind : Int)) ∧ W.cell? ⟨w3.heap.size, 0, none⟩ = some (.slice a1 a.s.length c1) ∧ W.cell? ⟨w3.heap.size, 1, none⟩ = some (.slice a2 a.i.length c2) := fun W hW =>
    have hb := hb4.trans (hW.mono hb4.size)
    have k5 := (hW.block w3.heap.size hlt3).trans k4
    ⟨cxH.out W hb, ckH.out W hb, cell_of k5 0, cell_of k5 1⟩
  have hk0 : ∀ W, Below w4.heap.size w4 W → W.heap[w.heap.size]? = some (.cells #[.int .i64 0, .int .i64 0, .int .i64 0, .slice none 0 0, .slice none 0 0] 86 (0, 0)) := fun W hW => ((hb4.trans (hW.mono hb4.size)).block w.heap.size hwl).trans k2
  have hd0 := hF _ (Below.refl _ w4).drew
  have hne : px ≠ w.heap.size ∧ gb ≠ w.heap.size := by omega
  have hchg : ∀ W W', Below w4.heap.size w4 W → Chg (· = w.heap.size) W W' → W'.cell? ⟨px, 1, none⟩ = some (.slice (some ⟨gb, 0, none⟩) 256 cap) ∧ W'.cell? ⟨gb, 0, none⟩ = some (.int .u8 (a.kind : Int)) ∧ W'.cell? ⟨w3.heap.size, 0, none⟩ = some (.slice a1 a.s.length c1) ∧ W'.cell? ⟨w3.heap.size, 1, none⟩ = some (.slice a2 a.i.length c2) := fun W W' hW hC => by
    obtain ⟨e1, e2, e3, e4⟩ := hF W hW
    have hs := hW.size
    have hc : ∀ g i v, g ≠ w.heap.size → W.cell? ⟨g, i, none⟩ = some v → W'.cell? ⟨g, i, none⟩ = some v := fun g i v hg hv => (World.cell?_of_block (hC.block g (cell_block_lt hv) hg)).trans hv
    have h3 := hb3.size
    exact ⟨hc _ _ _ hne.1 e1, hc _ _ _ hne.2 e2, hc _ _ _ (by omega) e3, hc _ _ _ (by omega) e4⟩
  have hFH : Hid _ := Lib.hid hF
  have hk0H : Hid _ := Lib.hid hk0
  have hb4H : Hid _ := Lib.hid hb4
  have hvs4H : Hid _ := Lib.hid hvs4
  have hvi4H : Hid _ := Lib.hid hvi4
  have hkd2 : (0 : Int) ≤ (a.kind : Int) ∧ (a.kind : Int) ≤ 2 := by omega
  have hb3H : Hid _ := Lib.hid hb3
  clear hF hk0 hb4 k4 hvs4 hvi4 hvs hvi cD k2 hb3
  go_region_held (fun W => W.cell? ⟨px, 1, none⟩ = some (.slice (some ⟨gb, 0, none⟩) 256 cap) ∧ W.cell? ⟨gb, 0, none⟩ = some (.int .u8 (a.kind : Int)) ∧ W.cell? ⟨w3.heap.size, 0, none⟩ = some (.slice a1 a.s.length c1) ∧ W.cell? ⟨w3.heap.size, 1, none⟩ = some (.slice a2 a.i.length c2)) (first | with_reducible exact hd0 | with_reducible exact hd5 | with_reducible exact hd6 | exact hd7 _ ((((((Chg.refl _ w6).own _ _).own _ _).own _ _).own _ _).own _ _)) (first
    | (go_at_call 28; refine (cZH.out _ (hb4H.out.trans ((Below.refl _ w4).drew.mono hb4H.out.size))).mono ?_; rintro e w5 ⟨rfl, hb5⟩; have hb45 := (Below.refl _ w4).drew.trans hb5; have hd5 := hFH.out _ hb45)
    | (go_at_call 27; refine (cRH.out _ (hb4H.out.trans (hb45.mono hb4H.out.size))).mono ?_; rintro e w6 ⟨rfl, hb6⟩; have hb46 := hb45.trans (hb6.mono hb45.size); have hd6 := hFH.out _ hb46; have hd7 : ∀ W, Chg (· = w.heap.size) w6 W → _ := fun W hW => hchg w6 W hb46 hW; have k6 := hk0H.out _ hb46; have q0 := cell_of k6 0; have q1 := cell_of k6 1; have q2 := cell_of k6 2; have q3 := cell_of k6 3; have q4 := cell_of k6 4; have f0 := frozen_of k6 0; have f1 := frozen_of k6 1; have f2 := frozen_of k6 2; have f3 := frozen_of k6 3; have f4 := frozen_of k6 4))
  have hwk : IntKind.i64.wrap (a.kind : Int) = (a.kind : Int) := by rw [IntKind.wrap_i64]; omega
  rw [hwk]
  have hC7 : Chg (· = w.heap.size) w6 (((((w6.setCell ⟨w.heap.size, 0, none⟩ (.int .i64 (a.kind : Int))).setCell ⟨w.heap.size, 1, none⟩ (.int .i64 (a.data.length : Int))).setCell ⟨w.heap.size, 2, none⟩ (.int .i64 (a.room : Int))).setCell ⟨w.heap.size, 3, none⟩ (.slice a1 a.s.length c1)).setCell ⟨w.heap.size, 4, none⟩ (.slice a2 a.i.length c2)) := (((((Chg.refl _ w6).own _ _).own _ _).own _ _).own _ _).own _ _
  have k7 := heap_set_same (heap_set_same (heap_set_same (heap_set_same (heap_set_same k6 0 (.int .i64 (a.kind : Int))) 1 (.int .i64 (a.data.length : Int))) 2 (.int .i64 (a.room : Int))) 3 (.slice a1 a.s.length c1)) 4 (.slice a2 a.i.length c2)
  generalize ((((w6.setCell ⟨w.heap.size, 0, none⟩ (.int .i64 (a.kind : Int))).setCell ⟨w.heap.size, 1, none⟩ (.int .i64 (a.data.length : Int))).setCell ⟨w.heap.size, 2, none⟩ (.int .i64 (a.room : Int))).setCell ⟨w.heap.size, 3, none⟩ (.slice a1 a.s.length c1)).setCell ⟨w.heap.size, 4, none⟩ (.slice a2 a.i.length c2) = w7 at *
  have r0 : w7.cell? ⟨w.heap.size, 0, none⟩ = some (.int .i64 (a.kind : Int)) := cell_of k7 0
  have r1 : w7.cell? ⟨w.heap.size, 1, none⟩ = some (.int .i64 (a.data.length : Int)) := cell_of k7 1
  have r2 : w7.cell? ⟨w.heap.size, 2, none⟩ = some (.int .i64 (a.room : Int)) := cell_of k7 2
  have r3 : w7.cell? ⟨w.heap.size, 3, none⟩ = some (.slice a1 a.s.length c1) := cell_of k7 3
  have r4 : w7.cell? ⟨w.heap.size, 4, none⟩ = some (.slice a2 a.i.length c2) := cell_of k7 4
  clear q0 q1 q2 q3 q4 f0 f1 f2 f3 f4 k6 k7 hd0 hd5 hd6 hd7 hchg hwk
  go_wp2_with fail
  refine bodyPost_ret (v := .tuple #[InfoV a (.slice a1 a.s.length c1) (.slice a2 a.i.length c2), .int .i64 0]) ?_ rfl ?_
  · rw [results_cell_tmp1 rfl]
    go_simp
    rfl
  · have hb24 := hb4H.out
    have hb27 : Chg (· = w.heap.size) w4 w7 := (Chg.of_below (M := (· = w.heap.size)) hb46).trans hC7 (fun _ _ h => h)
    have hs4 := hb24.size
    refine ⟨_, _, rfl, (hvs4H.out.chg hb27 (fun k hk _ e => by have e : k = w.heap.size := e; have h3 := hb3H.out.size; omega)).mono (fun k hk => by have h3 := hb3H.out.size; omega), (hvi4H.out.chg hb27 (fun k hk _ e => by have e : k = w.heap.size := e; have h3 := hb3H.out.size; omega)).mono (fun k hk => by have h3 := hb3H.out.size; omega), ?_, ?_⟩
    · refine ((hB2H.out.below hb24).chg hb27 (fun k hk e => ?_))
      have e : k = w.heap.size := e
      have hpb := lt_of_heap h.blk
      have hpn := lt_of_heap h.mN
      have hpk := lt_of_heap h.mK
      rcases hk with hk | hk | hk | hk
      · have := hFl k hk; omega
      · omega
      · omega
      · omega
    · refine (hC2H.out.trans (Chg.of_below (M := Fs) hb24) (fun _ _ h => h)).trans hb27 (fun k hk e => ?_)
      have e : k = w.heap.size := e
      omega
end
end Go.Proofs.YtjngphffgdjcfaaGreatDoor
/-
  A base's calls, as a statement's function meets them: Info, Nodes.
-/
namespace Go.Lz
open Go.RowKit
open Classical in
/-- All new blocks that are none of the thing's are local ones. -/
noncomputable def allNew (L : Locals) (w w' : World) (F' : Nat → Prop) : Locals := fun b => if (L b).isSome then L b else if w.heap.size ≤ b ∧ ¬ F' b then w'.heap[b]? else none
theorem allNew_old {L : Locals} {w w' : World} {F' : Nat → Prop} {b : Nat} {o : Obj} (h : L b = some o) : allNew L w w' F' b = some o := by
  unfold allNew
  rw [if_pos (by rw [h]; rfl), h]
theorem allNew_new {L : Locals} {w w' : World} {F' : Nat → Prop} {b : Nat} {o : Obj} (h0 : L b = none) (h1 : w.heap.size ≤ b) (h2 : ¬ F' b) (h3 : w'.heap[b]? = some o) : allNew L w w' F' b = some o := by
  unfold allNew
  rw [if_neg (by rw [h0]; decide), if_pos ⟨h1, h2⟩, h3]
/-- A call works on the thing; all that is new and none of the thing's is local then. -/
theorem Own.stepM {w0 w : World} {T : World → (Nat → Prop) → Prop} {L : Locals} (h : Own w0 w T L) : ∃ F, T w F ∧ (∀ k, F k → w0.heap.size ≤ k ∧ k < w.heap.size) ∧ (∀ b o, L b = some o → ¬ F b ∧ w.heap[b]? = some o) ∧
    ∀ {w' : World} {T' : World → (Nat → Prop) → Prop} {F' : Nat → Prop}, T' w' F' → (∀ k, F' k → F k ∨ w.heap.size ≤ k) → (∀ k, F' k → k < w'.heap.size) → Chg F w w' → Own w0 w' T' (allNew L w w' F') := by
  obtain ⟨F, hT, hF, hb, hL⟩ := h
  refine ⟨F, hT, hF, fun b o ho => (hL b o ho).2, fun {w' T' F'} hT' h1 h2 hc => ?_⟩
  have hs := hb.size
  refine ⟨F', hT', fun k hk => ⟨(h1 k hk).elim (fun h => (hF k h).1) (fun h => by omega), h2 k hk⟩, hb.trans (hc.belowB hs (fun j hj h => by have := (hF j h).1; omega)), fun b o ho => ?_⟩
  unfold allNew at ho
  split at ho
  · obtain ⟨h3, h4, h5⟩ := hL b o ho
    have h6 := lt_of_heap h5
    exact ⟨h3, fun h => (h1 b h).elim h4 (fun h => by omega), (hc.block b h6 h4).trans h5⟩
  · split at ho
    · rename_i hh
      exact ⟨by omega, hh.2, ho⟩
    · cases ho
/-- Local blocks stay. -/
def LocIn (L L' : Locals) : Prop := ∀ b o, L b = some o → L' b = some o
/-- v is a slice of the numbers l; its cells lie in a local block. -/
def IntsL (w : World) (L : Locals) (v : Value) (l : List Int) : Prop := IntsAt w (fun k => ∃ o, L k = some o) v l
theorem IntsL.own {w0 w w' : World} {T T' : World → (Nat → Prop) → Prop} {L L' : Locals} {v : Value} {l : List Int} (h : IntsL w L v l) (hw : Own w0 w T L) (hw' : Own w0 w' T' L') (hl : LocIn L L') : IntsL w' L' v l := by
  obtain ⟨a, n, c, h1, h2, h3, h4⟩ := h
  refine ⟨a, n, c, h1, h2, h3, h4.imp id ?_⟩
  rintro ⟨b, off, h5, ⟨o, ho⟩, _, h8⟩
  have e := hw'.loc (hl b o ho)
  exact ⟨b, off, h5, ⟨o, hl b o ho⟩, lt_of_heap e, fun j hj => (World.cell?_of_block (w := w) (e.trans (hw.loc ho).symm)).trans (h8 j hj)⟩
theorem LocIn.refl (L : Locals) : LocIn L L := fun _ _ h => h
theorem LocIn.trans {L L' L2 : Locals} (h : LocIn L L') (k : LocIn L' L2) : LocIn L L2 := fun b o hb => k b o (h b o hb)
theorem LocIn.upd_ {L : Locals} {g : Nat} {o : Obj} (h : L g = none) : LocIn L (upd L g (some o)) := fun b x hb => by
  have e : b ≠ g := fun e => by rw [e, h] at hb; cases hb
  rw [upd_other _ e]
  exact hb
end Go.Lz
namespace Go.Proofs.YtjngphffgdjcfaaGreatDoor
open Go.RowKit Go.Lz
section
variable {w w0 : World} {p q pb pn pk px gb cap n N cc m : Nat} {S : WalS} {Fs : Nat → Prop} {b : Bytes} {L L' : Locals} {A A0 : Nodes} {a : NodeA} {g : Nat → Bytes}
theorem BaseL.mono (h : BaseL L pb p pn pk N) (hl : LocIn L L') : BaseL L' pb p pn pk N := ⟨hl _ _ h.b, hl _ _ h.n, hl _ _ h.k⟩
set_option maxHeartbeats 2000000 in
set_option maxRecDepth 100000 in
theorem info_none (h : BaseIn w pb p q pn pk S Fs) {z : Int} (hz : S.nodeE z = 61) :
    Calls Tryz.prog 37 #[Dptr pb, .int .i64 z] w fun e w' => e = .returned (.tuple #[.agg #[.int .i64 0, .int .i64 0, .int .i64 0, .slice none 0 0, .slice none 0 0], .int .i64 61]) ∧ BaseIn w' pb p q pn pk S Fs ∧ Chg Fs w w' := by
  have hFl := h.sto.lt
  have hpb := lt_of_heap h.blk
  have hpn := lt_of_heap h.mN
  have hpk := lt_of_heap h.mK
  go_enter Tryz.func37, Tryz.ntmps37
  go_upto_region 1 with fail
  have hb0 : Below w.heap.size w (w.alloc (.cells #[.int .i64 0, .int .i64 0, .int .i64 0, .slice none 0 0, .slice none 0 0] 86)) := (Below.refl _ w).alloc (Nat.le_refl _) _
  have s0 : (w.alloc (.cells #[.int .i64 0, .int .i64 0, .int .i64 0, .slice none 0 0, .slice none 0 0] 86)).heap.size = w.heap.size + 1 := by simp
  have k0 := heap_alloc_new w (.cells #[.int .i64 0, .int .i64 0, .int .i64 0, .slice none 0 0, .slice none 0 0] 86)
  generalize w.alloc (.cells #[.int .i64 0, .int .i64 0, .int .i64 0, .slice none 0 0, .slice none 0 0] 86) = w1 at *
  have hB1 := h.below hb0
  have cL := load_no hB1 (n := z) (by rw [hz]; decide)
  rw [hz] at cL
  go_upto_region 3 with (go_at_call 26; refine cL.mono ?_; rintro e w2 ⟨rfl, hB2, hC2⟩)
  have k2 := (hC2.block w.heap.size (by omega) (fun e => by have := hFl _ e; omega)).trans k0
  have q0 := cell_of k2 0
  have q1 := cell_of k2 1
  have q2 := cell_of k2 2
  have q3 := cell_of k2 3
  have q4 := cell_of k2 4
  have f0 := frozen_of k2 0
  have f1 := frozen_of k2 1
  have f2 := frozen_of k2 2
  have f3 := frozen_of k2 3
  have f4 := frozen_of k2 4
  go_wp2_with fail
  have hC7 : Chg (· = w.heap.size) w2 (((((w2.setCell ⟨w.heap.size, 0, none⟩ (.int .i64 0)).setCell ⟨w.heap.size, 1, none⟩ (.int .i64 0)).setCell ⟨w.heap.size, 2, none⟩ (.int .i64 0)).setCell ⟨w.heap.size, 3, none⟩ (.slice none 0 0)).setCell ⟨w.heap.size, 4, none⟩ (.slice none 0 0)) := (((((Chg.refl _ w2).own _ _).own _ _).own _ _).own _ _).own _ _
  have k7 := heap_set_same (heap_set_same (heap_set_same (heap_set_same (heap_set_same k2 0 (.int .i64 0)) 1 (.int .i64 0)) 2 (.int .i64 0)) 3 (.slice none 0 0)) 4 (.slice none 0 0)
  generalize ((((w2.setCell ⟨w.heap.size, 0, none⟩ (.int .i64 0)).setCell ⟨w.heap.size, 1, none⟩ (.int .i64 0)).setCell ⟨w.heap.size, 2, none⟩ (.int .i64 0)).setCell ⟨w.heap.size, 3, none⟩ (.slice none 0 0)).setCell ⟨w.heap.size, 4, none⟩ (.slice none 0 0) = w7 at *
  have r0 : w7.cell? ⟨w.heap.size, 0, none⟩ = some (.int .i64 0) := cell_of k7 0
  have r1 : w7.cell? ⟨w.heap.size, 1, none⟩ = some (.int .i64 0) := cell_of k7 1
  have r2 : w7.cell? ⟨w.heap.size, 2, none⟩ = some (.int .i64 0) := cell_of k7 2
  have r3 : w7.cell? ⟨w.heap.size, 3, none⟩ = some (.slice none 0 0) := cell_of k7 3
  have r4 : w7.cell? ⟨w.heap.size, 4, none⟩ = some (.slice none 0 0) := cell_of k7 4
  refine bodyPost_ret (v := .tuple #[.agg #[.int .i64 0, .int .i64 0, .int .i64 0, .slice none 0 0, .slice none 0 0], .int .i64 61]) ?_ rfl ?_
  · rw [results_cell_tmp1 rfl]
    go_simp
  · have hne : ∀ k, (Fs k ∨ k = pb ∨ k = pn ∨ k = pk) → ¬ k = w.heap.size := fun k hk e => by
      rcases hk with hk | hk | hk | hk
      · have := hFl k hk; omega
      · omega
      · omega
      · omega
    exact ⟨rfl, hB2.chg hC7 hne, (((Chg.of_below (M := Fs) hb0).trans hC2 (fun _ _ h => h)).trans hC7 (fun k hk e => by have e : k = w.heap.size := e; omega))⟩
def InfoDid (w0 w : World) (T : World → (Nat → Prop) → Prop) (L : Locals) (a : NodeA) (e : Ending) (w' : World) : Prop :=
  ∃ vs vi L', e = .returned (.tuple #[InfoV a vs vi, .int .i64 0]) ∧ Own w0 w' T L' ∧ LocIn L L' ∧ IntsL w' L' vs a.s ∧ IntsL w' L' vi a.i ∧ w.heap.size ≤ w'.heap.size
theorem base7 (h : Own w0 w (TB p q N A A0 cc m) L) (hL : BaseL L pb p pn pk N) : ∃ F S g, BaseIn w pb p q pn pk S F ∧ BaseP S N g cc m A ∧ Done N g A0 ∧
    ∀ {w' : World} {F' : Nat → Prop} {S' : WalS} {g' : Nat → Bytes} {cc' m' : Nat} {A' A0' : Nodes}, BaseIn w' pb p q pn pk S' F' → (∀ k, F' k → F k ∨ w.heap.size ≤ k) → Chg F w w' → BaseP S' N g' cc' m' A' → Done N g' A0' →
      Own w0 w' (TB p q N A' A0' cc' m') (allNew L w w' F') := by
  have hs := h.size
  obtain ⟨F, ⟨S, g, hS, B, D⟩, hF, hl, hgo⟩ := h.stepM
  have hall : S.allB = N - 300 := by unfold WalS.allB; rw [B.kb.size]
  refine ⟨F, S, g, ⟨hS, ?_, (hl _ _ hL.n).2, ?_, (hl _ _ hL.b).1, (hl _ _ hL.n).1, (hl _ _ hL.k).1, by rw [B.kb.size]; exact B.big, B.kb.kp.isDead⟩, B, D, fun hB h1 hC B' D' => hgo ⟨_, _, hB.sto, B', D'⟩ h1 hB.sto.lt hC⟩
  · rw [hall]; exact (hl _ _ hL.b).2
  · rw [hall]; exact (hl _ _ hL.k).2
theorem ints_new {w' : World} {F' : Nat → Prop} {v : Value} {l : List Int} (h : Own w0 w (TB p q N A A0 cc m) L) (hv : IntsAt w' (fun k => w.heap.size ≤ k) v l) (hF : ∀ k, F' k → k < w.heap.size) : IntsL w' (allNew L w w' F') v l := by
  obtain ⟨a', n', c, h1, h2, h3, h4⟩ := hv
  refine ⟨a', n', c, h1, h2, h3, h4.imp id ?_⟩
  rintro ⟨b, off, h5, h6, h7, h8⟩
  refine ⟨b, off, h5, ?_, h7, h8⟩
  exact ⟨_, allNew_new (h.none_ h6) h6 (fun e => by have := hF b e; omega) (Array.getElem?_eq_getElem h7)⟩
theorem info6_ok (h : Own w0 w (TB p q N A A0 cc m) L) (hL : BaseL L pb p pn pk N) (ha : A n = some a) :
    Calls Tryz.prog 37 #[Dptr pb, .int .i64 (n : Int)] w (InfoDid w0 w (TB p q N A A0 cc m) L a) := by
  obtain ⟨F, S, g, hB, B, D, hgo⟩ := base7 h hL
  have hFl := hB.sto.lt
  refine (info_any hB B ha).mono ?_
  rintro e w' ⟨vs, vi, rfl, h1, h2, hB', hC⟩
  exact ⟨vs, vi, _, rfl, hgo hB' (fun _ h => .inl h) hC B D, fun b o hb => allNew_old hb, ints_new h h1 hFl, ints_new h h2 hFl, hC.size⟩
theorem info6_none {z : Int} (h : Own w0 w (TB p q N A A0 cc m) L) (hL : BaseL L pb p pn pk N) (hz : ¬ IsN A z) :
    Calls Tryz.prog 37 #[Dptr pb, .int .i64 z] w (Did w0 w (TB p q N A A0 cc m) L (.tuple #[.agg #[.int .i64 0, .int .i64 0, .int .i64 0, .slice none 0 0, .slice none 0 0], .int .i64 61])) := by
  obtain ⟨F, S, g, hB, B, D, _, hgo⟩ := base6 h hL
  refine (info_none hB (BaseP.nodeE_no B hz)).mono ?_
  rintro e w' ⟨rfl, hB', hC⟩
  exact ⟨rfl, (hgo hB' (fun _ h => .inl h) hC B D).1, hC.size⟩
/-- The numbers that are taken. -/
def numsF (A : Nodes) (k : Nat) : List Int := ((List.range k).filter fun i => (A (i + 1)).isSome).map fun (i : Nat) => ((i : Int) + 1)
theorem nodesL_A {S : WalS} (B : BaseP S N g cc m A) : S.nodesL = numsF A 64 := by
  unfold WalS.nodesL WalS.nodesF numsF
  congr 1
  refine List.filter_congr fun i hi => ?_
  have hi : i < 64 := by simpa using hi
  have := B.bit (i + 1) (by omega) (by omega)
  rwa [Nat.add_sub_cancel] at this
def NodesDid (w0 w : World) (T : World → (Nat → Prop) → Prop) (L : Locals) (l : List Int) (e : Ending) (w' : World) : Prop :=
  ∃ v L', e = .returned v ∧ Own w0 w' T L' ∧ LocIn L L' ∧ IntsL w' L' v l ∧ w.heap.size ≤ w'.heap.size
theorem nodes6 (h : Own w0 w (TB p q N A A0 cc m) L) (hL : BaseL L pb p pn pk N) : Calls Tryz.prog 43 #[Dptr pb] w (NodesDid w0 w (TB p q N A A0 cc m) L (numsF A 64)) := by
  obtain ⟨F, S, g, hB, B, D, hgo⟩ := base7 h hL
  have hFl := hB.sto.lt
  refine (nodes_any hB).mono ?_
  rw [← nodesL_A B]
  rintro e w' ⟨v, rfl, h1, hB', hC⟩
  exact ⟨v, _, rfl, hgo hB' (fun _ h => .inl h) hC B D, fun b o hb => allNew_old hb, ints_new h h1 hFl, hC.size⟩
end
end Go.Proofs.YtjngphffgdjcfaaGreatDoor
