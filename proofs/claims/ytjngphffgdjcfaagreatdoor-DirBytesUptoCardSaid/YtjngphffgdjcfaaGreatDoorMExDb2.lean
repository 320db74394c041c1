/-
  DirBytes, walked: it answers true.
-/
import Derived.Test.YtjngphffgdjcfaaGreatDoorMExDb1
namespace Go.Proofs.YtjngphffgdjcfaaGreatDoor
open Go.RowKit Go.Lz
theorem bmk_append (a b : Bytes) : bmk a ++ bmk b = bmk (a ++ b) := by
  apply ByteArray.ext
  rw [ByteArray.data_append]
  apply Array.ext'
  simp [bmk]
theorem conv_one {W : World} {g : Nat} {y : UInt8} {u : Value} (h : W.cell? ⟨g, 0, none⟩ = some u) (hu : u = u8v y) : (convert 23 9 (.slice (some ⟨g, 0, none⟩) 1 1)).run Tryz.prog W = .ok (.string (bmk [y])) W :=
  bytes_str (l := [y]) rfl fun j hj => by
    obtain rfl : j = 0 := by omega
    rw [Nat.zero_add, h, hu]
    rfl
/-- What a round's statement reads and makes. -/
structure EncW (W : World) (b o nl nd : Nat) (nm : ByteArray) (y1 y2 : UInt8) : Prop where
  a0 : W.cell? ⟨b, o, none⟩ = some (.string nm)
  a1 : W.cell? ⟨b, o + 1, none⟩ = some (.int .i64 (nd : Int))
  b0 : (W.alloc (.cells #[.int .u8 (nl : Int)] 5)).cell? ⟨b, o, none⟩ = some (.string nm)
  b1 : (W.alloc (.cells #[.int .u8 (nl : Int)] 5)).cell? ⟨b, o + 1, none⟩ = some (.int .i64 (nd : Int))
  c0 : (W.alloc (.cells #[.int .u8 (nd : Int)] 5)).cell? ⟨b, o, none⟩ = some (.string nm)
  c1 : (W.alloc (.cells #[.int .u8 (nd : Int)] 5)).cell? ⟨b, o + 1, none⟩ = some (.int .i64 (nd : Int))
  d0 : ((W.alloc (.cells #[.int .u8 (nl : Int)] 5)).alloc (.cells #[.int .u8 (nd : Int)] 5)).cell? ⟨b, o, none⟩ = some (.string nm)
  d1 : ((W.alloc (.cells #[.int .u8 (nl : Int)] 5)).alloc (.cells #[.int .u8 (nd : Int)] 5)).cell? ⟨b, o + 1, none⟩ = some (.int .i64 (nd : Int))
  e0 : ((W.alloc (.cells #[.int .u8 (nd : Int)] 5)).alloc (.cells #[.int .u8 (nl : Int)] 5)).cell? ⟨b, o, none⟩ = some (.string nm)
  e1 : ((W.alloc (.cells #[.int .u8 (nd : Int)] 5)).alloc (.cells #[.int .u8 (nl : Int)] 5)).cell? ⟨b, o + 1, none⟩ = some (.int .i64 (nd : Int))
  f1 : (convert 23 9 (.slice (some ⟨W.heap.size, 0, none⟩) 1 1)).run Tryz.prog (W.alloc (.cells #[.int .u8 (nl : Int)] 5)).drew = .ok (.string (bmk [y1])) (W.alloc (.cells #[.int .u8 (nl : Int)] 5)).drew
  f2 : (convert 23 9 (.slice (some ⟨W.heap.size, 0, none⟩) 1 1)).run Tryz.prog ((W.alloc (.cells #[.int .u8 (nl : Int)] 5)).alloc (.cells #[.int .u8 (nd : Int)] 5)).drew = .ok (.string (bmk [y1])) ((W.alloc (.cells #[.int .u8 (nl : Int)] 5)).alloc (.cells #[.int .u8 (nd : Int)] 5)).drew
  f3 : (convert 23 9 (.slice (some ⟨W.heap.size + 1, 0, none⟩) 1 1)).run Tryz.prog ((W.alloc (.cells #[.int .u8 (nd : Int)] 5)).alloc (.cells #[.int .u8 (nl : Int)] 5)).drew = .ok (.string (bmk [y1])) ((W.alloc (.cells #[.int .u8 (nd : Int)] 5)).alloc (.cells #[.int .u8 (nl : Int)] 5)).drew
  g1 : (convert 23 9 (.slice (some ⟨W.heap.size, 0, none⟩) 1 1)).run Tryz.prog (W.alloc (.cells #[.int .u8 (nd : Int)] 5)).drew = .ok (.string (bmk [y2])) (W.alloc (.cells #[.int .u8 (nd : Int)] 5)).drew
  g2 : (convert 23 9 (.slice (some ⟨W.heap.size, 0, none⟩) 1 1)).run Tryz.prog ((W.alloc (.cells #[.int .u8 (nd : Int)] 5)).alloc (.cells #[.int .u8 (nl : Int)] 5)).drew = .ok (.string (bmk [y2])) ((W.alloc (.cells #[.int .u8 (nd : Int)] 5)).alloc (.cells #[.int .u8 (nl : Int)] 5)).drew
  g3 : (convert 23 9 (.slice (some ⟨W.heap.size + 1, 0, none⟩) 1 1)).run Tryz.prog ((W.alloc (.cells #[.int .u8 (nl : Int)] 5)).alloc (.cells #[.int .u8 (nd : Int)] 5)).drew = .ok (.string (bmk [y2])) ((W.alloc (.cells #[.int .u8 (nl : Int)] 5)).alloc (.cells #[.int .u8 (nd : Int)] 5)).drew
theorem EncW.mk' {W : World} {b o nl nd : Nat} {nm : ByteArray} {y1 y2 : UInt8} (hb : b < W.heap.size) (h0 : W.cell? ⟨b, o, none⟩ = some (.string nm)) (h1 : W.cell? ⟨b, o + 1, none⟩ = some (.int .i64 (nd : Int))) (hy1 : Value.int .u8 (nl : Int) = u8v y1) (hy2 : Value.int .u8 (nd : Int) = u8v y2) : EncW W b o nl nd nm y1 y2 := by
  have s1 : ∀ o, (W.alloc o).heap.size = W.heap.size + 1 := fun o => by simp
  have k : ∀ (V : World) (ob : Obj) (a : Addr) (v : Value), a.block < V.heap.size → V.cell? a = some v → (V.alloc ob).cell? a = some v := fun V ob a v h h' => (World.cell?_alloc_lt _ _ _ h).trans h'
  have hb1 : ∀ ob, b < (W.alloc ob).heap.size := fun ob => by rw [s1]; omega
  have n1 : ∀ ob u, ((W.alloc (.cells #[u] 5)).alloc ob).cell? ⟨W.heap.size, 0, none⟩ = some u := fun ob u => k _ _ _ _ (by show W.heap.size < _; rw [s1]; omega) (cell_of (heap_alloc_new W _) 0)
  have n2 : ∀ ob u, ((W.alloc ob).alloc (.cells #[u] 5)).cell? ⟨W.heap.size + 1, 0, none⟩ = some u := fun ob u => by
    have := cell_of (heap_alloc_new (W.alloc ob) (.cells #[u] 5)) 0
    rw [s1] at this
    exact this
  have n0 : ∀ u, (W.alloc (.cells #[u] 5)).cell? ⟨W.heap.size, 0, none⟩ = some u := fun u => cell_of (heap_alloc_new W _) 0
  exact ⟨h0, h1, k _ _ _ _ hb h0, k _ _ _ _ hb h1, k _ _ _ _ hb h0, k _ _ _ _ hb h1, k _ _ _ _ (hb1 _) (k _ _ _ _ hb h0), k _ _ _ _ (hb1 _) (k _ _ _ _ hb h1), k _ _ _ _ (hb1 _) (k _ _ _ _ hb h0), k _ _ _ _ (hb1 _) (k _ _ _ _ hb h1),
    conv_one (n0 _) hy1, conv_one (n1 _ _) hy1, conv_one (n2 _ _) hy1, conv_one (n0 _) hy2, conv_one (n1 _ _) hy2, conv_one (n2 _ _) hy2⟩
/-- v is a slice of these texts. -/
def StrsAt (w : World) (v : Value) (l : List ByteArray) : Prop :=
  ∃ a n c, v = .slice a n c ∧ l.length = n ∧ n ≤ 9223372036854775807 ∧ (∀ x ∈ l, x.size ≤ 9223372036854775807) ∧ (n = 0 ∨ ∃ b off, a = some ⟨b, off, none⟩ ∧ b < w.heap.size ∧ ∀ j x, l[j]? = some x → w.cell? ⟨b, off + j, none⟩ = some (.string x))
/-- v is an argument of these bytes. -/
def ArgB (w : World) (v : Value) (l : Bytes) : Prop := ∃ a c, v = .slice a l.length c ∧ l.length ≤ maxLen ∧ (l ≠ [] → ∃ tS, Src tS w (fun k => k < w.heap.size) v l) ∧ (a = none → c = 0)
section
variable {w0 w : World} {p q pb pn pk : Nat} {L : Locals} {l : List Entry} {jk : Bytes}
theorem writeJ {v : Value} (h : Own w0 w (TZ p q 600 (AB [] []) 0) L) (hL : BaseL L pb p pn pk 600) (hv : ArgB w0 v jk) (hj : jk.length ≤ 1000) :
    Calls Tryz.prog 9 #[Dptr pb, .int .i64 2, .int .i64 0, v] w (Did w0 w (TZ p q 600 (AB [] jk) 0) L (.int .i64 0)) := by
  obtain ⟨a, c, rfl, hm, hs, _⟩ := hv
  by_cases hne : jk = []
  · subst hne
    exact writeZ_empty (n := 2) h hL rfl (AB_two _ _)
  · obtain ⟨tS, hsrc⟩ := hs hne
    have hsrc2 : jk ≠ [] → ∃ tS, Src tS w (fun k => k < w0.heap.size) (.slice a jk.length c) jk := fun _ => ⟨tS, hsrc.heap fun k cs fr hk h3 => (h.base.block k hk).trans h3⟩
    have h1 : allOf (AB [] []) = 0 := by
      have h1 := allOf_set (A := AF []) (n := 2) (a := ⟨2, [], [], 30, []⟩) (by omega)
      have h2 : cOf (AF []) 2 = 0 := cOf_none (by unfold AF; rw [upd_other _ (by omega)]; rfl)
      have h3 : cOf (AF []) 1 = 0 := by rw [cOf_some (AF_one [])]; rfl
      have h5 := AF_all (l := []) ⟨fun _ h => (nomatch h), List.Pairwise.nil⟩ (by decide)
      rw [h2, h5, h3] at h1
      exact h1
    have := writeZ_ok (n := 2) (a := ⟨2, [], [], 30, []⟩) (data := jk) h hL rfl hsrc2 (fun k hk => .inl hk) hm (AB_two _ _) (by show _ ≤ 64 * 30; omega) hne hj (by rw [h1]; unfold cntN; omega)
    have e : upd (AB [] []) 2 (some { ({ kind := 2, s := [], i := [], room := 30, data := [] } : NodeA) with data := wrB ({ kind := 2, s := [], i := [], room := 30, data := [] } : NodeA).data 0 jk }) = AB [] jk := by
      unfold AB
      rw [upd_two]
      have : wrB [] 0 jk = jk := by simp [wrB, splice]
      show upd (AF []) 2 (some ⟨2, [], [], 30, wrB [] 0 jk⟩) = _
      rw [this]
    rw [e] at this
    exact this
theorem conv_eb {v : Value} {out : Bytes} (h : (out = [] ∧ v = .slice none 0 0) ∨ ∃ g c, v = .slice (some ⟨g, 0, none⟩) out.length c ∧ ∀ j, j < out.length → w.cell? ⟨g, 0 + j, none⟩ = some (u8v (out.getD j 0))) : (convert 23 9 v).run Tryz.prog w = .ok (.string (bmk out)) w := by
  rcases h with ⟨rfl, rfl⟩ | ⟨g, c, rfl, h⟩
  · kernel_rfl
  · exact bytes_str rfl h
theorem outO_conv {w' : World} {T : World → (Nat → Prop) → Prop} {v : Value} {out : Bytes} (h : OutO w0 w w' T L v out) : (convert 23 9 v).run Tryz.prog w' = .ok (.string (bmk out)) w' := by
  refine conv_eb ?_
  rcases h with ⟨h1, h2, _⟩ | ⟨g, o, hb, _, hO⟩
  · exact .inl ⟨h1, h2⟩
  · obtain ⟨cap, cur, fr, rfl, rfl, h1, h2, h3, h4, _⟩ := hb
    have hg := hO.loc (upd_same _ _ _)
    refine .inr ⟨g, cap, rfl, fun j hj => ?_⟩
    have e : (cur.toList.take out.length)[j]? = some (u8v (out.getD j 0)) := by
      rw [h4, List.getElem?_map, List.getElem?_eq_getElem hj]
      simp [List.getD, hj]
    rw [List.getElem?_take, if_pos hj] at e
    rw [Nat.zero_add, cell_of hg, ← Array.getElem?_toList]
    exact e
theorem argB_conv {v : Value} (h : ArgB w v jk) {W : World} (hb : Below w.heap.size w W) : (convert 23 9 v).run Tryz.prog W = .ok (.string (bmk jk)) W := by
  obtain ⟨a, c, rfl, _, h1, h2⟩ := h
  by_cases hne : jk = []
  · subst hne
    cases a with
    | none =>
      have := h2 rfl
      subst this
      show (convert 23 9 (.slice none 0 0)).run Tryz.prog W = .ok (.string (bmk [])) W
      kernel_rfl
    | some ad => exact run_convert_bytes_back (P := Tryz.prog) W 23 9 5 ad c [] Tryz.underlying23 Tryz.underlying5 Tryz.underlying9 (fun i hi => absurd hi (Nat.not_lt_zero _))
  · obtain ⟨tS, hsrc⟩ := h1 hne
    obtain ⟨g, off, cap, cur, fr, h3, h4, h5, h6, h7, h8⟩ := hsrc
    rw [h3]
    refine bytes_str rfl fun j hj => ?_
    have h4 : g < w.heap.size := h4
    rw [hb.cell (p := ⟨g, off + j, none⟩) h4]
    exact h8 j _ (by rw [List.getElem?_map, List.getElem?_eq_getElem hj]; simp [List.getD, hj])
/-- What a round's text gains. -/
theorem enc_more {lst : List Entry} {k : Nat} {x : Entry} (hx : lst[k]? = some x) : bmk (encF (lst.take k)) ++ bmk [UInt8.ofNat x.1.length] ++ bmk x.1 ++ bmk [UInt8.ofNat x.2] = bmk (encF (lst.take (k + 1))) := by
  rw [List.take_add_one, hx, encF_append, bmk_append, bmk_append, bmk_append]
  show _ = bmk (_ ++ (encE x ++ []))
  unfold encE
  simp
/-- The name ahead of a place. -/
def lastE (l : List Entry) : Nat → ByteArray
  | 0 => ⟨#[]⟩
  | k + 1 => bmk ((l[k]?.map (·.1)).getD [])
theorem lastE_next {l : List Entry} {k : Nat} {x : Entry} (hx : l[k]? = some x) : lastE l (k + 1) = bmk x.1 := by
  show bmk ((l[k]?.map (·.1)).getD []) = _
  rw [hx]
  rfl
theorem lastE_less {l : List Entry} {k : Nat} {x : Entry} (hr : RiseL l) (hx : l[k]? = some x) (h1 : 1 ≤ (bmk x.1).size) : Op.bytesLess (lastE l k).toList (bmk x.1).toList = true := by
  rw [bmk_list]
  cases k with
  | zero =>
    have : (lastE l 0).toList = [] := by unfold lastE; rw [Lib.toList_data]
    rw [this]
    cases h : x.1 with
    | nil => rw [bmk_size, h] at h1; cases h1
    | cons a b => rfl
  | succ k =>
    have hk := (List.getElem?_eq_some_iff.1 hx).1
    have hy : l[k]? = some (l[k]'(by omega)) := List.getElem?_eq_getElem _
    rw [lastE_next hy, bmk_list]
    exact hr.get (Nat.lt_succ_self k) hy hx
set_option maxRecDepth 100000 in
set_option maxHeartbeats 8000000 in
theorem dirBytes_any {w : World} {v1 v2 : Value} {ls : List ByteArray} {jk : Bytes} (h1 : StrsAt w v1 ls) (h2 : ArgB w v2 jk) (hE : Env w) : Calls Tryz.prog 3 #[v1, v2] w fun e w' => e = .returned (.bool true) ∧ Below w.heap.size w w' := by
  obtain ⟨ad1, n1, cp1, rfl, hl1, hn1, hsz1, hcs1⟩ := h1
  have h2H : Hid _ := Lib.hid h2
  obtain ⟨ad2, cp2, rfl, hm2, _⟩ := h2
  have hc1H : Hid _ := Lib.hid hcs1
  have hz1H : Hid _ := Lib.hid hsz1
  have hEH : Hid _ := Lib.hid hE
  have hl1H : Hid _ := Lib.hid hl1
  clear hcs1 hE hsz1 hl1
  go_enter Tryz.func3, Tryz.ntmps3
  go_upto_region 2 with (go_at_call 6; refine (lw6OpenZ w).mono ?_; rintro e w1 ⟨p, q, pb, pn, pk, rfl, hO1, hL1⟩)
  by_cases hbig : 1000 < jk.length
  · have hbz : (1000 : Int) < (jk.length : Int) := by omega
    have cW := awake_any w1 (hEH.out.below hO1.base)
    have hO1H : Hid _ := Lib.hid hO1
    clear hO1 hL1
    go_wp2_with (go_at_call 7; refine cW.mono ?_; rintro e w11 ⟨rfl, hb11⟩)
    go_ret
    exact ⟨rfl, hO1H.out.base.trans (hb11.mono hO1H.out.size)⟩
  · have hbz : ¬ (1000 : Int) < (jk.length : Int) := by omega
    have cM := makeZ (n := 1) (G := fun _ => False) (kind := 2) (room := 30) (s := []) (l := []) (vS := .slice none 0 0) (vI := .slice none 0 0) hO1 hL1 ⟨none, 0, 0, rfl, rfl, by omega, .inl rfl⟩ ⟨none, 0, 0, rfl, rfl, by omega, .inl rfl⟩ rfl rfl (.inr rfl) (by omega) (by omega) (by omega) rfl (fun n' h1 h2 => by omega)
    have hAF : upd noNodes 1 (some ⟨2, [], [], 30, []⟩) = AF [] := rfl
    rw [hAF] at cM
    clear hAF
    generalize BaseO noLocals pb pn pk p 600 = L at *
    have cM2 : ∀ W, Own w W (TZ p q 600 (AF []) 0) L → Calls Tryz.prog 8 #[Dptr pb, .int .i64 2, .agg #[.slice none 0 0, .slice none 0 0], .int .i64 30] W (Did w W (TZ p q 600 (AB [] []) 0) L (.tuple #[.int .i64 2, .int .i64 0])) := fun W hW =>
      makeZ (n := 2) (G := fun _ => False) (kind := 2) (room := 30) (s := []) (l := []) (vS := .slice none 0 0) (vI := .slice none 0 0) hW hL1 ⟨none, 0, 0, rfl, rfl, by omega, .inl rfl⟩ ⟨none, 0, 0, rfl, rfl, by omega, .inl rfl⟩ rfl rfl (.inr rfl) (by omega) (by omega) (by omega) (by unfold AF; rw [upd_other _ (by omega)]; rfl) (fun n' h1 h2 => by
        obtain rfl : n' = 1 := by omega
        rw [AF_one]; rfl)
    have hO1H : Hid _ := Lib.hid hO1
    have hL1H : Hid _ := Lib.hid hL1
    clear hO1 hL1
    go_upto_region 5 with (go_at_call 8; refine cM.mono ?_; rintro e w2 ⟨rfl, hO2, hs2⟩)
    have cM3 := cM2 w2 hO2
    clear cM cM2 hO2
    go_upto_region 6 with (go_at_call 8; refine cM3.mono ?_; rintro e w3 ⟨rfl, hO3, hs3⟩)
    have cW := writeJ hO3 hL1H.out h2H.out (by omega)
    clear cM3 hO3
    go_upto_region 8 with (go_at_call 9; refine cW.mono ?_; rintro e w4 ⟨rfl, hO4, hs4⟩)
    have hO4H : Hid _ := Lib.hid hO4
    clear cW hO4
    go_wp2_with fail
    go_loopg [11, 64, 65, 66, 67, 68, 69, 70, 71, 72, 73, 74, 75, 76, 77, 78, 79, 80, 81, 82] 20 (fun g iv _ _ _ _ _ _ _ _ _ _ _ _ _ _ _ _ _ _ _ wr => ∃ (i : Nat) (lst : List Entry), i + g = 20 ∧ iv = .int .i64 (i : Int) ∧ GoodF lst ∧ lst.length ≤ i ∧ Own w wr (TZ p q 600 (AB lst jk) 0) L)
    case atStart => exact ⟨0, [], rfl, rfl, ⟨fun _ h => (nomatch h), List.Pairwise.nil⟩, Nat.le_refl _, hO4H.out⟩
    case round =>
      obtain ⟨i, lst, hig, rfl, hG, hll, hO⟩ := hrel
      rename World => wr
      have hT : ∀ w', Below w.heap.size w w' → Tabs w' := hEH.out.hT
      have hTH : Hid _ := Lib.hid hT
      have hGH : Hid _ := Lib.hid hG
      have hOH : Hid _ := Lib.hid hO
      have higH : Hid _ := Lib.hid hig
      have hj1000 : jk.length ≤ 1000 := by omega
      by_cases hin : i < n1 ∧ i < 20
      · obtain ⟨hin1, hin2⟩ := hin
        have hz1 : (i : Int) < (n1 : Int) := by omega
        have hz2 : (i : Int) < 20 := by omega
        obtain ⟨bo, off, rfl, hbl, hcl⟩ := hc1H.out.resolve_left (by omega)
        obtain ⟨x, hx⟩ : ∃ x, ls[i]? = some x := ⟨ls[i]'(by have := hl1H.out; omega), List.getElem?_eq_getElem _⟩
        have q0 : wr.cell? ⟨bo, off + i, none⟩ = some (.string x) := (hO.base.cell (p := ⟨bo, off + i, none⟩) hbl).trans (hcl i x hx)
        obtain ⟨c, hc⟩ := addR_AB (j := jk) (s := x) (m := i + 1) hG (by omega) (by omega) (by omega)
        have cA := dAdd_any (n := 1) (m := ((i + 1 : Nat) : Int)) hO hL1H.out (AB_one lst jk) (isF_node hG (by omega)) hT (AB_fit hG (by omega) hj1000) (s := x) (hz1H.out x (List.mem_of_getElem? hx))
        rw [hc] at cA
        have cA2 : Calls Tryz.prog 10 #[Dptr pb, .int .i64 1, .string x, .int .i64 ((i : Int) + 1)] wr (Did w wr (TZ p q 600 (AB (stepB lst x (i + 1)) jk) 0) L (.int .i64 c)) := cA
        have hl2 := stepB_length lst x (i + 1)
        have hg2 : GoodF (stepB lst x (i + 1)) := stepB_good hG (by omega) (by omega)
        have hg2H : Hid _ := Lib.hid hg2
        clear cA hc hcl hx hG hO hT hg2
        go_wp2_with (go_at_call 10; refine cA2.mono ?_; rintro e w5 ⟨rfl, hO5, hs5⟩)
        go_roundg (gk - 1)
        case measure => have := higH.out; omega
        case rel => exact ⟨i + 1, stepB lst x (i + 1), by have := higH.out; omega, by go_num, hg2H.out, by omega, hO5⟩
      · have hl32 : lst.length ≤ 20 := by omega
        clear hG hO hT hig
        have hcs : ¬ i < n1 ∨ (i < n1 ∧ ¬ i < 20) := by omega
        rcases hcs with hz | ⟨hz1, hz2⟩
        case' inl =>
          have hzz : ¬ (i : Int) < (n1 : Int) := by omega
          go_upto_region 12 with fail
        case' inr =>
          have hzz : (i : Int) < (n1 : Int) := by omega
          have hzy : ¬ (i : Int) < 20 := by omega
          go_upto_region 12 with fail
        all_goals
          have cL := list_ok hOH.out hL1H.out (AB_one lst jk) (isF_node hGH.out (by omega)) hTH.out
          go_upto_region 13 with (go_at_call 11; refine cL.mono ?_; rintro e w6 ⟨hs6, v6, rfl, hE6⟩)
          have hO6 := hE6.own hOH.out
          have hA6 := hE6.ins.ents (by omega)
          obtain ⟨ad6, ln, cp6, rfl, hln, _, hcl6⟩ := hA6
          have hO6H : Hid _ := Lib.hid hO6
          have hcl6H : Hid _ := Lib.hid hcl6
          have hlnH : Hid _ := Lib.hid hln
          have hln20 : ln ≤ 20 := by omega
          clear hO6 hE6 cL hcl6 hln
          go_wp2_with fail
          go_loopg [14, 15, 89, 90, 91, 92, 93, 94, 95, 96, 97, 98, 99, 100, 101, 102, 103, 104, 105, 106, 107, 108, 109, 110, 111, 112, 113, 114, 115, 116, 117, 118, 119, 120] ln (fun g sv kv _ _ _ _ _ _ _ _ _ _ _ _ _ _ _ _ _ _ _ _ _ _ _ _ _ _ _ _ _ _ _ _ wr2 => ∃ k : Nat, k + g = ln ∧ kv = .int .i64 (k : Int) ∧ sv = .string (bmk (encF (lst.take k))) ∧ Below w6.heap.size w6 wr2)
          case atStart => exact ⟨0, by omega, rfl, rfl, Below.refl _ _⟩
          case round =>
            obtain ⟨k, hkg, rfl, rfl, hB⟩ := hrel
            rename World => wr2
            have hkgH : Hid _ := Lib.hid hkg
            have hBH : Hid _ := Lib.hid hB
            clear hkg
            by_cases hk : k < ln
            · have hkz : (k : Int) < (ln : Int) := by omega
              obtain ⟨b6, off6, rfl, _, hbl6, hcc6⟩ := hcl6H.out.resolve_left (by omega)
              obtain ⟨x, hx⟩ : ∃ x, lst[k]? = some x := ⟨lst[k]'(by have := hlnH.out; omega), List.getElem?_eq_getElem _⟩
              obtain ⟨h0, h1⟩ := entC_at lst k x hx
              have q0 : wr2.cell? ⟨b6, off6 + k * 2, none⟩ = some (.string (bmk x.1)) := (hB.cell (p := ⟨b6, off6 + k * 2, none⟩) hbl6).trans (by have := hcc6 _ _ h0; rwa [Nat.mul_comm] at this)
              have q1 : wr2.cell? ⟨b6, off6 + k * 2 + 1, none⟩ = some (.int .i64 (x.2 : Int)) := (hB.cell (p := ⟨b6, off6 + k * 2 + 1, none⟩) hbl6).trans (by have := hcc6 _ _ h1; rwa [Nat.mul_comm, ← Nat.add_assoc] at this)
              obtain ⟨hg1, hg2, hg3⟩ := goodE_iff.1 (hGH.out.good x (List.mem_of_getElem? hx))
              have hg4 := nameD_len hg1
              obtain ⟨nl, hnl⟩ : ∃ nl, nl = (bmk x.1).size := ⟨_, rfl⟩
              have hnlx : nl = x.1.length := hnl
              have hu1 : Value.int .u8 (nl : Int) = u8v (UInt8.ofNat x.1.length) := by unfold u8v; rw [UInt8.toNat_ofNat', ← hnlx, Nat.mod_eq_of_lt (by omega)]
              have hu2 : Value.int .u8 (x.2 : Int) = u8v (UInt8.ofNat x.2) := by unfold u8v; rw [UInt8.toNat_ofNat', Nat.mod_eq_of_lt (by omega)]
              have hEW := EncW.mk' (Nat.lt_of_lt_of_le hbl6 hB.size) q0 q1 hu1 hu2
              have hlenS : (encF (lst.take k)).length ≤ 26 * 20 := Nat.le_trans (encF_le fun y hy => hGH.out.good y (List.mem_of_mem_take hy)) (by rw [List.length_take]; omega)
              have hmore := enc_more hx
              obtain ⟨S, hS⟩ : ∃ S, S = bmk (encF (lst.take k)) := ⟨_, rfl⟩
              obtain ⟨sz, hsz⟩ : ∃ sz, sz = S.size := ⟨_, rfl⟩
              have hsz2 : sz ≤ 26 * 20 := by rw [hsz, hS, bmk_size]; exact hlenS
              obtain ⟨m1, hm1⟩ : ∃ m1, m1 = bmk [UInt8.ofNat x.1.length] := ⟨_, rfl⟩
              obtain ⟨m2, hm2'⟩ : ∃ m2, m2 = bmk [UInt8.ofNat x.2] := ⟨_, rfl⟩
              have hm1s : m1.size = 1 := by rw [hm1]; rfl
              have hm2s : m2.size = 1 := by rw [hm2']; rfl
              have hszr : S.size = sz := hsz.symm
              have hnlr : (bmk x.1).size = nl := hnl.symm
              have hz1 : IntKind.u8.wrap (nl : Int) = (nl : Int) := by rw [IntKind.wrap_u8]; omega
              have hz2 : IntKind.u8.wrap (x.2 : Int) = (x.2 : Int) := by rw [IntKind.wrap_u8]; omega
              rw [← hS, ← hm1, ← hm2'] at hmore
              rw [← hS]
              have hmoreH : Hid _ := Lib.hid hmore
              obtain ⟨a0, a1, b0, b1, c0, c1, d0, d1, e0, e1, f1, f2, f3, g1, g2, g3⟩ := hEW
              rw [← hm1] at f1 f2 f3
              rw [← hm2'] at g1 g2 g3
              have hBa : Hid _ := Lib.hid (((hB.alloc hB.size (.cells #[.int .u8 (nl : Int)] 5)).alloc (by have := hB.size; simp; omega) (.cells #[.int .u8 (x.2 : Int)] 5)).drew)
              have hBb : Hid _ := Lib.hid (((hB.alloc hB.size (.cells #[.int .u8 (x.2 : Int)] 5)).alloc (by have := hB.size; simp; omega) (.cells #[.int .u8 (nl : Int)] 5)).drew)
              clear hcc6 h0 h1 hx q0 q1 hg1 hu1 hu2 hB hmore hm1 hm2' hS hsz hnl hnlx hlenS
              go_upto_region 17 with fail
              go_big_region
              all_goals
                clear a0 a1 b0 b1 c0 c1 d0 d1 e0 e1 f1 f2 f3 g1 g2 g3
                go_wp2_with fail
                go_roundg (gk - 1)
                case measure => have := hkgH.out; omega
                case rel => exact ⟨k + 1, by have := hkgH.out; omega, by go_num, by first | rw [← hmoreH.out], by first | exact hBa.out | exact hBb.out⟩
            · have hkg2 := hkgH.out
              obtain rfl : k = ln := by omega
              clear hkg2
              rw [List.take_of_length_le (by have := hlnH.out; omega)]
              have hO7 := hO6H.out.below (keepsTZ _ _ _ _ _) hBH.out
              have cR := readZ (at' := 0) (k := 2000) hO7 hL1H.out (AB_one lst jk)
              have hlenE : (encF lst).length ≤ 26 * 20 := Nat.le_trans (encF_le hGH.out.good) (by have := hlnH.out; omega)
              rw [Nat.zero_min, List.drop_zero, show (nodeF lst).data = encF lst from rfl, List.take_of_length_le (by omega)] at cR
              have cR2 : Calls Tryz.prog 12 #[Dptr pb, .int .i64 1, .int .i64 0, .int .i64 2000] wr2 (RDid w wr2 (TZ p q 600 (AB lst jk) 0) L (encF lst) 0) := cR
              have hO7H : Hid _ := Lib.hid hO7
              obtain ⟨S, hS⟩ : ∃ S, S = bmk (encF lst) := ⟨_, rfl⟩
              rw [← hS]
              have hSH : Hid _ := Lib.hid hS
              clear cR hO7 hB hS hlenE
              go_upto_region 19 with (go_at_call 12; refine cR2.mono ?_; rintro e w8 ⟨y, rfl, ho, hs8⟩)
              have hO8 := ho.own hO7H.out
              have hcv := outO_conv ho
              rw [← hSH.out] at hcv
              have hO8H : Hid _ := Lib.hid hO8
              clear ho hO8 cR2
              go_upto_region 21 with fail
              have cL2 := list_any (n := 2) (a := ⟨2, [], [], 30, jk⟩) hO8H.out hL1H.out (AB_two lst jk) (by show jk.length ≤ _; omega) hTH.out
              clear hcv
              obtain ⟨l2, er, hG2, h32, hend, hres⟩ : ∃ (l2 : List Entry) (er : Int), GoodF l2 ∧ l2.length ≤ 32 ∧ ((er = 0 ∧ encF l2 = jk) ∨ (er = 3 ∧ l2 = [])) ∧ Calls Tryz.prog 11 #[Dptr pb, .int .i64 2] w8 fun e w' => ∃ v, e = .returned (.tuple #[v, .int .i64 er]) ∧ Own w w' (TZ p q 600 (AB lst jk) 0) L ∧ EntsAt w' (fun k => w8.heap.size ≤ k) v l2 := by
                cases hf : foldE jk with
                | none =>
                  refine ⟨[], 3, ⟨fun _ h => (nomatch h), List.Pairwise.nil⟩, by decide, .inr ⟨rfl, rfl⟩, cL2.mono fun e w' ⟨h1, _, h3⟩ => ?_⟩
                  rw [if_pos rfl, hf] at h3
                  exact ⟨_, h3, h1, none, 0, 0, rfl, rfl, by omega, .inl rfl⟩
                | some l2 =>
                  obtain ⟨hf1, hf2, hf3⟩ := fold_some hf
                  refine ⟨l2, 0, hf2, hf3, .inl ⟨rfl, hf1⟩, cL2.mono fun e w' ⟨h1, _, h3⟩ => ?_⟩
                  rw [if_pos rfl, hf] at h3
                  obtain ⟨v, h4, h5⟩ := h3
                  exact ⟨v, h4, h1, h5.at_ (by omega)⟩
              clear cL2
              go_upto_region 22 with (go_at_call 11; refine hres.mono ?_; rintro e w9 ⟨v9, rfl, hO9, hE9⟩)
              obtain ⟨ad9, l9, cp9, rfl, hl9, _, hcl9⟩ := hE9
              have hO9H : Hid _ := Lib.hid hO9
              have hcl9H : Hid _ := Lib.hid hcl9
              have hl9H : Hid _ := Lib.hid hl9
              have hG2H : Hid _ := Lib.hid hG2
              have hendH : Hid _ := Lib.hid hend
              have hl932 : l9 ≤ 32 := by omega
              clear hO9 hcl9 hl9 hres hG2 hend
              go_wp2_with fail
              go_loopg [20, 21, 22, 145, 146, 147, 148, 149, 150, 151, 152, 153, 154, 155, 156, 157, 158, 159, 160, 161, 162, 163, 164, 165, 166, 167, 168, 169, 170, 171, 172, 173, 174, 175, 176, 177, 178, 179, 180, 181, 182, 183, 184, 185, 186, 187, 188, 189, 190, 191, 192, 193, 194, 195, 196, 197, 198, 199, 200, 201, 202, 203, 204, 205, 206, 207, 208, 209, 210, 211, 212, 213, 4] l9 (fun g gv lv kv _ _ _ _ _ _ _ _ _ _ _ _ _ _ _ _ _ _ _ _ _ _ _ _ _ _ _ _ _ _ _ _ _ _ _ _ _ _ _ _ _ _ _ _ _ _ _ _ _ _ _ _ _ _ _ _ _ _ _ _ _ _ _ _ _ _ _ _ _ rv wr3 => rv = .bool false ∧ ∃ k : Nat, k + g = l9 ∧ kv = .int .i64 (k : Int) ∧ gv = .string (bmk (encF (l2.take k))) ∧ lv = .string (lastE l2 k) ∧ Below w9.heap.size w9 wr3)
              case atStart => exact ⟨rfl, 0, by omega, rfl, rfl, rfl, Below.refl _ _⟩
              case round =>
                obtain ⟨rfl, k3, hkg3, rfl, rfl, rfl, hB3⟩ := hrel
                rename World => wr3
                have hkg3H : Hid _ := Lib.hid hkg3
                have hB3H : Hid _ := Lib.hid hB3
                clear hkg3
                by_cases hk3 : k3 < l9
                · have hkz3 : (k3 : Int) < (l9 : Int) := by omega
                  obtain ⟨b6, off6, rfl, _, hbl6, hcc6⟩ := hcl9H.out.resolve_left (by omega)
                  obtain ⟨x, hx⟩ : ∃ x, l2[k3]? = some x := ⟨l2[k3]'(by have := hl9H.out; omega), List.getElem?_eq_getElem _⟩
                  obtain ⟨h0, h1⟩ := entC_at l2 k3 x hx
                  have q0 : wr3.cell? ⟨b6, off6 + k3 * 2, none⟩ = some (.string (bmk x.1)) := (hB3.cell (p := ⟨b6, off6 + k3 * 2, none⟩) hbl6).trans (by have := hcc6 _ _ h0; rwa [Nat.mul_comm] at this)
                  have q1 : wr3.cell? ⟨b6, off6 + k3 * 2 + 1, none⟩ = some (.int .i64 (x.2 : Int)) := (hB3.cell (p := ⟨b6, off6 + k3 * 2 + 1, none⟩) hbl6).trans (by have := hcc6 _ _ h1; rwa [Nat.mul_comm, ← Nat.add_assoc] at this)
                  obtain ⟨hg1, hg2, hg3⟩ := goodE_iff.1 (hG2H.out.good x (List.mem_of_getElem? hx))
                  have hg4 := nameD_len hg1
                  have cN := name8_any (bmk x.1) wr3 (by omega)
                  rw [name_eq, hg1] at cN
                  have hles := lastE_less hG2H.out.rise hx hg4.1
                  have hlq1 : Op.bytesLess (bmk x.1).toList (lastE l2 k3).toList = false := less_asymm hles
                  have hlq2 : ((bmk x.1).toList == (lastE l2 k3).toList) = false := beq_eq_false_iff_ne.2 fun e => less_ne hles e.symm
                  have hlast := lastE_next hx
                  have hlastH : Hid _ := Lib.hid hlast
                  have hxH : Hid _ := Lib.hid hx
                  obtain ⟨LS, hLS⟩ : ∃ LS, LS = lastE l2 k3 := ⟨_, rfl⟩
                  rw [← hLS] at hlq1 hlq2 ⊢
                  have hx21 : ¬ (x.2 : Int) < 1 := by omega
                  have hx22 : ¬ (64 : Int) < (x.2 : Int) := by omega
                  clear hcc6 h0 h1 hg1 hles hlast hLS hB3
                  go_upto_region 29 with (go_at_call 13; refine cN.mono ?_; rintro e w10 ⟨rfl, hb10⟩; have q0' := (hb10.cell (p := ⟨b6, off6 + k3 * 2, none⟩) (Nat.lt_of_lt_of_le hbl6 hB3H.out.size)).trans q0; have q1' := (hb10.cell (p := ⟨b6, off6 + k3 * 2 + 1, none⟩) (Nat.lt_of_lt_of_le hbl6 hB3H.out.size)).trans q1)
                  obtain ⟨nl, hnl⟩ : ∃ nl, nl = (bmk x.1).size := ⟨_, rfl⟩
                  have hnlx : nl = x.1.length := hnl
                  have hu1 : Value.int .u8 (nl : Int) = u8v (UInt8.ofNat x.1.length) := by unfold u8v; rw [UInt8.toNat_ofNat', ← hnlx, Nat.mod_eq_of_lt (by omega)]
                  have hu2 : Value.int .u8 (x.2 : Int) = u8v (UInt8.ofNat x.2) := by unfold u8v; rw [UInt8.toNat_ofNat', Nat.mod_eq_of_lt (by omega)]
                  have hEW := EncW.mk' (Nat.lt_of_lt_of_le (Nat.lt_of_lt_of_le hbl6 hB3H.out.size) hb10.size) q0' q1' hu1 hu2
                  have hlenS : (encF (l2.take k3)).length ≤ 26 * 32 := Nat.le_trans (encF_le fun y hy => hG2H.out.good y (List.mem_of_mem_take hy)) (by rw [List.length_take]; omega)
                  have hmore := enc_more hxH.out
                  obtain ⟨S3, hS3⟩ : ∃ S3, S3 = bmk (encF (l2.take k3)) := ⟨_, rfl⟩
                  obtain ⟨sz, hsz⟩ : ∃ sz, sz = S3.size := ⟨_, rfl⟩
                  have hsz2 : sz ≤ 26 * 32 := by rw [hsz, hS3, bmk_size]; exact hlenS
                  obtain ⟨m1, hm1⟩ : ∃ m1, m1 = bmk [UInt8.ofNat x.1.length] := ⟨_, rfl⟩
                  obtain ⟨m2, hm2'⟩ : ∃ m2, m2 = bmk [UInt8.ofNat x.2] := ⟨_, rfl⟩
                  have hm1s : m1.size = 1 := by rw [hm1]; rfl
                  have hm2s : m2.size = 1 := by rw [hm2']; rfl
                  have hszr : S3.size = sz := hsz.symm
                  have hnlr : (bmk x.1).size = nl := hnl.symm
                  have hz1 : IntKind.u8.wrap (nl : Int) = (nl : Int) := by rw [IntKind.wrap_u8]; omega
                  have hz2 : IntKind.u8.wrap (x.2 : Int) = (x.2 : Int) := by rw [IntKind.wrap_u8]; omega
                  rw [← hS3, ← hm1, ← hm2'] at hmore
                  rw [← hS3]
                  have hmoreH : Hid _ := Lib.hid hmore
                  have hB10 := hB3H.out.trans (hb10.mono hB3H.out.size)
                  obtain ⟨a0, a1, b0, b1, c0, c1, d0, d1, e0, e1, f1, f2, f3, g1, g2, g3⟩ := hEW
                  rw [← hm1] at f1 f2 f3
                  rw [← hm2'] at g1 g2 g3
                  have hBa : Hid _ := Lib.hid (((hB10.alloc hB10.size (.cells #[.int .u8 (nl : Int)] 5)).alloc (by have := hB10.size; simp; omega) (.cells #[.int .u8 (x.2 : Int)] 5)).drew)
                  have hBb : Hid _ := Lib.hid (((hB10.alloc hB10.size (.cells #[.int .u8 (x.2 : Int)] 5)).alloc (by have := hB10.size; simp; omega) (.cells #[.int .u8 (nl : Int)] 5)).drew)
                  have hnlx2 := hnlx
                  clear q0 q1 hlq1 hlq2 hu1 hu2 hmore hm1 hm2' hS3 hsz hnl hnlx hlenS cN hx hB10 hnlx2
                  go_upto_region 30 with fail
                  clear q0' q1'
                  go_big_region
                  all_goals
                    clear a0 a1 b0 b1 c0 c1 d0 d1 e0 e1 f1 f2 f3 g1 g2 g3
                    go_wp2_with fail
                    go_roundg (gk - 1)
                    case measure => have := hkg3H.out; omega
                    case rel => exact ⟨rfl, k3 + 1, by have := hkg3H.out; omega, by go_num, by first | rw [← hmoreH.out], by rw [hlastH.out], by first | exact hBa.out | exact hBb.out⟩
                · have hkg4 := hkg3H.out
                  obtain rfl : k3 = l9 := by omega
                  clear hkg4
                  rw [List.take_of_length_le (by have := hl9H.out; omega)]
                  have hO10 := hO9H.out.below (keepsTZ _ _ _ _ _) hB3H.out
                  have cW := awake_any wr3 (hEH.out.below hO10.base)
                  have hO10H : Hid _ := Lib.hid hO10
                  have hl9z : (k3 : Int) ≤ 32 := by omega
                  clear hO10 hB3
                  rcases hendH.out with ⟨rfl, he⟩ | ⟨rfl, he⟩
                  · have hcj := argB_conv h2H.out hO10H.out.base
                    rw [he]
                    clear he
                    go_wp2_with (go_at_call 7; refine cW.mono ?_; rintro e w11 ⟨rfl, hb11⟩)
                    go_ret
                    exact ⟨rfl, hO10H.out.base.trans (hb11.mono hO10H.out.size)⟩
                  · have hk0 : k3 = 0 := by rw [← hl9H.out, he]; rfl
                    subst hk0
                    clear he
                    go_wp2_with (go_at_call 7; refine cW.mono ?_; rintro e w11 ⟨rfl, hb11⟩)
                    go_ret
                    exact ⟨rfl, hO10H.out.base.trans (hb11.mono hO10H.out.size)⟩
end
end Go.Proofs.YtjngphffgdjcfaaGreatDoor
