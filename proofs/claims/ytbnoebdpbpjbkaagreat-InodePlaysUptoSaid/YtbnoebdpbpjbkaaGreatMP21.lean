/-
  The texts IPl2 IPl3 IPl4 IPl5, one behind the other.
-/
import Derived.Test.YtbnoebdpbpjbkaaGreatMP20
import Derived.Test.YtbnoebdpbpjbkaaGreatMP3
import Derived.ArgAppend
import Derived.Lib.LazyBuf
import Derived.Deep.LoopGhost
import Derived.BigQuiet
import Derived.Deep.QuietTactic
/-
  A row of bytes that the call made, marked or not: appended to, copied into.
-/
namespace Go.Proofs.YtbnoebdpbpjbkaaGreat
open Go.RowKit Go.Lz
/-- v is a row of the bytes b that may be written and grown; its block is no older than base. -/
def RowK (w : World) (base : Nat) (v : Value) (b : Bytes) : Prop :=
  ∃ g cap, v = .slice (some ⟨g, 0, none⟩) b.length cap ∧ base ≤ g ∧ g < w.heap.size ∧ b.length ≤ cap ∧ cap ≤ maxLen ∧ (∀ j, j < cap → (w.cell? ⟨g, j, none⟩).isSome = true ∧ w.frozen? ⟨g, j, none⟩ = false) ∧ ∀ j u, (b.map u8v)[j]? = some u → w.cell? ⟨g, j, none⟩ = some u
section
variable {w w' : World} {base : Nat} {v : Value} {b : Bytes}
theorem RowK.of_string (w : World) (b : Bytes) (hb : b.length ≤ 1000000) : RowK (w.drew.alloc (bobj w b)) w.heap.size (.slice (some ⟨w.heap.size, 0, none⟩) b.length (bcap w b)) b := by
  have hge : b.length ≤ bcap w b := grownCap_ge w b.length 0 5
  have hle : bcap w b ≤ maxLen := grownCap_le_maxLen w b.length 0 5 (by unfold maxLen; omega)
  have hB := bytes_buf w b hb
  have hs : (bytesRow ⟨b.toArray⟩ (bcap w b)).size = bcap w b := by
    rw [← Array.length_toList]
    have hl : (bytesRow ⟨b.toArray⟩ (bcap w b)).toList = b.map u8v ++ List.replicate (bcap w b - b.length) (.int .u8 0) := by
      simp only [bytesRow, Array.toList_append, Array.toList_map, Array.toList_replicate]
      rfl
    rw [hl]
    simp
    omega
  have hheap : (w.drew.alloc (bobj w b)).heap[w.heap.size]? = some (.cells (bytesRow ⟨b.toArray⟩ (bcap w b)) 5 ((bytesRow ⟨b.toArray⟩ (bcap w b)).size, (bytesRow ⟨b.toArray⟩ (bcap w b)).size + 1)) := heap_alloc_new w.drew _
  generalize w.drew.alloc (bobj w b) = W at *
  refine ⟨_, _, rfl, Nat.le_refl _, lt_of_heap hheap, hge, hle, fun j hj => ⟨?_, ?_⟩, hB.cells⟩
  · rw [cell_of hheap, Array.getElem?_eq_getElem (by rw [hs]; exact hj)]
    rfl
  · rw [hs] at hheap
    simp only [World.frozen?, hheap]
    simp
    omega
theorem RowK.below (h : RowK w base v b) (hb : Below w.heap.size w w') : RowK w' base v b := by
  obtain ⟨g, cap, h1, h2, h3, h4, h5, h6, h7⟩ := h
  have he := hb.block g h3
  exact ⟨g, cap, h1, h2, Nat.lt_of_lt_of_le h3 hb.size, h4, h5, fun j hj => ⟨by rw [World.cell?_of_block (w := w) he]; exact (h6 j hj).1, by rw [World.frozen?_of_block (w := w) he]; exact (h6 j hj).2⟩, fun j u hu => (World.cell?_of_block (w := w) he).trans (h7 j u hu)⟩
theorem chg_setCells (g : Nat) : ∀ (vs : List Value) (o : Nat) (w : World), Chg (· = g) w (w.setCells g o vs)
  | [], _, w => Chg.refl _ w
  | v :: r, o, w => ((Chg.refl _ w).own o v).trans (chg_setCells g r (o + 1) _) (fun _ _ h => h)
theorem cells_core {g cap i : Nat} {vs : List Value} (h6 : ∀ j, j < cap → (w.cell? ⟨g, j, none⟩).isSome = true ∧ w.frozen? ⟨g, j, none⟩ = false) (hi : i + vs.length ≤ cap) :
    (∀ j, j < cap → ((w.setCells g i vs).cell? ⟨g, j, none⟩).isSome = true ∧ (w.setCells g i vs).frozen? ⟨g, j, none⟩ = false) ∧ (∀ j, i ≤ j → j < i + vs.length → (w.setCells g i vs).cell? ⟨g, j, none⟩ = vs[j - i]?) ∧
    (∀ j, j < i ∨ i + vs.length ≤ j → (w.setCells g i vs).cell? ⟨g, j, none⟩ = w.cell? ⟨g, j, none⟩) := by
  have hin : ∀ j, i ≤ j → j < i + vs.length → (w.setCells g i vs).cell? ⟨g, j, none⟩ = vs[j - i]? := fun j h1 h2 => by
    have := World.cell?_setCells_in g vs i w (fun k hk => (h6 (i + k) (by omega)).1) (j - i) (by omega)
    rw [show i + (j - i) = j by omega] at this
    rw [this, List.getElem?_eq_getElem (by omega)]
  have hout : ∀ j, j < i ∨ i + vs.length ≤ j → (w.setCells g i vs).cell? ⟨g, j, none⟩ = w.cell? ⟨g, j, none⟩ := fun j hj => World.cell?_setCells_out g vs i w ⟨g, j, none⟩ (fun _ _ => hj)
  refine ⟨fun j hj => ⟨?_, by rw [World.frozen?_setCells]; exact (h6 j hj).2⟩, hin, hout⟩
  by_cases h : i ≤ j ∧ j < i + vs.length
  · rw [hin j h.1 h.2, List.getElem?_eq_getElem (by omega)]; rfl
  · rw [hout j (by omega)]; exact (h6 j hj).1
theorem splice_get? {b p : Bytes} {i : Nat} (h : i + p.length ≤ b.length) (j : Nat) : (splice b i p)[j]? = if i ≤ j ∧ j < i + p.length then p[j - i]? else b[j]? := by
  have hl := length_splice b i p h
  have hg := splice_getD h j
  by_cases hj : j < b.length
  · rw [List.getD_eq_getElem?_getD, List.getElem?_eq_getElem (by omega)] at hg
    simp only [Option.getD_some] at hg
    rw [List.getElem?_eq_getElem (by omega), hg]
    by_cases h2 : i ≤ j ∧ j < i + p.length
    · rw [if_pos h2, if_pos h2, List.getD_eq_getElem?_getD, List.getElem?_eq_getElem (by omega)]; rfl
    · rw [if_neg h2, if_neg h2, List.getD_eq_getElem?_getD, List.getElem?_eq_getElem hj]; rfl
  · rw [List.getElem?_eq_none (by omega), if_neg (by omega), List.getElem?_eq_none (by omega)]
/-- Some of its bytes are written. -/
theorem RowK.put (h : RowK w base v b) (hbase : base ≤ w.heap.size) {i : Nat} {p : Bytes} (hi : i + p.length ≤ b.length) : ∃ g cap, v = .slice (some ⟨g, 0, none⟩) b.length cap ∧ RowK (w.setCells g i (p.map u8v)) base v (splice b i p) ∧ Below base w (w.setCells g i (p.map u8v)) := by
  obtain ⟨g, cap, rfl, h2, h3, h4, h5, h6, h7⟩ := h
  have hl := length_splice b i p hi
  obtain ⟨k1, k2, k3⟩ := cells_core (vs := p.map u8v) (i := i) h6 (by rw [List.length_map]; omega)
  rw [List.length_map] at k2 k3
  have hc := chg_setCells g (p.map u8v) i w
  refine ⟨g, cap, rfl, ⟨g, cap, by rw [hl], h2, Nat.lt_of_lt_of_le h3 hc.size, by rw [hl]; exact h4, h5, k1, fun j u hu => ?_⟩, hc.belowB hbase (fun j hj e => by have e : j = g := e; omega)⟩
  rw [List.getElem?_map, splice_get? hi] at hu
  by_cases hj : i ≤ j ∧ j < i + p.length
  · rw [if_pos hj] at hu
    rw [k2 j hj.1 hj.2, List.getElem?_map]
    exact hu
  · rw [if_neg hj] at hu
    rw [k3 j (by omega)]
    exact h7 j u (by rw [List.getElem?_map]; exact hu)
theorem RowK.push (h : RowK w base v b) (hbase : base ≤ w.heap.size) {ad : Addr} {c : Nat} {x : UInt8} (hx : w.cell? ad = some (u8v x)) (hl : b.length + 1 ≤ 1000000) (ty : TypeId) :
    ∃ v' w', (Builtin.append_ #[35, 35] ty #[v, .slice (some ad) 1 c]).run Tryz.prog w = .ok v' w' ∧ RowK w' base v' (b ++ [x]) ∧ Below base w w' := by
  obtain ⟨g, cap, rfl, h2, h3, h4, h5, h6, h7⟩ := h
  have hinfo : (Tryz.prog.info? 5).map (fun i => (i.zero, i.size, i.bytes)) = some (some (.int .u8 0), 1, 1) := by kernel_rfl
  obtain ⟨i, hi, hz, hs, hby⟩ := info_parts hinfo
  have hnews : ∀ j u, [u8v x][j]? = some u → w.cell? (ad.add j) = some u := fun j u hu => by
    match j with
    | 0 => simp at hu; subst hu; have : ad.add 0 = ad := by unfold Addr.add; split <;> simp_all
           rw [this]; exact hx
    | j + 1 => simp at hu
  by_cases hr : b.length + 1 ≤ cap
  · have hrun := run_append_room_cells (P := Tryz.prog) w 35 ty 5 i Tryz.underlying35 hi g 0 b.length cap ad 1 c [u8v x] (by rw [hs]; rfl) hnews (by simp [u8v, Value.oneCell']) hr
      (fun j hj => by
        have : j = 0 := by simpa using hj
        subst this
        rw [hs, show 0 + b.length * 1 + 0 = b.length by omega]
        exact (h6 b.length (by omega)).1)
      (fun j hj => by
        have : j = 0 := by simpa using hj
        subst this
        rw [hs, show 0 + b.length * 1 + 0 = b.length by omega]
        exact (h6 b.length (by omega)).2)
    rw [hs, show 0 + b.length * 1 = b.length by omega] at hrun
    refine ⟨_, _, hrun, ⟨g, cap, by rw [List.length_append]; rfl, h2, ?_, by rw [List.length_append]; exact hr, h5, fun j hj => ⟨?_, ?_⟩, fun j u hu => ?_⟩, ?_⟩
    · exact Nat.lt_of_lt_of_le h3 (chg_setCells g [u8v x] b.length w).size
    · exact ((cells_core (vs := [u8v x]) (i := b.length) h6 hr).1 j hj).1
    · exact ((cells_core (vs := [u8v x]) (i := b.length) h6 hr).1 j hj).2
    · obtain ⟨_, k2, k3⟩ := cells_core (vs := [u8v x]) (i := b.length) h6 hr
      rw [List.map_append] at hu
      by_cases hj : j < b.length
      · rw [List.getElem?_append_left (by rw [List.length_map]; exact hj)] at hu
        rw [k3 j (.inl hj)]
        exact h7 j u hu
      · rw [List.getElem?_append_right (by rw [List.length_map]; omega), List.length_map] at hu
        by_cases hj2 : j < b.length + 1
        · rw [k2 j (by omega) hj2]; exact hu
        · rw [List.getElem?_eq_none (by simp; omega)] at hu; cases hu
    · exact (chg_setCells g [u8v x] b.length w).belowB hbase (fun j hj e => by have e : j = g := e; omega)
  · obtain ⟨v', w', hrun, hown, hgr⟩ := run_append_arg_grows (P := Tryz.prog) w 35 ty 5 i _ 1 1 Tryz.underlying35 hi hz hs hby (by rfl) (by omega) ⟨g, 0, none⟩ b.length cap (b.map u8v) (by simp) (fun j u hu => by
      have : (⟨g, 0, none⟩ : Addr).add j = ⟨g, j, none⟩ := by unfold Addr.add; split <;> simp_all
      rw [this]; exact h7 j u hu) ad 1 c [u8v x] rfl hnews (by omega) (by unfold maxLen; omega) (by omega)
    have hB : Below w.heap.size w w' := ⟨hgr.os, hgr.tape, hgr.output, hgr.size, fun k hk => hgr.block k hk (by simp)⟩
    refine ⟨v', w', hrun, ?_, hB.mono hbase⟩
    have hown0 := hown
    rcases hown.2 with ⟨_, h0⟩ | ⟨g', cap', cur, rfl, hb', hg', hnc, hcm, hcs, htk⟩
    · omega
    · refine ⟨g', cap', by rw [List.length_append]; rfl, Nat.le_trans hbase hb', lt_of_heap hg', by rw [List.length_append]; exact hnc, hcm, fun j hj => ⟨?_, frozen_of hg' j⟩, fun j u hu => ?_⟩
      · rw [cell_of hg', Array.getElem?_eq_getElem (by omega)]; rfl
      · rw [List.map_append] at hu
        have := hown0.cellAt j (by
          have := (List.getElem?_eq_some_iff.1 hu).1
          simpa using this)
        rw [this]
        exact hu
end
end Go.Proofs.YtbnoebdpbpjbkaaGreat
/-
  The statements' write of layer 6: what comes of bytes that are written at a place.
-/
namespace Go.Proofs.YtbnoebdpbpjbkaaGreat
open Go.RowKit Go.Lz
section
variable {w w0 : World}
theorem RowK.form {base : Nat} {v : Value} {b : Bytes} (h : RowK w base v b) : ∃ g c, v = .slice (some ⟨g, 0, none⟩) b.length c ∧ b.length ≤ c ∧ c ≤ maxLen := by
  obtain ⟨g, cap, h1, h2, h3, h4, h5, _⟩ := h
  exact ⟨g, cap, h1, h4, h5⟩
theorem wpList_append_run {P : Program} {ops : Array Oper} {rest : List Oper} {o : Oper} {a : Act} {Q : Exit → Act → World → Prop} {w w' : World} (hgd : o.guard = none) (s x : Operand) (t : TypeId) (ho : o.op = .call { callee := .builtin .append, args := #[s, x], argTypes := #[t, t] }) {v vx v' : Value} (hs : a.eval s = v) (hx : a.eval x = vx)
    (hrun : (Builtin.append_ #[t, t] o.type #[v, vx]).run P w = .ok v' w') (h : wpList P ops Q rest (a.put o.dst v') w') : wpList P ops Q (o :: rest) a w := by
  refine wpList_plain hgd fun K hK' => ?_
  unfold Oper.wp
  simp [execOp, ho, resolve, invoke, builtin, hs, hx, hrun, Result.andThen]
  exact hK' _ _ h
theorem wpList_copy_run {P : Program} {ops : Array Oper} {rest : List Oper} {o : Oper} {a : Act} {Q : Exit → Act → World → Prop} {w w' : World} (hgd : o.guard = none) (s x : Operand) (t u : TypeId) (ho : o.op = .call { callee := .builtin .copy, args := #[s, x], argTypes := #[t, u] }) {v vx v' : Value} (hs : a.eval s = v) (hx : a.eval x = vx)
    (hrun : (Builtin.copy_ #[t, u] o.type #[v, vx]).run P w = .ok v' w') (h : wpList P ops Q rest (a.put o.dst v') w') : wpList P ops Q (o :: rest) a w := by
  refine wpList_plain hgd fun K hK' => ?_
  unfold Oper.wp
  simp [execOp, ho, resolve, invoke, builtin, hs, hx, hrun, Result.andThen]
  exact hK' _ _ h
theorem RowK.string {base : Nat} {v : Value} {b : Bytes} (h : RowK w base v b) : (convert 35 9 v).run Tryz.prog w = .ok (.string ⟨b.toArray⟩) w := by
  obtain ⟨g, cap, rfl, _, _, _, _, _, h7⟩ := h
  refine run_convert_bytes_back (P := Tryz.prog) w 35 9 5 ⟨g, 0, none⟩ cap b Tryz.underlying35 Tryz.underlying5 Tryz.underlying9 (fun i hi => ?_)
  rw [show (⟨g, 0, none⟩ : Addr).add i = ⟨g, i, none⟩ from by unfold Addr.add; split <;> simp_all]
  exact h7 i _ (by rw [List.getElem?_map, List.getElem?_eq_getElem hi]; rfl)
set_option maxRecDepth 100000 in
/-- A text is copied into a row. -/
theorem RowK.copy {base : Nat} {b p : Bytes} {g c i : Nat} (h : RowK w base (.slice (some ⟨g, 0, none⟩) b.length c) b) (hi : i + p.length ≤ b.length) (ty : TypeId) :
    (Builtin.copy_ #[35, 9] ty #[.slice (some ⟨g, i, none⟩) (b.length - i) (c - i), .string ⟨p.toArray⟩]).run Tryz.prog w = .ok (goInt p.length) (w.setCells g i (p.map u8v)) := by
  obtain ⟨g', cap, e1, _, _, h4, _, h6, _⟩ := h
  injection e1 with e1 e5 e6
  injection e1 with e1
  injection e1 with e1
  subst e1 e6
  have hsz : (⟨p.toArray⟩ : ByteArray).size = p.length := rfl
  exact run_copy_string w 35 9 ty 5 g i (b.length - i) (c - i) ⟨p.toArray⟩ Tryz.underlying35 (fun w => by kernel_rfl) (by rw [hsz]; omega) (fun j hj => by rw [hsz] at hj; exact (h6 (i + j) (by omega)).1) (fun j hj => by rw [hsz] at hj; exact (h6 (i + j) (by omega)).2)
set_option maxRecDepth 100000 in
set_option maxHeartbeats 2000000 in
theorem lwrite_any (w : World) {s p : Bytes} {at' : Nat} (hs : s.length ≤ 16384) (hp : at' + p.length ≤ 16384) : Calls Tryz.prog 58 #[.string ⟨s.toArray⟩, .int .i64 (at' : Int), .string ⟨p.toArray⟩] w fun e w' => e = .returned (.string ⟨(if p = [] then s else wrB s at' p).toArray⟩) ∧ Below w.heap.size w w' := by
  have kr := run_bytes w s
  have hK := RowK.of_string w s (by omega)
  have hB := bytes_below w s
  obtain ⟨c0, hc0⟩ : ∃ c, c = bcap w s := ⟨_, rfl⟩
  rw [← hc0] at kr hK
  generalize w.drew.alloc (bobj w s) = W at *
  have hKH : Hid _ := Lib.hid hK
  have hBH : Hid _ := Lib.hid hB
  clear hc0 hK hB
  go_enter Tryz.func58, Tryz.ntmps58
  go_wp2_with fail
  by_cases hp0 : p = []
  · subst hp0
    have hB := hBH.out
    have hst := hKH.out.string
    have hcp0 : ∀ (o n c : Nat), (Builtin.copy_ #[35, 9] 3 #[.slice (some ⟨w.heap.size, o, none⟩) n c, .string ⟨#[]⟩]).run Tryz.prog W = .ok (goInt 0) W := fun o n c =>
      run_copy_string W 35 9 3 5 w.heap.size o n c ⟨#[]⟩ Tryz.underlying35 (fun w => by kernel_rfl) (Nat.zero_le _) (fun j hj => absurd hj (Nat.not_lt_zero j)) (fun j hj => absurd hj (Nat.not_lt_zero j))
    obtain ⟨i, hi⟩ : ∃ i, i = min at' s.length := ⟨_, rfl⟩
    have hmin : min (at' : Int) (s.length : Int) = (i : Int) := by omega
    have hcc : s.length ≤ c0 := by
      obtain ⟨g0, c1, e1, hc1, hc2⟩ := hKH.out.form
      injection e1 with _ _ e2
      omega
    have ha1 : i ≤ s.length := by omega
    have ha2 : i ≤ c0 := by omega
    have hcpH : Hid _ := Lib.hid hcp0
    have hiH : Hid _ := Lib.hid hi
    clear hcp0 hi
    go_loopg [7, 10, 11, 12, 13, 14, 15, 16, 17, 18, 19, 20, 21, 22, 23] 0 (fun g bv _ _ _ _ _ _ _ _ _ _ _ _ _ _ wr => g = 0 ∧ bv = .slice (some ⟨w.heap.size, 0, none⟩) s.length c0 ∧ wr = W)
    case atStart => exact ⟨rfl, rfl, rfl⟩
    case round =>
      obtain ⟨rfl, rfl, rfl⟩ := hrel
      by_cases hlt : (s.length : Int) < (at' : Int)
      · by_cases hci : c0 = i
        · subst hci
          go_upto_region 4 with fail
          go_step
          go_step
          go_step
          go_step
          go_step
          go_step
          go_step
          go_step
          go_step
          go_step
          go_step
          go_step
          go_step
          go_step
          go_step
          go_step
          go_step
          go_step
          go_step
          go_step
          go_step
          go_step
          refine wpList_copy_run rfl _ _ 35 9 rfl rfl rfl (hcpH.out _ _ _) ?_
          go_frame
          go_wp2_with fail
          go_ret
          exact ⟨rfl, hBH.out⟩
        · go_upto_region 4 with fail
          go_step
          go_step
          go_step
          go_step
          go_step
          go_step
          go_step
          go_step
          go_step
          go_step
          go_step
          go_step
          go_step
          go_step
          go_step
          go_step
          go_step
          go_step
          go_step
          go_step
          go_step
          go_step
          refine wpList_copy_run rfl _ _ 35 9 rfl rfl rfl (hcpH.out _ _ _) ?_
          go_frame
          go_wp2_with fail
          go_ret
          exact ⟨rfl, hBH.out⟩
      · by_cases hci : c0 = i
        · subst hci
          go_upto_region 4 with fail
          go_step
          go_step
          go_step
          go_step
          go_step
          go_step
          go_step
          go_step
          go_step
          go_step
          go_step
          go_step
          go_step
          go_step
          go_step
          go_step
          go_step
          go_step
          go_step
          go_step
          go_step
          go_step
          refine wpList_copy_run rfl _ _ 35 9 rfl rfl rfl (hcpH.out _ _ _) ?_
          go_frame
          go_wp2_with fail
          go_ret
          exact ⟨rfl, hBH.out⟩
        · go_upto_region 4 with fail
          go_step
          go_step
          go_step
          go_step
          go_step
          go_step
          go_step
          go_step
          go_step
          go_step
          go_step
          go_step
          go_step
          go_step
          go_step
          go_step
          go_step
          go_step
          go_step
          go_step
          go_step
          go_step
          refine wpList_copy_run rfl _ _ 35 9 rfl rfl rfl (hcpH.out _ _ _) ?_
          go_frame
          go_wp2_with fail
          go_ret
          exact ⟨rfl, hBH.out⟩
  · have hq : (p == []) = false := by simpa using hp0
    obtain ⟨M, hM⟩ : ∃ M, M = at' + p.length - s.length := ⟨_, rfl⟩
    have hMH : Hid _ := Lib.hid hM
    have hp0H : Hid _ := Lib.hid hp0
    clear hM
    go_loopg [7, 10, 11, 12, 13, 14, 15, 16, 17, 18, 19, 20, 21, 22, 23] M (fun g bv _ _ _ _ _ _ _ _ _ _ _ _ _ _ wr => ∃ k : Nat, k + g = M ∧ RowK wr w.heap.size bv (s ++ List.replicate k 0) ∧ Below w.heap.size w wr)
    case atStart => exact ⟨0, by omega, by rw [List.replicate_zero, List.append_nil]; exact hKH.out, hBH.out⟩
    case round =>
      obtain ⟨k, hk, hK, hB⟩ := hrel
      rename World => wr
      obtain ⟨g, c, rfl, hc1, hc2⟩ := hK.form
      have hl : (s ++ List.replicate k (0 : UInt8)).length = s.length + k := by rw [List.length_append, List.length_replicate]
      rw [hl] at hK hc1 ⊢
      have hMo := hMH.out
      by_cases hkM : k < M
      · have hkz : (s.length : Int) + (k : Int) < (at' : Int) + (p.length : Int) := by omega
        have hKa := hK.below ((Below.refl _ wr).alloc (Nat.le_refl _) (.cells #[.int .u8 0] 5))
        obtain ⟨v', w', hrun, hK', hB'⟩ := hKa.push (ad := ⟨wr.heap.size, 0, none⟩) (c := 1) (x := 0) (by have := hB.size; simp; omega) (cell_of (heap_alloc_new wr (.cells #[.int .u8 0] 5)) 0) (by rw [hl]; omega) 35
        rw [List.append_assoc, ← List.replicate_succ'] at hK'
        have hK'H : Hid _ := Lib.hid hK'
        have hB'H : Hid _ := Lib.hid (hB.trans (((Below.refl _ wr).alloc (Nat.le_refl _) (.cells #[.int .u8 0] 5)).mono hB.size |>.trans hB'))
        have hkH : Hid _ := Lib.hid hk
        have hkMH : Hid _ := Lib.hid hkM
        clear hK' hB' hKa hK hB hk hMo hl hkM
        go_upto_region 3 with fail
        go_step
        go_step
        go_step
        go_step
        go_step
        go_step
        go_step
        refine wpList_append_run (v := .slice (some ⟨g, 0, none⟩) (s.length + k) c) (vx := .slice (some ⟨wr.heap.size, 0, none⟩) 1 1) (v' := v') (w' := w') rfl _ _ 35 rfl rfl rfl hrun ?_
        go_frame
        go_wp2_with fail
        go_roundg (gk - 1)
        case measure => have := hkH.out; have := hkMH.out; omega
        case rel =>
          have := hkH.out
          have := hkMH.out
          exact ⟨k + 1, by omega, hK'H.out, hB'H.out⟩
      · have hkz : ¬ (s.length : Int) + (k : Int) < (at' : Int) + (p.length : Int) := by omega
        obtain ⟨L, hLe⟩ : ∃ L, L = s.length + k := ⟨_, rfl⟩
        have hL1 : at' + p.length ≤ L := by omega
        have hpl : 0 < p.length := List.length_pos_iff.2 hp0H.out
        have hmin : min (at' : Int) ((s.length : Int) + (k : Int)) = (at' : Int) := by omega
        have hkM2 : k = M := by omega
        have hlb : (s ++ List.replicate k (0 : UInt8)).length = s.length + k := by rw [List.length_append, List.length_replicate]
        rw [← hlb] at hK
        have hcp := RowK.copy (p := p) (i := at') hK (by rw [hlb]; omega) 3
        obtain ⟨g', c', e1, hK2, hB2⟩ := hK.put hB.size (i := at') (p := p) (by rw [hlb]; omega)
        injection e1 with e1 _ ec
        injection e1 with e1
        injection e1 with e1
        subst e1 ec
        rw [hlb] at hcp hK2
        have hw : splice (s ++ List.replicate k (0 : UInt8)) at' p = wrB s at' p := by
          unfold wrB
          rw [hkM2, hMH.out]
        rw [hw] at hK2
        have hB3 := hB.trans hB2
        have hst := hK2.string
        have ha1 : at' ≤ s.length + k := by omega
        have ha2 : at' ≤ c := by omega
        have ha3 : ¬ c = at' := by omega
        have hB3H : Hid _ := Lib.hid hB3
        clear hK hB hB2 hK2 hw hlb hLe hL1 hk hkM hkM2 hB3
        go_upto_region 4 with fail
        go_step
        go_step
        go_step
        go_step
        go_step
        go_step
        go_step
        go_step
        go_step
        go_step
        go_step
        go_step
        go_step
        go_step
        go_step
        go_step
        go_step
        go_step
        go_step
        go_step
        go_step
        go_step
        refine wpList_copy_run (v := .slice (some ⟨g, at', none⟩) (s.length + k - at') (c - at')) (vx := .string ⟨p.toArray⟩) (v' := goInt p.length) (w' := wr.setCells g at' (p.map u8v)) rfl _ _ 35 9 rfl rfl rfl hcp ?_
        go_frame
        go_wp2_with fail
        go_ret
        exact ⟨rfl, hB3H.out⟩
end
end Go.Proofs.YtbnoebdpbpjbkaaGreat
/-
  The document's answer of layer 3, as far as layer 6's statements ask: two sets are the same.
-/
namespace Go.Proofs.YtbnoebdpbpjbkaaGreat
open Go.RowKit Go.Lz
section
variable {w w0 : World} {G1 G2 : Nat → Prop}
set_option maxRecDepth 100000 in
set_option maxHeartbeats 2000000 in
theorem sameset_any {v1 v2 : Value} {l : List Int} (h1 : IntsAt w G1 v1 l) (h2 : IntsAt w G2 v2 l) : Calls Tryz.prog 27 #[v1, v2] w fun e w' => e = .returned (.bool true) ∧ Below w.heap.size w w' := by
  obtain ⟨a1, n, c1, rfl, hl1, hn1, hc1⟩ := h1
  obtain ⟨a2, n2, c2, rfl, hl2, hn2, hc2⟩ := h2
  obtain rfl : n2 = n := by omega
  have hc1H : Hid _ := Lib.hid hc1
  have hc2H : Hid _ := Lib.hid hc2
  clear hc1 hc2 hl1 hl2 hn2
  go_enter Tryz.func27, Tryz.ntmps27
  go_wp2_with fail
  go_loopg [5, 4, 11, 12, 13, 14, 15, 16, 17, 18, 19, 20, 21, 22, 23, 24, 25] n2 (fun g iv _ _ _ _ _ _ _ _ _ _ _ _ _ _ _ _ wr => ∃ i : Nat, i + g = n2 ∧ iv = .int .i64 (i : Int) ∧ Below w.heap.size w wr)
  case atStart => exact ⟨0, by omega, rfl, Below.refl _ _⟩
  case round =>
    obtain ⟨i, hi, rfl, hB⟩ := hrel
    rename World => wr
    by_cases hin : i < n2
    · have hiz : (i : Int) < (n2 : Int) := by omega
      have hn0 : ¬ n2 = 0 := by omega
      obtain ⟨b1, o1, rfl, _, hb1, hd1⟩ := hc1H.out.resolve_left hn0
      obtain ⟨b2, o2, rfl, _, hb2, hd2⟩ := hc2H.out.resolve_left hn0
      obtain ⟨x, hx⟩ : ∃ x, x = l.getD i 0 := ⟨_, rfl⟩
      have q1 : wr.cell? ⟨b1, o1 + i, none⟩ = some (.int .i64 x) := by rw [hx]; exact (hB.cell (p := ⟨b1, o1 + i, none⟩) hb1).trans (hd1 i hin)
      have q2 : wr.cell? ⟨b2, o2 + i, none⟩ = some (.int .i64 x) := by rw [hx]; exact (hB.cell (p := ⟨b2, o2 + i, none⟩) hb2).trans (hd2 i hin)
      have hiH : Hid _ := Lib.hid hi
      have hBH : Hid _ := Lib.hid hB
      clear hx hd1 hd2 hi hB hn0
      go_upto_region 6 with fail
      refine wp_region_quiet (C := fun W => W = wr.drew) (by kernel_rfl) (by kernel_rfl) rfl ?_
      repeat (any_goals (first | go_big_quiet_step (fail) | quiet_step (fail)))
      refine wpQuiet_nil ?_
      rintro _ rfl
      go_wp2_with fail
      go_roundg (gk - 1)
      case measure => have := hiH.out; omega
      case rel =>
        have := hiH.out
        exact ⟨i + 1, by omega, by go_num, hBH.out.drew⟩
    · have hiz : ¬ (i : Int) < (n2 : Int) := by omega
      have hBH : Hid _ := Lib.hid hB
      go_wp2_with fail
      go_ret
      exact ⟨rfl, hBH.out⟩
set_option maxRecDepth 100000 in
set_option maxHeartbeats 2000000 in
theorem same3_any {vs1 vi1 vs2 vi2 : Value} {s l : List Int} {H1 H2 : Nat → Prop} (hs1 : IntsAt w G1 vs1 s) (hs2 : IntsAt w G2 vs2 s) (hi1 : IntsAt w H1 vi1 l) (hi2 : IntsAt w H2 vi2 l) : Calls Tryz.prog 63 #[.agg #[vs1, vi1], .agg #[vs2, vi2]] w fun e w' => e = .returned (.bool true) ∧ Below w.heap.size w w' := by
  obtain ⟨a1, c1, rfl⟩ := IntsAt.form hs1
  obtain ⟨a2, c2, rfl⟩ := IntsAt.form hs2
  obtain ⟨a3, c3, rfl⟩ := IntsAt.form hi1
  obtain ⟨a4, c4, rfl⟩ := IntsAt.form hi2
  go_enter Tryz.func63, Tryz.ntmps63
  go_upto_region 1 with fail
  have hb1 := (Below.refl w.heap.size w).alloc (Nat.le_refl _) (.cells #[.slice a1 s.length c1, .slice a3 l.length c3] 31)
  have k1 := heap_alloc_new w (.cells #[.slice a1 s.length c1, .slice a3 l.length c3] 31)
  have z1 : (w.alloc (.cells #[.slice a1 s.length c1, .slice a3 l.length c3] 31)).heap.size = w.heap.size + 1 := by simp
  have hb2 := (Below.refl (w.alloc (.cells #[.slice a1 s.length c1, .slice a3 l.length c3] 31)).heap.size _).alloc (Nat.le_refl _) (.cells #[.slice a2 s.length c2, .slice a4 l.length c4] 31)
  have k2 := heap_alloc_new (w.alloc (.cells #[.slice a1 s.length c1, .slice a3 l.length c3] 31)) (.cells #[.slice a2 s.length c2, .slice a4 l.length c4] 31)
  have k12 := (hb2.block w.heap.size (by omega)).trans k1
  rw [z1] at k2
  have hB : Below w.heap.size w _ := hb1.trans (hb2.mono hb1.size)
  generalize (w.alloc (.cells #[.slice a1 s.length c1, .slice a3 l.length c3] 31)).alloc (.cells #[.slice a2 s.length c2, .slice a4 l.length c4] 31) = W at *
  have q1 : W.cell? ⟨w.heap.size, 0, none⟩ = some (.slice a1 s.length c1) := cell_of k12 0
  have q3 : W.cell? ⟨w.heap.size, 1, none⟩ = some (.slice a3 l.length c3) := cell_of k12 1
  have q2 : W.cell? ⟨w.heap.size + 1, 0, none⟩ = some (.slice a2 s.length c2) := cell_of k2 0
  have q4 : W.cell? ⟨w.heap.size + 1, 1, none⟩ = some (.slice a4 l.length c4) := cell_of k2 1
  have cS := sameset_any (IntsAt.below hs1 hB) (IntsAt.below hs2 hB)
  have l1 := lt_of_heap k12
  have l2 := lt_of_heap k2
  have cI : ∀ W', Below W.heap.size W W' → Calls Tryz.prog 27 #[.slice a3 l.length c3, .slice a4 l.length c4] W' fun e w' => e = .returned (.bool true) ∧ Below W'.heap.size W' w' := fun W' hb =>
    sameset_any (IntsAt.below hi1 (hB.trans (hb.mono hB.size))) (IntsAt.below hi2 (hB.trans (hb.mono hB.size)))
  have hBH : Hid _ := Lib.hid hB
  clear hb1 hb2 k1 k2 k12 z1 hB hs1 hs2 hi1 hi2
  go_wp2_with fail
  go_at_call 27
  with_reducible refine cS.mono ?_
  rintro e w3 ⟨rfl, hb3⟩
  have q5 : w3.cell? ⟨w.heap.size, 1, none⟩ = some (.slice a3 l.length c3) := (hb3.cell (p := ⟨w.heap.size, 1, none⟩) l1).trans q3
  have q6 : w3.cell? ⟨w.heap.size + 1, 1, none⟩ = some (.slice a4 l.length c4) := (hb3.cell (p := ⟨w.heap.size + 1, 1, none⟩) l2).trans q4
  have cI3 := cI _ hb3
  clear cS cI
  go_wp2_with (go_at_call 27; refine cI3.mono ?_; rintro e w4 ⟨rfl, hb4⟩)
  go_ret
  exact ⟨rfl, (hBH.out.trans (hb3.mono hBH.out.size)).trans (hb4.mono (Nat.le_trans hBH.out.size hb3.size))⟩
end
end Go.Proofs.YtbnoebdpbpjbkaaGreat
/-
  The statements' own same of layer 6: does a base tell a node as the list has it?
-/
namespace Go.Proofs.YtbnoebdpbpjbkaaGreat
open Go.RowKit Go.Lz
section
variable {w w0 : World} {p q pb pn pk N cc m : Nat} {L : Locals} {A A0 : Nodes}
theorem own_new6 {T : World → (Nat → Prop) → Prop} (h : Own w0 w T L) (hk : Keeps T) (o : Obj) : Own w0 (w.alloc o) T (upd L w.heap.size (some o)) :=
  h.local_ hk ((Below.refl _ w).alloc (Nat.le_refl _) o) (Nat.le_refl _) (heap_alloc_new w o)
/-- The list has no such node. -/
def offV : Value := .agg #[.bool false, .int .i64 0, .int .i64 0, .slice none 0 0, .slice none 0 0, .string ⟨#[]⟩]
set_option maxRecDepth 100000 in
set_option maxHeartbeats 2000000 in
theorem same6_off {z : Int} (h : Own w0 w (TB p q N A A0 cc m) L) (hL : BaseL L pb p pn pk N) (hz : ¬ IsN A z) : Calls Tryz.prog 25 #[Dptr pb, .int .i64 z, offV] w (Did w0 w (TB p q N A A0 cc m) L (.bool true)) := by
  have hn := h.none_ (Nat.le_refl w.heap.size)
  have hO1 := own_new6 h (keepsTB _ _ _ _ _ _ _) (.cells #[.bool false, .int .i64 0, .int .i64 0, .slice none 0 0, .slice none 0 0, .string ⟨#[]⟩] 53)
  have hL1 := hL.upd_ (o := .cells #[.bool false, .int .i64 0, .int .i64 0, .slice none 0 0, .slice none 0 0, .string ⟨#[]⟩] 53) hn
  have cI := info6_none hO1 hL1 hz
  have hs1 : w.heap.size ≤ (w.alloc (.cells #[.bool false, .int .i64 0, .int .i64 0, .slice none 0 0, .slice none 0 0, .string ⟨#[]⟩] 53)).heap.size := by simp
  unfold offV
  go_enter Tryz.func25, Tryz.ntmps25
  go_upto_region 2 with (go_at_call 12; refine cI.mono ?_; rintro e w2 ⟨rfl, hO2, hs2⟩)
  have d5 : (w2.alloc (.cells #[.int .i64 0, .int .i64 0, .int .i64 0, .slice none 0 0, .slice none 0 0] 37)).cell? ⟨w.heap.size, 0, none⟩ = some (.bool false) := by
    have h5 : w2.cell? ⟨w.heap.size, 0, none⟩ = some (.bool false) := cell_of (hO2.loc (upd_same _ _ _)) 0
    exact (World.cell?_alloc_lt _ _ _ (hO2.loc_lt (upd_same _ _ _))).trans h5
  have k7 := heap_alloc_new w2 (.cells #[.int .i64 0, .int .i64 0, .int .i64 0, .slice none 0 0, .slice none 0 0] 37)
  have d7 := cell_of k7 0
  have hO3 := hO2.below (keepsTB _ _ _ _ _ _ _) ((Below.refl _ w2).alloc (Nat.le_refl _) (.cells #[.int .i64 0, .int .i64 0, .int .i64 0, .slice none 0 0, .slice none 0 0] 37))
  have hs3 : w2.heap.size ≤ (w2.alloc (.cells #[.int .i64 0, .int .i64 0, .int .i64 0, .slice none 0 0, .slice none 0 0] 37)).heap.size := by simp
  go_wp2_with fail
  go_ret
  exact ⟨rfl, hO3.drop hn, by omega⟩
end
end Go.Proofs.YtbnoebdpbpjbkaaGreat
