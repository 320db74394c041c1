/-
  The texts Dd8 Dd9 DL, one behind the other.
-/
import Derived.Test.YtjngphffgdjcfaaGreatDoorME25
import Derived.Lib.AppendStr
import Derived.Deep.RegionHeldLaw
import Derived.Deep.AppendLies
import Derived.Test.YtjngphffgdjcfaaGreatDoorMExDN
import Derived.BigQuiet
import Derived.Deep.QuietTactic
/-
  Package dir: save, over a base under small folders: the entries' bytes.
-/
namespace Go.Proofs.YtjngphffgdjcfaaGreatDoor
open Go.RowKit Go.Lz
section
variable {w0 w : World} {p q pb pn pk n N cc : Nat} {A : Nodes} {a : NodeA} {L : Locals} {l : List Entry}
/-- A row of one's own bytes that grows. -/
def ByteRow (w W : World) (v : Value) (bs : Bytes) : Prop := W.ownsRow w.heap.size 5 1 v bs.length (bs.map u8v) ∧ Below w.heap.size w W
theorem u8_info : (Tryz.prog.info? 5).map (fun i => (i.zero, i.size, i.bytes)) = some (some (.int .u8 0), 1, 1) := by kernel_rfl
theorem ByteRow.alloc {W : World} {v : Value} {bs : Bytes} (h : ByteRow w W v bs) (o : Obj) : ByteRow w (W.alloc o) v bs := ⟨h.1.alloc o, h.2.alloc h.2.size o⟩
theorem ByteRow.drew {W : World} {v : Value} {bs : Bytes} (h : ByteRow w W v bs) : ByteRow w W.drew v bs := ⟨h.1, h.2.drew⟩
theorem ByteRow.lt {W : World} {v : Value} {bs : Bytes} (h : ByteRow w W v bs) {k : Nat} (hk : W.heap.size ≤ k) : v.ownBlock ≠ some k := fun e => by
  have := (h.1.lt k e).2
  omega
theorem ByteRow.grow {W : World} {v : Value} {bs : Bytes} (h : ByteRow w W v bs) : ∀ k, v.ownBlock = some k → w.heap.size ≤ k := fun k hk => (h.1.lt k hk).1
/-- The row, and the entry that is written. -/
structure PSt (w W : World) (v : Value) (bs : Bytes) (bo : Nat) (x : Entry) : Prop where
  row : ByteRow w W v bs
  blk : W.heap[bo]? = some (.cells #[.string (bmk x.1), .int .i64 (x.2 : Int)] 41 (0, 0))
section
variable {W : World} {v : Value} {bs : Bytes} {bo g : Nat} {x : Entry} {u : Value}
theorem PSt.alloc (h : PSt w W v bs bo x) (o : Obj) : PSt w (W.alloc o) v bs bo x := ⟨h.row.alloc o, (((Below.refl _ W).alloc (Nat.le_refl _) o).block bo (lt_of_heap h.blk)).trans h.blk⟩
theorem PSt.drew (h : PSt w W v bs bo x) : PSt w W.drew v bs bo x := ⟨h.row.drew, h.blk⟩
theorem PSt.ne (h : PSt w W v bs bo x) : v.ownBlock ≠ some bo := fun e => by
  rcases h.row.1.2 with ⟨h1, _⟩ | ⟨g, cap, cur, h1, h2, h3, _⟩
  · rw [h1] at e; cases e
  · rw [h1] at e
    cases e
    rw [h.blk] at h3
    cases h3
theorem PSt.cells (h : PSt w W v bs bo x) : W.cell? ⟨bo, 0, none⟩ = some (.string (bmk x.1)) ∧ W.cell? ⟨bo, 1, none⟩ = some (.int .i64 (x.2 : Int)) := ⟨cell_of h.blk 0, cell_of h.blk 1⟩
/-- A byte by itself. -/
def Kept (W : World) (v : Value) (g : Nat) (u : Value) : Prop := W.cell? ⟨g, 0, none⟩ = some u ∧ g < W.heap.size ∧ v.ownBlock ≠ some g
theorem Kept.alloc (h : Kept W v g u) (o : Obj) : Kept (W.alloc o) v g u := ⟨(World.cell?_alloc_lt _ _ _ h.2.1).trans h.1, by have := h.2.1; simp; omega, h.2.2⟩
theorem Kept.drew (h : Kept W v g u) : Kept W.drew v g u := h
theorem Kept.new (h : PSt w W v bs bo x) (u : Value) : Kept (W.alloc (.cells #[u] 5)) v W.heap.size u := ⟨cell_of (heap_alloc_new W _) 0, by simp, h.row.lt (Nat.le_refl _)⟩
/-- One byte more. -/
theorem step_app1 {ops : Array Oper} {o : Oper} {ac : Act} {K : Act → World → Prop} {Q : Exit → Act → World → Prop} {E : Prop} (hgd : o.guard = none) (s t : Operand)
    (ho : o.op = .call { callee := .builtin .append, args := #[s, t], argTypes := #[23, 23] }) {y : UInt8}
    (hr : PSt w W v bs bo x) (hy : Kept W v g u) (hyu : u = u8v y) (hb : bs.length ≤ 100000) (hs : ac.eval s = v) (hx : ac.eval t = .slice (some ⟨g, 0, none⟩) 1 1)
    (h : ∀ v' w', PSt w w' v' (bs ++ [y]) bo x → (∀ g u, Kept W v g u → Kept w' v' g u) → K (ac.put o.dst v') w') :
    if Region.wanted o (yielded ops ac.tmps) = true then Oper.wp Tryz.prog o ac W K Q else E := by
  subst hyu
  obtain ⟨i0, hi, hz0, hz1, hz2⟩ := info_parts u8_info
  obtain ⟨v', w', hrun, h2, h3, _, h5⟩ := run_append_own_at (P := Tryz.prog) W w.heap.size 23 o.type 5 i0 (.int .u8 0) 1 1 Tryz.underlying23 hi hz0 hz1 hz2 rfl (by decide) v bs.length (bs.map u8v) hr.row.1 ⟨g, 0, none⟩ 1 1 [u8v y] rfl (fun j u hu => by
    rw [add0]
    cases j with
    | zero => rw [← hu]; exact hy.1
    | succ j => simp at hu) (by simp [u8v, Value.oneCell']) (by unfold maxLen; omega) (by omega) hr.row.2.size
  refine step_builtin_run hgd s t 23 23 ho hs hx hrun (h v' w' ⟨⟨by rw [List.length_append, List.map_append]; exact h2, hr.row.2.grown h3 hr.row.2.size hr.row.grow⟩, (h3.block bo (lt_of_heap hr.blk) hr.ne.symm).trans hr.blk⟩ (fun g u hk => ⟨(h3.cell_far _ hk.2.1 hk.2.2.symm).trans hk.1, Nat.lt_of_lt_of_le hk.2.1 h3.size, fun e => ?_⟩))
  rcases h5 with h5 | h5
  · rw [h5] at e; exact hk.2.2 e
  · rw [h5] at e
    cases e
    have := hk.2.1
    omega
/-- A text more. -/
theorem step_appS {ops : Array Oper} {o : Oper} {ac : Act} {K : Act → World → Prop} {Q : Exit → Act → World → Prop} {E : Prop} (hgd : o.guard = none) (s t : Operand)
    (ho : o.op = .call { callee := .builtin .append, args := #[s, t], argTypes := #[23, 9] }) {y : Bytes}
    (hr : PSt w W v bs bo x) (hb : bs.length + y.length ≤ 100000) (hs : ac.eval s = v) (hx : ac.eval t = .string (bmk y))
    (h : ∀ v' w', PSt w w' v' (bs ++ y) bo x → (∀ g u, Kept W v g u → w'.cell? ⟨g, 0, none⟩ = some u) → K (ac.put o.dst v') w') :
    if Region.wanted o (yielded ops ac.tmps) = true then Oper.wp Tryz.prog o ac W K Q else E := by
  obtain ⟨i0, hi, hz0, hz1, hz2⟩ := info_parts u8_info
  obtain ⟨v', w', hrun, h2, h3, _⟩ := Lib.run_append_own_string (P := Tryz.prog) W w.heap.size 23 9 o.type 5 i0 Tryz.underlying23 Tryz.underlying9 hi hz0 hz1 hz2 v bs.length (bs.map u8v) hr.row.1 (bmk y) (by rw [bmk_size]; unfold maxLen; omega) (by rw [bmk_size]; omega) hr.row.2.size
  refine step_builtin_run hgd s t 23 9 ho hs hx hrun (h v' w' ⟨⟨?_, hr.row.2.grown h3 hr.row.2.size hr.row.grow⟩, (h3.block bo (lt_of_heap hr.blk) hr.ne.symm).trans hr.blk⟩ (fun g u hk => (h3.cell_far _ hk.2.1 hk.2.2.symm).trans hk.1))
  rw [List.length_append, List.map_append]
  exact h2
/-- The last byte. -/
theorem step_app3 {ops : Array Oper} {o : Oper} {ac : Act} {K : Act → World → Prop} {Q : Exit → Act → World → Prop} {E : Prop} (hgd : o.guard = none) (s t : Operand)
    (ho : o.op = .call { callee := .builtin .append, args := #[s, t], argTypes := #[23, 23] }) {y : UInt8}
    (hr : PSt w W v bs bo x) (hy : W.cell? ⟨g, 0, none⟩ = some u) (hyu : u = u8v y) (hb : bs.length ≤ 100000) (hs : ac.eval s = v) (hx : ac.eval t = .slice (some ⟨g, 0, none⟩) 1 1)
    (h : ∀ v' w', PSt w w' v' (bs ++ [y]) bo x → K (ac.put o.dst v') w') :
    if Region.wanted o (yielded ops ac.tmps) = true then Oper.wp Tryz.prog o ac W K Q else E := by
  subst hyu
  obtain ⟨i0, hi, hz0, hz1, hz2⟩ := info_parts u8_info
  obtain ⟨v', w', hrun, h2, h3, _, h5⟩ := run_append_own_at (P := Tryz.prog) W w.heap.size 23 o.type 5 i0 (.int .u8 0) 1 1 Tryz.underlying23 hi hz0 hz1 hz2 rfl (by decide) v bs.length (bs.map u8v) hr.row.1 ⟨g, 0, none⟩ 1 1 [u8v y] rfl (fun j u hu => by
    rw [add0]
    cases j with
    | zero => rw [← hu]; exact hy
    | succ j => simp at hu) (by simp [u8v, Value.oneCell']) (by unfold maxLen; omega) (by omega) hr.row.2.size
  exact step_builtin_run hgd s t 23 23 ho hs hx hrun (h v' w' ⟨⟨by rw [List.length_append, List.map_append]; exact h2, hr.row.2.grown h3 hr.row.2.size hr.row.grow⟩, (h3.block bo (lt_of_heap hr.blk) hr.ne.symm).trans hr.blk⟩)
end
theorem wr_take (d p : Bytes) : (wrB d 0 p).take p.length = p := by
  unfold wrB splice
  simp
theorem wr_all (d p : Bytes) (h : d.length ≤ p.length) : wrB d 0 p = p := by
  unfold wrB splice
  simp
  omega
theorem upd_two {α : Type} (f : Nat → α) (k : Nat) (x y : α) : upd (upd f k x) k y = upd f k y := by
  funext j
  by_cases e : j = k
  · subst e; simp
  · rw [upd_other _ e, upd_other _ e, upd_other _ e]
/-- A node with other bytes. -/
def dataN (A : Nodes) (n : Nat) (a : NodeA) (b : Bytes) : Nodes := upd A n (some { a with data := b })
/-- What Write at the place 0 tells. -/
structure WrOut (w0 w : World) (p q N cc n pb : Nat) (A A1 : Nodes) (a : NodeA) (L : Locals) (b : Bytes) (v : Value) (er : Int) : Prop where
  call : Calls Tryz.prog 9 #[Dptr pb, .int .i64 (n : Int), .int .i64 0, v] w (Did w0 w (TZ p q N A1 cc) L (.int .i64 er))
  out : (er = 72 ∧ 64 * a.room < b.length ∧ A1 = A) ∨ (er = 0 ∧ b.length ≤ 64 * a.room ∧ ((A1 = dataN A n a (wrB a.data 0 b))))
/-- A slice of bytes that is none, or a local block. -/
def LocRow (L : Locals) (v : Value) (b : Bytes) : Prop :=
  (b = [] ∧ ∃ ad c, v = .slice ad 0 c) ∨ ∃ g0 cap cur, v = .slice (some ⟨g0, 0, none⟩) b.length cap ∧ L g0 = some (.cells cur 5 (0, 0)) ∧ b.length ≤ cap ∧ cap ≤ maxLen ∧ cur.toList.take b.length = b.map u8v
theorem LocRow.mono {L' : Locals} {v : Value} {b : Bytes} (h : LocRow L v b) (hi : LocIn L L') : LocRow L' v b := h.imp id fun ⟨g0, cap, cur, h1, h2, h3⟩ => ⟨g0, cap, cur, h1, hi _ _ h2, h3⟩
theorem LocRow.form {v : Value} {b : Bytes} (h : LocRow L v b) : ∃ ad c, v = .slice ad b.length c := by
  rcases h with ⟨rfl, ad, c, rfl⟩ | ⟨g0, cap, cur, rfl, _⟩
  · exact ⟨ad, c, rfl⟩
  · exact ⟨_, cap, rfl⟩
theorem row_out {W : World} {v : Value} {b : Bytes} (h : Own w0 w (TZ p q N A cc) L) (hr : ByteRow w W v b) : ∃ L', Own w0 W (TZ p q N A cc) L' ∧ LocIn L L' ∧ LocRow L' v b := by
  rcases hr.1.2 with ⟨rfl, h0⟩ | ⟨g, cap, cur, rfl, h1, h2, h3, h4, h5, h6⟩
  · exact ⟨L, h.below (keepsTZ _ _ _ _ _) hr.2, fun _ _ h => h, .inl ⟨List.length_eq_zero_iff.1 h0, none, 0, rfl⟩⟩
  · exact ⟨_, h.local_ (keepsTZ _ _ _ _ _) hr.2 h1 h2, LocIn.upd_ (h.none_ h1), .inr ⟨g, cap, cur, rfl, upd_same _ _ _, h3, h4, by rw [Nat.mul_one] at h6; exact h6⟩⟩
/-- Bytes of a row of one's own are written. -/
theorem wr_out {W : World} {v : Value} {b : Bytes} (h : Own w0 W (TZ p q N A cc) L) (hL : BaseL L pb p pn pk N) (ha : A n = some a) (hv : LocRow L v b) (hb : b.length ≤ 1000) (hfit : allOf A + cntN b.length ≤ 40 + cOf A n) :
    ∃ er A1, WrOut w0 W p q N cc n pb A A1 a L b v er := by
  by_cases hne : b = []
  · subst hne
    have e : dataN A n a (wrB a.data 0 []) = A := by
      have e1 : wrB a.data 0 [] = a.data := by simp [wrB, splice]
      unfold dataN
      rw [e1]
      have e2 : ({ a with data := a.data } : NodeA) = a := rfl
      rw [e2, ← ha, upd_self]
    rcases hv with ⟨_, ad, c, rfl⟩ | ⟨g0, cap, cur, rfl, _⟩
    · exact ⟨0, A, writeZ_empty h hL rfl ha, .inr ⟨rfl, by simp, e.symm⟩⟩
    · exact ⟨0, A, writeZ_empty h hL rfl ha, .inr ⟨rfl, by simp, e.symm⟩⟩
  · obtain ⟨g0, cap, cur, rfl, h1, h2, h3, h4⟩ := hv.resolve_left fun h => hne h.1
    have hsrc : b ≠ [] → ∃ tS, Go.Lz.Src tS W (· = g0) (.slice (some ⟨g0, 0, none⟩) b.length cap) b := fun _ => ⟨5, g0, 0, cap, cur, (0, 0), rfl, rfl, h.loc h1, h2, h3, fun j u hu => by
      rw [Nat.zero_add, cell_of (h.loc h1), ← Array.getElem?_toList]
      rw [← h4, List.getElem?_take] at hu
      split at hu
      · exact hu
      · cases hu⟩
    have hM : ∀ k, k = g0 → Mine w0 L k := fun k e => by subst e; exact .inr ⟨_, h1⟩
    by_cases hr : 64 * a.room < b.length
    · exact ⟨72, A, writeZ_room h hL rfl hsrc hM (by unfold maxLen; omega) ha hr, .inl ⟨rfl, hr, rfl⟩⟩
    · exact ⟨0, _, writeZ_ok h hL rfl hsrc hM (by unfold maxLen; omega) ha (by omega) hne hb hfit, .inr ⟨rfl, by omega, rfl⟩⟩
/-- What save tells. -/
def saveR (a : NodeA) (b : Bytes) : Int := if 64 * a.room < b.length then 72 else 0
def saveN (A : Nodes) (n : Nat) (a : NodeA) (b : Bytes) : Nodes := if 64 * a.room < b.length then A else dataN A n a b
set_option maxRecDepth 100000 in
set_option maxHeartbeats 4000000 in
theorem dSave_any (h : Own w0 w (TZ p q N A cc) L) (hL : BaseL L pb p pn pk N) (ha : A n = some a) {v : Value} {F : Nat → Prop} (hE : EntsAt w F v l) (hl : l.length ≤ 64) (hg : ∀ x ∈ l, goodE x = true) (hb : (encF l).length ≤ 1000) (hfit : allOf A + cntN (encF l).length ≤ 40 + cOf A n) :
    Calls Tryz.prog 35 #[Dptr pb, .int .i64 (n : Int), v] w (Did w0 w (TZ p q N (saveN A n a (encF l)) cc) L (.int .i64 (saveR a (encF l)))) := by
  have hhH : Hid _ := Lib.hid h
  have hgH : Hid _ := Lib.hid hg
  obtain ⟨ad, m, c, rfl, hm, hm2, hcell⟩ := hE
  have hcH : Hid _ := Lib.hid hcell
  have hmH : Hid _ := Lib.hid hm
  have hm64 : m ≤ 64 := by omega
  clear h hcell hm hg
  go_enter Tryz.func35, Tryz.ntmps35
  go_wp2_with fail
  go_loopg [7, 14, 9, 15, 16, 17, 18, 19, 20, 21, 22, 23, 24, 25, 26, 27, 28, 29, 30, 31, 32, 33] m (fun d pv kv _ _ _ _ _ _ _ _ _ _ _ _ _ _ _ _ _ _ _ _ wr => ∃ (pw : Value) (k : Nat), k + d = m ∧ kv = .int .i64 (k : Int) ∧ pw = pv ∧ ByteRow w wr pw (encF (l.take k)))
  case atStart => exact ⟨_, 0, by omega, rfl, rfl, by rw [List.take_zero]; exact ⟨World.ownsRow_nil _ _ _ _, Below.refl _ _⟩⟩
  case round =>
    obtain ⟨pw, k, hkd, rfl, hpv, hrow⟩ := hrel
    subst hpv
    rename World => wr
    by_cases hlt : k < m
    · have hltz : (k : Int) < (m : Int) := by omega
      obtain ⟨b, off, rfl, _, hbl, hcl⟩ := hcH.out.resolve_left (by omega)
      obtain ⟨x, hx⟩ : ∃ x, l[k]? = some x := ⟨l[k]'(by have := hmH.out; omega), List.getElem?_eq_getElem _⟩
      obtain ⟨h0, h1⟩ := entC_at l k x hx
      have q0 : wr.cell? ⟨b, off + k * 2, none⟩ = some (.string (bmk x.1)) := (hrow.2.cell (p := ⟨b, off + k * 2, none⟩) hbl).trans (by have := hcl _ _ h0; rwa [Nat.mul_comm] at this)
      have q1 : wr.cell? ⟨b, off + k * 2 + 1, none⟩ = some (.int .i64 (x.2 : Int)) := (hrow.2.cell (p := ⟨b, off + k * 2 + 1, none⟩) hbl).trans (by have := hcl _ _ h1; rwa [Nat.mul_comm, ← Nat.add_assoc] at this)
      have hgx := hgH.out x (List.mem_of_getElem? hx)
      obtain ⟨hn1, hn2, hn3⟩ := goodE_iff.1 hgx
      have hn4 := nameD_len hn1
      rw [bmk_size] at hn4
      have hxH : Hid _ := Lib.hid hx
      have hrowH : Hid _ := Lib.hid hrow
      have hkdH : Hid _ := Lib.hid hkd
      have hn1H : Hid _ := Lib.hid hn1
      clear hcl h0 h1 hx hgx hrow hkd hn1
      go_upto_region 5 with fail
      obtain ⟨bo, hbo⟩ : ∃ bo, bo = wr.heap.size := ⟨_, rfl⟩
      obtain ⟨W0, hW0⟩ : ∃ W0, W0 = wr.alloc (.cells #[.string (bmk x.1), .int .i64 (x.2 : Int)] 41) := ⟨_, rfl⟩
      have hp0 : PSt w W0 pw (encF (l.take k)) bo x := by
        rw [hW0]
        exact ⟨hrowH.out.alloc _, by rw [hbo]; exact heap_alloc_new wr _⟩
      rw [← hbo, ← hW0]
      clear hW0 hbo hrowH q0 q1
      obtain ⟨nl, hnl⟩ : ∃ nl, nl = (bmk x.1).size := ⟨_, rfl⟩
      have hnl2 : nl = x.1.length := hnl
      have hz1 : IntKind.u8.wrap (nl : Int) = (nl : Int) := by rw [IntKind.wrap_u8]; omega
      have hz2 : IntKind.u8.wrap (x.2 : Int) = (x.2 : Int) := by rw [IntKind.wrap_u8]; omega
      obtain ⟨y1, hy1⟩ : ∃ y1, y1 = UInt8.ofNat x.1.length := ⟨_, rfl⟩
      obtain ⟨y2, hy2⟩ : ∃ y2, y2 = UInt8.ofNat x.2 := ⟨_, rfl⟩
      have hu1 : Value.int .u8 (nl : Int) = u8v y1 := by unfold u8v; rw [hy1, UInt8.toNat_ofNat', ← hnl2, Nat.mod_eq_of_lt (by omega)]
      have hu2 : Value.int .u8 (x.2 : Int) = u8v y2 := by unfold u8v; rw [hy2, UInt8.toNat_ofNat', Nat.mod_eq_of_lt (by omega)]
      have hnlr : (bmk x.1).size = nl := hnl.symm
      have hlen : (encF (l.take k)).length ≤ 26 * 64 := Nat.le_trans (encF_le fun y hy => hgH.out y (List.mem_of_mem_take hy)) (by rw [List.length_take]; omega)
      obtain ⟨B, hB⟩ : ∃ B, B = encF (l.take k) := ⟨_, rfl⟩
      rw [← hB] at hp0 hlen
      obtain ⟨H, hH⟩ : ∃ H, H = W0.heap.size := ⟨_, rfl⟩
      have hl1 : B.length ≤ 100000 := by omega
      have hl2 : (B ++ [y1]).length + x.1.length ≤ 100000 := by rw [List.length_append]; simp; omega
      have hl3 : (B ++ [y1] ++ x.1).length ≤ 100000 := by rw [List.length_append, List.length_append]; simp; omega
      have e1 : ∀ o, (W0.alloc o).heap.size = W0.heap.size + 1 := fun o => by simp
      have p1 := (hp0.alloc (.cells #[.int .u8 (nl : Int)] 5)).drew
      have p2 := (hp0.alloc (.cells #[.int .u8 (x.2 : Int)] 5)).drew
      have p12 := ((hp0.alloc (.cells #[.int .u8 (nl : Int)] 5)).alloc (.cells #[.int .u8 (x.2 : Int)] 5)).drew
      have p21 := ((hp0.alloc (.cells #[.int .u8 (x.2 : Int)] 5)).alloc (.cells #[.int .u8 (nl : Int)] 5)).drew
      have q1 := (Kept.new hp0 (.int .u8 (nl : Int))).drew
      have q12 := ((Kept.new hp0 (.int .u8 (nl : Int))).alloc (.cells #[.int .u8 (x.2 : Int)] 5)).drew
      have r12 := (Kept.new (hp0.alloc (.cells #[.int .u8 (nl : Int)] 5)) (.int .u8 (x.2 : Int))).drew
      have q21 := (Kept.new (hp0.alloc (.cells #[.int .u8 (x.2 : Int)] 5)) (.int .u8 (nl : Int))).drew
      have r21 := ((Kept.new hp0 (.int .u8 (x.2 : Int))).alloc (.cells #[.int .u8 (nl : Int)] 5)).drew
      have hnew2 := fun (W : World) (v : Value) (h : PSt w W v (B ++ [y1]) bo x) => Kept.new h (.int .u8 (x.2 : Int))
      have hnew3 := fun (W : World) (v : Value) (h : PSt w W v (B ++ [y1] ++ x.1) bo x) => (Kept.new h (.int .u8 (x.2 : Int))).1
      rw [e1] at r12 q21
      have henc : encF (l.take (k + 1)) = B ++ [y1] ++ x.1 ++ [y2] := by
        rw [List.take_add_one, hxH.out, encF_append, ← hB]
        show B ++ (encE x ++ []) = _
        unfold encE
        rw [← hy1, ← hy2]
        simp
      have hencH : Hid _ := Lib.hid henc
      have hS0 := hp0.cells
      have hS1 := p1.cells
      have hS2 := p2.cells
      have hS12 := p12.cells
      have hS21 := p21.cells
      have hu1H : Hid _ := Lib.hid hu1
      have hu2H : Hid _ := Lib.hid hu2
      clear hu1 hu2 hy1 hy2 hB hnl hnl2 e1 henc hxH
      go_region_held_law (fun W => W.cell? ⟨bo, 0, none⟩ = some (.string (bmk x.1)) ∧ W.cell? ⟨bo, 1, none⟩ = some (.int .i64 (x.2 : Int)))
        (first | exact hS0 | exact hS1 | exact hS2 | exact hS12 | exact hS21 | exact hSa | exact hSa2 | exact hSb | exact hSb2 | exact hSc)
        (first
          | (refine step_app1 (w := w) (v := pw) (bs := B) (bo := bo) (g := W0.heap.size) (x := x) (u := .int .u8 (nl : Int)) (y := y1) (by rfl) (.tmp 18) (.tmp 23) (by rfl) p1 q1 hu1H.out hl1 (by rfl) (by rfl) ?_; rintro v1 W1 hp1 hkk; have hSa := hp1.cells; have hp1n := hp1.alloc (.cells #[.int .u8 (x.2 : Int)] 5); have hSa2 := hp1n.cells)
          | (refine step_app1 (w := w) (v := pw) (bs := B) (bo := bo) (g := W0.heap.size) (x := x) (u := .int .u8 (nl : Int)) (y := y1) (by rfl) (.tmp 18) (.tmp 23) (by rfl) p12 q12 hu1H.out hl1 (by rfl) (by rfl) ?_; rintro v1 W1 hp1 hkk; have hSa := hp1.cells; have hp1n := hp1.alloc (.cells #[.int .u8 (x.2 : Int)] 5); have hSa2 := hp1n.cells)
          | (refine step_app1 (w := w) (v := pw) (bs := B) (bo := bo) (g := W0.heap.size + 1) (x := x) (u := .int .u8 (nl : Int)) (y := y1) (by rfl) (.tmp 18) (.tmp 23) (by rfl) p21 q21 hu1H.out hl1 (by rfl) (by rfl) ?_; rintro v1 W1 hp1 hkk; have hSa := hp1.cells; have hp1n := hp1.alloc (.cells #[.int .u8 (x.2 : Int)] 5); have hSa2 := hp1n.cells)
          | (refine step_appS (w := w) (v := v1) (bs := B ++ [y1]) (bo := bo) (x := x) (y := x.1) (by rfl) (.tmp 24) (.tmp 26) (by rfl) hp1 hl2 (by rfl) (by rfl) ?_; rintro v2 W2 hp2 hkk2; have hSb := hp2.cells; have hp2n := hp2.alloc (.cells #[.int .u8 (x.2 : Int)] 5); have hSb2 := hp2n.cells)
          | (refine step_appS (w := w) (v := v1) (bs := B ++ [y1]) (bo := bo) (x := x) (y := x.1) (by rfl) (.tmp 24) (.tmp 26) (by rfl) hp1n hl2 (by rfl) (by rfl) ?_; rintro v2 W2 hp2 hkk2; have hSb := hp2.cells; have hp2n := hp2.alloc (.cells #[.int .u8 (x.2 : Int)] 5); have hSb2 := hp2n.cells)
          | (refine step_app3 (w := w) (v := v2) (bs := B ++ [y1] ++ x.1) (bo := bo) (g := W0.heap.size + 1) (x := x) (u := .int .u8 (x.2 : Int)) (y := y2) (by rfl) (.tmp 27) (.tmp 31) (by rfl) hp2 (hkk2 _ _ (hkk _ _ r12)) hu2H.out hl3 (by rfl) (by rfl) ?_; rintro v3 W3 hp3; have hSc := hp3.cells)
          | (refine step_app3 (w := w) (v := v2) (bs := B ++ [y1] ++ x.1) (bo := bo) (g := W0.heap.size) (x := x) (u := .int .u8 (x.2 : Int)) (y := y2) (by rfl) (.tmp 27) (.tmp 31) (by rfl) hp2 (hkk2 _ _ (hkk _ _ r21)) hu2H.out hl3 (by rfl) (by rfl) ?_; rintro v3 W3 hp3; have hSc := hp3.cells)
          | (refine step_app3 (w := w) (v := v2) (bs := B ++ [y1] ++ x.1) (bo := bo) (g := W1.heap.size) (x := x) (u := .int .u8 (x.2 : Int)) (y := y2) (by rfl) (.tmp 27) (.tmp 31) (by rfl) hp2 (hkk2 _ _ (hnew2 _ _ hp1)) hu2H.out hl3 (by rfl) (by rfl) ?_; rintro v3 W3 hp3; have hSc := hp3.cells)
          | (refine step_app3 (w := w) (v := v2) (bs := B ++ [y1] ++ x.1) (bo := bo) (g := W2.heap.size) (x := x) (u := .int .u8 (x.2 : Int)) (y := y2) (by rfl) (.tmp 27) (.tmp 31) (by rfl) hp2n (hnew3 _ _ hp2) hu2H.out hl3 (by rfl) (by rfl) ?_; rintro v3 W3 hp3; have hSc := hp3.cells)
)
      all_goals
        clear p1 p2 p12 p21 q1 q12 r12 q21 r21 hnew2 hnew3 hS0 hS1 hS2 hS12 hS21
        go_wp2
        go_roundg (gk - 1)
        case measure => have := hkdH.out; omega
        case rel => exact ⟨_, k + 1, by have := hkdH.out; omega, by go_num, rfl, by rw [hencH.out]; exact hp3.row⟩
    · have hge : ¬ (k : Int) < (m : Int) := by omega
      obtain rfl : k = m := by omega
      rw [List.take_of_length_le (by have := hmH.out; omega)] at hrow
      have hsz := hrow.2.size
      obtain ⟨L1, hO1, i1, hv1⟩ := row_out hhH.out hrow
      have hL1 := hL.mono i1
      have cI := infoZ_ok hO1 hL1 ha
      have hO1H : Hid _ := Lib.hid hO1
      have hv1H : Hid _ := Lib.hid hv1
      have i1H : Hid _ := Lib.hid i1
      have hgeb : decide ((k : Int) < (k : Int)) = false := by simp
      clear hrow hO1 hv1 i1 hkd hlt hge
      go_upto_region 7 with fail
      go_upto_region 9 with (go_at_call 37; refine cI.mono ?_; rintro e w2 ⟨vs, vi, L2, rfl, hO2, i2, hvs, hvi, hs2⟩; obtain ⟨av, cv, rfl⟩ := IntsAt.form hvs; obtain ⟨ai, ci, rfl⟩ := IntsAt.form hvi; unfold InfoV; dsimp only)
      obtain ⟨I, hIe⟩ : ∃ I : Obj, I = .cells #[.int .i64 (a.kind : Int), .int .i64 (a.data.length : Int), .int .i64 (a.room : Int), .slice av a.s.length cv, .slice ai a.i.length ci] 86 (0, 0) := ⟨_, rfl⟩
      have hO3 := hO2.local_ (o := I) (keepsTZ _ _ _ _ _) ((Below.refl _ w2).alloc (Nat.le_refl _) _) (Nat.le_refl _) (heap_alloc_new w2 _)
      have i3 : LocIn L1 (upd L2 w2.heap.size (some I)) := i2.trans (LocIn.upd_ (hO2.none_ (Nat.le_refl _)))
      have kI : upd L2 w2.heap.size (some I) w2.heap.size = some I := upd_same _ _ _
      have s3 : w2.heap.size ≤ (w2.alloc I).heap.size := by simp
      rw [← hIe]
      generalize upd L2 w2.heap.size (some I) = L3 at *
      generalize w2.alloc I = w3 at *
      rw [hIe] at kI
      obtain ⟨er, A1, hcW⟩ := wr_out hO3 (hL1.mono i3) ha (hv1H.out.mono i3) hb hfit
      obtain ⟨pa, pc, rfl⟩ := hv1H.out.form
      have kI3 := hO3.loc kI
      have hO3H : Hid _ := Lib.hid hO3
      have kIH : Hid _ := Lib.hid kI
      have hL3 := hL1.mono i3
      have i3H : Hid _ := Lib.hid i3
      clear hvs hvi hO2 i2 hIe hO3 cI kI i3
      have hcall := hcW.call
      have hout := hcW.out
      clear hcW
      rcases hout with ⟨rfl, hbig, hAA⟩ | ⟨rfl, hsm, rfl⟩
      · rw [hAA] at hcall
        clear hAA
        have e1 : saveN A n a (encF l) = A := if_pos hbig
        have e2 : saveR a (encF l) = 72 := if_pos hbig
        have eH : Hid _ := Lib.hid (And.intro e1 e2)
        clear e1 e2 hbig kI3
        go_wp2_with (go_at_call 9; refine hcall.mono ?_; rintro e w4 ⟨rfl, hO4, hs4⟩)
        go_ret
        rw [eH.out.1, eH.out.2]
        exact ⟨rfl, hO4.forget (i1H.out.trans i3H.out), by omega⟩
      · have e1 : saveN A n a (encF l) = dataN A n a (encF l) := if_neg (by omega)
        have e2 : saveR a (encF l) = 0 := if_neg (by omega)
        have eH : Hid _ := Lib.hid (And.intro e1 e2)
        clear e1 e2
        by_cases hlt : (encF l).length < a.data.length
        · have hltz : ((encF l).length : Int) < (a.data.length : Int) := by omega
          have hcut : ∀ w4, Own w0 w4 (TZ p q N (dataN A n a (wrB a.data 0 (encF l))) cc) L3 → Calls Tryz.prog 72 #[Dptr pb, .int .i64 (n : Int), .int .i64 ((encF l).length : Int)] w4 (Did w0 w4 (TZ p q N (dataN A n a (encF l)) cc) L3 (.int .i64 0)) := fun w4 hO4 => by
            have := cutZ (n := n) (to' := (encF l).length) (a := { a with data := wrB a.data 0 (encF l) }) hO4 hL3 (upd_same _ _ _) (by show _ ≤ (wrB a.data 0 (encF l)).length; rw [wrB_length]; omega)
            unfold dataN at this ⊢
            rw [upd_two] at this
            rw [show ({ a with data := wrB a.data 0 (encF l) } : NodeA).data = wrB a.data 0 (encF l) from rfl, wr_take] at this
            exact this
          have hcutH : Hid _ := Lib.hid hcut
          clear hcut hlt hsm kI3
          go_upto_region 10 with (go_at_call 9; refine hcall.mono ?_; rintro e w4 ⟨rfl, hO4, hs4⟩)
          have q1 := cell_of (hO4.loc kIH.out) 1
          have cC := hcutH.out w4 hO4
          clear hO4 hcall
          go_wp2_with (go_at_call 72; refine cC.mono ?_; rintro e w5 ⟨rfl, hO5, hs5⟩)
          go_ret
          rw [eH.out.1, eH.out.2]
          exact ⟨rfl, hO5.forget (i1H.out.trans i3H.out), by omega⟩
        · have hltz : ¬ ((encF l).length : Int) < (a.data.length : Int) := by omega
          have hdd : dataN A n a (wrB a.data 0 (encF l)) = dataN A n a (encF l) := by rw [wr_all _ _ (by omega)]
          rw [hdd] at hcall
          clear hlt hsm kI3 hdd
          go_upto_region 10 with (go_at_call 9; refine hcall.mono ?_; rintro e w4 ⟨rfl, hO4, hs4⟩)
          have q1 := cell_of (hO4.loc kIH.out) 1
          have hO4H : Hid _ := Lib.hid hO4
          clear hO4 hcall
          go_wp2_with fail
          go_ret
          rw [eH.out.1, eH.out.2]
          exact ⟨rfl, hO4H.out.forget (i1H.out.trans i3H.out), by omega⟩
end
end Go.Proofs.YtjngphffgdjcfaaGreatDoor
/-
  Package dir: Add and Del, over a base under small folders.
-/
namespace Go.Proofs.YtjngphffgdjcfaaGreatDoor
open Go.RowKit Go.Lz
section
variable {w0 w : World} {p q pb pn pk n N cc : Nat} {A : Nodes} {a : NodeA} {L : Locals} {l : List Entry}
/-- Entries as Insert takes them. -/
def InsV (w : World) (v : Value) (l : List Entry) : Prop :=
  (l = [] ∧ v = .slice none 0 0) ∨ ∃ b, v = .slice (some ⟨b, 0, none⟩) l.length l.length ∧ b < w.heap.size ∧ ∀ j u, (l.flatMap entC)[j]? = some u → w.cell? ⟨b, j, none⟩ = some u
theorem InsV.below {w' : World} {v : Value} (h : InsV w v l) (hb : Below w.heap.size w w') : InsV w' v l := h.imp id fun ⟨b, h1, h2, h3⟩ => ⟨b, h1, Nat.lt_of_lt_of_le h2 hb.size, fun j u hu => (hb.cell (p := ⟨b, j, none⟩) h2).trans (h3 j u hu)⟩
theorem OutE.ins {w' : World} {T : World → (Nat → Prop) → Prop} {v : Value} (h : OutE w0 w w' T L v l) : InsV w' v l := by
  rcases h with ⟨rfl, rfl, _⟩ | ⟨g, cur, rfl, _, hc, hO⟩
  · exact .inl ⟨rfl, rfl⟩
  · have hg := hO.loc (upd_same _ _ _)
    refine .inr ⟨g, rfl, lt_of_heap hg, fun j u hu => ?_⟩
    rw [cell_of hg, ← Array.getElem?_toList]
    rw [← hc, List.getElem?_take] at hu
    split at hu
    · exact hu
    · cases hu
theorem InsV.form {v : Value} (h : InsV w v l) : ∃ ad, v = .slice ad l.length l.length := by
  rcases h with ⟨rfl, rfl⟩ | ⟨b, rfl, _⟩
  · exact ⟨none, rfl⟩
  · exact ⟨_, rfl⟩
theorem InsV.ents {v : Value} (h : InsV w v l) (hl : l.length ≤ 9223372036854775807) : EntsAt w (fun _ => True) v l := by
  rcases h with ⟨rfl, rfl⟩ | ⟨b, rfl, h1, h2⟩
  · exact ⟨none, 0, 0, rfl, rfl, by omega, .inl rfl⟩
  · exact ⟨_, _, _, rfl, rfl, hl, .inr ⟨b, 0, rfl, trivial, h1, fun j u hu => by rw [Nat.zero_add]; exact h2 j u hu⟩⟩
/-- What Add tells, and what is there then. -/
def addR (A : Nodes) (n : Nat) (a : NodeA) (l : List Entry) (s : ByteArray) (m : Int) : Int × Nodes :=
  if nameD s && (decide (1 ≤ m) && decide (m ≤ 64)) then
    if (lookE l s).isSome then (64, A) else if 32 ≤ l.length then (65, A) else (saveR a (encF (addE l s m.toNat)), saveN A n a (encF (addE l s m.toNat)))
  else (1, A)
theorem addR_bad {s : ByteArray} {m : Int} (h : nameD s = false ∨ m < 1 ∨ 64 < m) : addR A n a l s m = (1, A) := by
  unfold addR
  rw [if_neg]
  rcases h with h | h | h
  · rw [h]; simp
  · simp; intros; omega
  · simp; intros; omega
set_option maxRecDepth 100000 in
set_option maxHeartbeats 2000000 in
theorem dAdd_any (h : Own w0 w (TZ p q N A cc) L) (hL : BaseL L pb p pn pk N) (ha : A n = some a) (hF : IsF a l) (hT : ∀ w', Below w0.heap.size w0 w' → Tabs w') (hfit : allOf A + 13 ≤ 40 + cOf A n) {s : ByteArray} {m : Int} (hs : s.size ≤ 9223372036854775807) :
    Calls Tryz.prog 10 #[Dptr pb, .int .i64 (n : Int), .string s, .int .i64 m] w (Did w0 w (TZ p q N (addR A n a l s m).2 cc) L (.int .i64 (addR A n a l s m).1)) := by
  have cL := list_ok h hL ha hF hT
  have hhH : Hid _ := Lib.hid h
  have hFH : Hid _ := Lib.hid hF
  have hTH : Hid _ := Lib.hid hT
  have hfitH : Hid _ := Lib.hid hfit
  clear h hF hT hfit
  go_enter Tryz.func10, Tryz.ntmps10
  go_upto_region 4 with (go_at_call 11; refine cL.mono ?_; rintro e w1 ⟨hs1, v, rfl, hE1⟩)
  have hO1 := hE1.own hhH.out
  have cN := name_any s w1 hs (fun w' hb => hTH.out w' (hO1.base.trans (hb.mono hO1.size)))
  have hl1 : l.length ≤ 32 := hFH.out.few
  have hI1 := hE1.ins
  obtain ⟨ad, rfl⟩ := hI1.form
  have hO1H : Hid _ := Lib.hid hO1
  have hI1H : Hid _ := Lib.hid hI1
  clear cL hE1 hO1 hI1
  cases hnm : nameD s with
  | false =>
    rw [hnm] at cN
    have eH : Hid _ := Lib.hid (addR_bad (A := A) (n := n) (a := a) (l := l) (m := m) (.inl hnm))
    clear hnm
    go_wp2_with (go_at_call 21; refine cN.mono ?_; rintro e w2 ⟨rfl, hb2⟩)
    go_ret
    rw [eH.out]
    exact ⟨rfl, hO1H.out.below (keepsTZ _ _ _ _ _) hb2, Nat.le_trans hs1 hb2.size⟩
  | true =>
    rw [hnm] at cN
    have hnmH : Hid _ := Lib.hid hnm
    clear hnm
    by_cases hm1 : m < 1
    · have eH : Hid _ := Lib.hid (addR_bad (s := s) (A := A) (n := n) (a := a) (l := l) (m := m) (.inr (.inl hm1)))
      go_wp2_with (go_at_call 21; refine cN.mono ?_; rintro e w2 ⟨rfl, hb2⟩)
      go_ret
      rw [eH.out]
      exact ⟨rfl, hO1H.out.below (keepsTZ _ _ _ _ _) hb2, Nat.le_trans hs1 hb2.size⟩
    · by_cases hm2 : 64 < m
      · have eH : Hid _ := Lib.hid (addR_bad (s := s) (A := A) (n := n) (a := a) (l := l) (m := m) (.inr (.inr hm2)))
        go_wp2_with (go_at_call 21; refine cN.mono ?_; rintro e w2 ⟨rfl, hb2⟩)
        go_ret
        rw [eH.out]
        exact ⟨rfl, hO1H.out.below (keepsTZ _ _ _ _ _) hb2, Nat.le_trans hs1 hb2.size⟩
      · obtain ⟨k, rfl⟩ : ∃ k : Nat, m = (k : Int) := ⟨m.toNat, by omega⟩
        go_upto_region 6 with (go_at_call 21; refine cN.mono ?_; rintro e w2 ⟨rfl, hb2⟩)
        have hI2 := hI1H.out.below hb2
        have hO2 := hO1H.out.below (keepsTZ _ _ _ _ _) hb2
        have hs2 := Nat.le_trans hs1 hb2.size
        have cF := find_ok (s := s) (hI2.ents (by omega)) (by omega) hFH.out.good.rise
        have hI2H : Hid _ := Lib.hid hI2
        have hO2H : Hid _ := Lib.hid hO2
        clear hI2 hO2 hO1H hI1H
        go_upto_region 7 with (go_at_call 34; refine cF.mono ?_; rintro e w3 ⟨hb3, i, hP, rfl⟩; obtain ⟨hb, hhb⟩ : ∃ hb, hb = hitB l s i := ⟨_, rfl⟩; rw [← hhb]; have hhbH : Hid _ := Lib.hid hhb; clear hhb)
        have hI3 := hI2H.out.below hb3
        have hO3 := hO2H.out.below (keepsTZ _ _ _ _ _) hb3
        have hs3 : w.heap.size ≤ w3.heap.size := Nat.le_trans hs2 hb3.size
        have hI3H : Hid _ := Lib.hid hI3
        have hO3H : Hid _ := Lib.hid hO3
        have hPH : Hid _ := Lib.hid hP
        have hgd : (nameD s && (decide (1 ≤ (k : Int)) && decide ((k : Int) ≤ 64))) = true := by
          rw [hnmH.out, decide_eq_true (show 1 ≤ (k : Int) by omega), decide_eq_true (show (k : Int) ≤ 64 by omega)]; rfl
        have hgdH : Hid _ := Lib.hid hgd
        clear hI3 hO3 hP cF cN hI2H hO2H hgd
        cases hb with
        | true =>
          obtain ⟨x, hx, hc, hk⟩ := hitB_yes hFH.out.good.rise hPH.out hhbH.out.symm
          have e : addR A n a l s (k : Int) = (64, A) := by
            unfold addR
            rw [if_pos hgdH.out, if_pos (by rw [hk]; rfl)]
          have eH : Hid _ := Lib.hid e
          clear e hx hc hk
          go_wp2_with fail
          go_ret
          rw [eH.out]
          exact ⟨rfl, hO3H.out, hs3⟩
        | false =>
          have hk := hitB_no hFH.out.good.rise hPH.out hhbH.out.symm
          have hkH : Hid _ := Lib.hid hk
          clear hk
          by_cases h32 : 32 ≤ l.length
          · have e : addR A n a l s (k : Int) = (65, A) := by
              unfold addR
              rw [if_pos hgdH.out, if_neg (by rw [hkH.out]; decide), if_pos h32]
            have eH : Hid _ := Lib.hid e
            have h32z : (32 : Int) ≤ (l.length : Int) := by omega
            clear e
            go_wp2_with fail
            go_ret
            rw [eH.out]
            exact ⟨rfl, hO3H.out, hs3⟩
          · have e : addR A n a l s (k : Int) = (saveR a (encF (addE l s k)), saveN A n a (encF (addE l s k))) := by
              unfold addR
              rw [if_pos hgdH.out, if_neg (by rw [hkH.out]; decide), if_neg h32]
              rfl
            have eH : Hid _ := Lib.hid e
            have h32z : ¬ (32 : Int) ≤ (l.length : Int) := by omega
            clear e
            obtain ⟨w4, hw4⟩ : ∃ w4, w4 = w3.alloc (.cells #[.string s, .int .i64 (k : Int)] 41) := ⟨_, rfl⟩
            have hb4 : Below w3.heap.size w3 w4 := by rw [hw4]; exact (Below.refl _ w3).alloc (Nat.le_refl _) _
            have hg4 : w4.heap[w3.heap.size]? = some (.cells #[.string s, .int .i64 (k : Int)] 41 (0, 0)) := by rw [hw4]; exact heap_alloc_new w3 _
            have cI := insE_any (x := (s.data.toList, k)) (gv := w3.heap.size) (by omega) hPH.out.le (hI3H.out.below hb4) (lt_of_heap hg4) (fun j u hu => by
              rw [cell_of hg4]
              rw [← hu]
              rcases j with _ | _ | j <;> rfl)
            have hgoodE : GoodF (addE l s k) := addE_good hFH.out.good hkH.out hnmH.out (by omega) (by omega)
            have hlenE := addE_length l s k
            have h832 := encF_le hgoodE.good
            have cS := fun (w5 : World) (v : Value) (hb : Below w4.heap.size w4 w5) (hE : EntsAt w5 (fun k => w4.heap.size ≤ k) v (addE l s k)) => dSave_any (hO3H.out.below (keepsTZ _ _ _ _ _) (hb4.trans (hb.mono hb4.size))) hL ha hE (by omega) hgoodE.good (by omega) (Nat.le_trans (Nat.add_le_add_left (show cntN (encF (addE l s k)).length ≤ 13 by unfold cntN; omega) _) hfitH.out)
            rw [hPH.out.add] at cI
            have hb4H : Hid _ := Lib.hid hb4
            obtain ⟨ln, hln⟩ : ∃ ln, ln = l.length := ⟨_, rfl⟩
            rw [← hln] at cI h32z ⊢
            clear hg4 hgoodE hlenE h832 hb4 hln
            go_upto_region 11 with fail
            go_wp2_with (first
              | (go_at_call 36; rw [← hw4]; refine cI.mono ?_; rintro e w5 ⟨hb5, v5, rfl, hE5⟩)
              | (go_at_call 35; refine (cS _ _ hb5 hE5).mono ?_; rintro e w6 ⟨rfl, hO6, hs6⟩))
            go_ret
            rw [eH.out]
            exact ⟨rfl, hO6, by have := hb4H.out.size; have := hb5.size; omega⟩
/-- What Del tells, and what is there then. -/
def delR (A : Nodes) (n : Nat) (a : NodeA) (l : List Entry) (s : ByteArray) : Int × Nodes :=
  if nameD s then if (lookE l s).isSome then (saveR a (encF (delL l s)), saveN A n a (encF (delL l s))) else (61, A) else (1, A)
set_option maxRecDepth 100000 in
set_option maxHeartbeats 2000000 in
theorem dDel_any (h : Own w0 w (TZ p q N A cc) L) (hL : BaseL L pb p pn pk N) (ha : A n = some a) (hF : IsF a l) (hT : ∀ w', Below w0.heap.size w0 w' → Tabs w') (hfit : allOf A + 13 ≤ 40 + cOf A n) {s : ByteArray} (hs : s.size ≤ 9223372036854775807) :
    Calls Tryz.prog 15 #[Dptr pb, .int .i64 (n : Int), .string s] w (Did w0 w (TZ p q N (delR A n a l s).2 cc) L (.int .i64 (delR A n a l s).1)) := by
  have cL := list_ok h hL ha hF hT
  have hhH : Hid _ := Lib.hid h
  have hFH : Hid _ := Lib.hid hF
  have hTH : Hid _ := Lib.hid hT
  have hfitH : Hid _ := Lib.hid hfit
  clear h hF hT hfit
  go_enter Tryz.func15, Tryz.ntmps15
  go_upto_region 4 with (go_at_call 11; refine cL.mono ?_; rintro e w1 ⟨hs1, v, rfl, hE1⟩)
  have hO1 := hE1.own hhH.out
  have cN := name_any s w1 hs (fun w' hb => hTH.out w' (hO1.base.trans (hb.mono hO1.size)))
  have hl1 : l.length ≤ 32 := hFH.out.few
  have hI1 := hE1.ins
  obtain ⟨ad, rfl⟩ := hI1.form
  have hO1H : Hid _ := Lib.hid hO1
  have hI1H : Hid _ := Lib.hid hI1
  have hE1H : Hid _ := Lib.hid hE1
  clear cL hE1 hO1 hI1
  cases hnm : nameD s with
  | false =>
    rw [hnm] at cN
    have e : delR A n a l s = (1, A) := by unfold delR; rw [hnm]; rfl
    have eH : Hid _ := Lib.hid e
    clear hnm e
    go_wp2_with (go_at_call 21; refine cN.mono ?_; rintro e w2 ⟨rfl, hb2⟩)
    go_ret
    rw [eH.out]
    exact ⟨rfl, hO1H.out.below (keepsTZ _ _ _ _ _) hb2, Nat.le_trans hs1 hb2.size⟩
  | true =>
    rw [hnm] at cN
    have hnmH : Hid _ := Lib.hid hnm
    clear hnm
    go_upto_region 6 with (go_at_call 21; refine cN.mono ?_; rintro e w2 ⟨rfl, hb2⟩)
    have hI2 := hI1H.out.below hb2
    have hO2 := hO1H.out.below (keepsTZ _ _ _ _ _) hb2
    have hs2 := Nat.le_trans hs1 hb2.size
    have cF := find_ok (s := s) (hI2.ents (by omega)) (by omega) hFH.out.good.rise
    have hO2H : Hid _ := Lib.hid hO2
    clear hI2 hO2 hI1H
    go_upto_region 7 with (go_at_call 34; refine cF.mono ?_; rintro e w3 ⟨hb3, i, hP, rfl⟩; obtain ⟨hb, hhb⟩ : ∃ hb, hb = hitB l s i := ⟨_, rfl⟩; rw [← hhb]; have hhbH : Hid _ := Lib.hid hhb; clear hhb)
    have hO3 := hO2H.out.below (keepsTZ _ _ _ _ _) hb3
    have hs3 : w.heap.size ≤ w3.heap.size := Nat.le_trans hs2 hb3.size
    have hO3H : Hid _ := Lib.hid hO3
    have hPH : Hid _ := Lib.hid hP
    clear hO3 hP cF cN
    cases hb with
    | false =>
      have hk := hitB_no hFH.out.good.rise hPH.out hhbH.out.symm
      have e : delR A n a l s = (61, A) := by
        unfold delR
        rw [if_pos hnmH.out, if_neg (by rw [hk]; decide)]
      have eH : Hid _ := Lib.hid e
      clear e hk
      go_wp2_with fail
      go_ret
      rw [eH.out]
      exact ⟨rfl, hO3H.out, hs3⟩
    | true =>
      obtain ⟨x, hx, hc, hk⟩ := hitB_yes hFH.out.good.rise hPH.out hhbH.out.symm
      have e : delR A n a l s = (saveR a (encF (delL l s)), saveN A n a (encF (delL l s))) := by
        unfold delR
        rw [if_pos hnmH.out, if_pos (by rw [hk]; rfl)]
      have eH : Hid _ := Lib.hid e
      clear e
      have hil := (List.getElem?_eq_some_iff.1 hx).1
      rcases hE1H.out with ⟨e0, _⟩ | ⟨g, cur, hv, hge, hcur, hOg⟩
      · rw [e0] at hil
        simp at hil
      · have hOg3 := (hOg.below (keepsTZ _ _ _ _ _) hb2).below (keepsTZ _ _ _ _ _) hb3
        have hg3 := hOg3.loc (upd_same _ _ _)
        cases hv
        have cD := delE_any (by omega) hil hg3 hcur
        rw [hPH.out.del hFH.out.good.rise hx hc] at cD
        have hgoodE : GoodF (delL l s) := delL_good hFH.out.good
        have hlenE := delL_length l s
        have h832 := encF_le hgoodE.good
        have hlen2 : (delL l s).length = l.length - 1 := by
          rw [← hPH.out.del hFH.out.good.rise hx hc, List.length_append, List.length_take, List.length_drop]
          omega
        have hLg : L g = none := hhH.out.none_ hge
        have cS := fun (w5 : World) (c : Nat) (hC : Chg (· = g) w3 w5) (cur' : Array Value) (hw5 : w5.heap[g]? = some (.cells cur' 41 (0, 0))) (hcur' : cur'.toList.take ((delL l s).length * 2) = (delL l s).flatMap entC) =>
          dSave_any (F := fun _ => True) (v := .slice (some ⟨g, 0, none⟩) (l.length - 1) c) ((hOg3.set (o' := .cells cur' 41 (0, 0)) (keepsTZ _ _ _ _ _) (upd_same _ _ _) hC hw5).forget (L' := L) (by
            rw [upd_two]
            exact LocIn.upd_ hLg)) hL ha ⟨_, _, _, rfl, hlen2, by omega, .inr ⟨g, 0, rfl, trivial, lt_of_heap hw5, fun j u hu => by
              rw [Nat.zero_add, cell_of hw5, ← Array.getElem?_toList]
              rw [← hcur', List.getElem?_take] at hu
              split at hu
              · exact hu
              · cases hu⟩⟩ (by omega) hgoodE.good (by omega) (Nat.le_trans (Nat.add_le_add_left (show cntN (encF (delL l s)).length ≤ 13 by unfold cntN; omega) _) hfitH.out)
        obtain ⟨ln, hln⟩ : ∃ ln, ln = l.length := ⟨_, rfl⟩
        rw [← hln] at cD hil ⊢
        simp only [← hln] at cS
        have hilz : (i : Int) < (ln : Int) := by omega
        have hlnb : ln ≤ 32 := by omega
        have hlnz : (ln : Int) ≤ 32 := by omega
        clear hgoodE hlenE h832 hx hc hk hcur hOg hOg3 hg3 hE1H hln hlen2
        go_wp2_with (first
          | (go_at_call 41; refine cD.mono ?_; rintro e w5 ⟨hC5, ⟨c5, rfl⟩, cur5, hw5, hcur5⟩)
          | (go_at_call 35; refine (cS w5 c5 hC5 cur5 hw5 hcur5).mono ?_; rintro e w6 ⟨rfl, hO6, hs6⟩))
        go_ret
        rw [eH.out]
        exact ⟨rfl, hO6, by have := hC5.size; omega⟩
end
end Go.Proofs.YtjngphffgdjcfaaGreatDoor
/-
  DirNames, walked: it answers true, if utf8's tables read as the library's text lays them.
-/
namespace Go.Proofs.YtjngphffgdjcfaaGreatDoor
open Go.RowKit Go.Shelf Go.Lib

/-- What the calls ask of the world. -/
structure Env (w : World) : Prop where
  h3 : 2 < w.heap.size
  hm : ∃ m, w.cell? ⟨2, 0, none⟩ = some (.int .i64 m)
  hT : ∀ w', Below w.heap.size w w' → Tabs w'
theorem Env.below {w w' : World} (h : Env w) (hb : Below w.heap.size w w') : Env w' := by
  obtain ⟨m, hm⟩ := h.hm
  refine ⟨Nat.lt_of_lt_of_le h.h3 hb.size, ⟨m, ?_⟩, fun w2 h2 => h.hT w2 (hb.trans (h2.mono hb.size))⟩
  have := hb.block 2 h.h3
  simp only [World.cell?] at hm ⊢
  rw [this]
  exact hm
/-- A row of strings. -/
def StrRow (w : World) (v : Value) (l : List ByteArray) : Prop := ∃ ad cap, v = .slice ad l.length cap ∧ ∀ (j : Nat) x, l[j]? = some x → ∃ g, ad = some ⟨g, 0, none⟩ ∧ g < w.heap.size ∧ w.cell? ⟨g, j, none⟩ = some (.string x)
theorem lt_of_cell {w : World} {g j : Nat} {v : Value} (h : w.cell? ⟨g, j, none⟩ = some v) : g < w.heap.size := by
  rcases Nat.lt_or_ge g w.heap.size with k | k
  · exact k
  · simp [World.cell?, Array.getElem?_eq_none k] at h
theorem StrRow.below {w w' : World} {v : Value} {l : List ByteArray} (h : StrRow w v l) (hb : Below w.heap.size w w') : StrRow w' v l := by
  obtain ⟨ad, cap, h1, h2⟩ := h
  refine ⟨ad, cap, h1, fun j x hx => ?_⟩
  obtain ⟨g, e, hg, hc⟩ := h2 j x hx
  refine ⟨g, e, Nat.lt_of_lt_of_le hg hb.size, ?_⟩
  simp only [World.cell?] at hc ⊢
  rw [hb.block g hg]
  exact hc
theorem StrRow.cell {w : World} {ad : Option Addr} {cap n : Nat} {l : List ByteArray} (h : StrRow w (.slice ad n cap) l) {j : Nat} {x : ByteArray} (hx : l[j]? = some x) : ∃ g, ad = some ⟨g, 0, none⟩ ∧ w.cell? ⟨g, j, none⟩ = some (.string x) := by
  obtain ⟨ad', cap', h1, h2⟩ := h
  cases h1
  obtain ⟨g, e, _, hc⟩ := h2 j x hx
  exact ⟨g, e, hc⟩
/-- What a split tells. -/
def SplitRes (w : World) (r : Option (List ByteArray)) (e : Ending) (w' : World) : Prop :=
  ∃ ad cap, e = .returned (.tuple #[.slice ad ((r.getD []).length : Nat) cap, .int .i64 (if r.isSome then 0 else 1)]) ∧ StrRow w' (.slice ad ((r.getD []).length : Nat) cap) (r.getD []) ∧ Below w.heap.size w w'
theorem dsplit (s : ByteArray) (w : World) (hs : s.size ≤ 9223372036854775807) (hE : Env w) : Calls Tryz.prog 20 #[.string s] w (SplitRes w (splitD s)) := by
  obtain ⟨m, hm⟩ := hE.hm
  refine (split_any s m w hs hm hE.h3 hE.hT).mono ?_
  rintro e w' ⟨hb, h⟩
  cases hr : splitD s with
  | none =>
    rw [hr] at h
    exact ⟨none, 0, h, ⟨none, 0, rfl, fun j x hx => by simp at hx⟩, hb⟩
  | some l =>
    rw [hr] at h
    obtain ⟨sv, h1, h2⟩ := h
    rcases h2 with ⟨rfl, rfl⟩ | ⟨g, rfl, hg, hc⟩
    · exact ⟨none, 0, h1, ⟨none, 0, rfl, fun j x hx => by simp at hx⟩, hb⟩
    · refine ⟨_, _, h1, ⟨_, _, rfl, fun j x hx => ?_⟩, hb⟩
      have hx : l[j]? = some x := hx
      have : w'.cell? ⟨g, j, none⟩ = some (.string x) := by simp [World.cell?, hc, hx]
      exact ⟨g, rfl, lt_of_cell this, this⟩
theorem splitD_len (s : ByteArray) : ((splitD s).getD []).length ≤ 8 := by
  unfold splitD
  split
  · simp
  · split
    · simp
    · split
      · simp
      · rename_i h
        simp only [Option.getD_some]
        omega
theorem spl1 : splitD ⟨#[47, 97, 47, 98]⟩ = some [⟨#[97]⟩, ⟨#[98]⟩] := by kernel_rfl
theorem spl2 : splitD ⟨#[47, 97, 47, 47, 98]⟩ = none := by kernel_rfl
theorem spl3 : splitD ⟨#[47]⟩ = some [] := by kernel_rfl
theorem nam1 : nameD ⟨#[120]⟩ = true := by kernel_rfl
theorem nam2 : nameD ⟨#[46, 46]⟩ = false := by kernel_rfl
set_option maxRecDepth 1000000 in
set_option maxHeartbeats 400000 in
theorem awake_any (w : World) (hE : Env w) : Calls Tryz.prog 7 #[] w fun e w' => e = .returned (.bool true) ∧ Below w.heap.size w w' := by
  have cA : ∀ w', Below w.heap.size w w' → Calls Tryz.prog 20 #[.string ⟨#[47, 97, 47, 98]⟩] w' (fun e w2 => ∃ g cap, e = .returned (.tuple #[.slice (some ⟨g, 0, none⟩) 2 cap, .int .i64 0]) ∧ w2.cell? ⟨g, 1, none⟩ = some (.string ⟨#[98]⟩) ∧ Below w'.heap.size w' w2) := fun w' hb => by
    have h := dsplit ⟨#[47, 97, 47, 98]⟩ w' (by decide) (hE.below hb)
    rw [spl1] at h
    refine h.mono ?_
    rintro e w2 ⟨ad, cap, h1, h2, h3⟩
    obtain ⟨g, rfl, hc⟩ := h2.cell (j := 1) (x := ⟨#[98]⟩) rfl
    exact ⟨g, cap, h1, hc, h3⟩
  have cB : ∀ w', Below w.heap.size w w' → Calls Tryz.prog 20 #[.string ⟨#[47, 97, 47, 47, 98]⟩] w' (fun e w2 => ∃ ad cap, e = .returned (.tuple #[.slice ad 0 cap, .int .i64 1]) ∧ Below w'.heap.size w' w2) := fun w' hb => by
    have h := dsplit ⟨#[47, 97, 47, 47, 98]⟩ w' (by decide) (hE.below hb)
    rw [spl2] at h
    refine h.mono ?_
    rintro e w2 ⟨ad, cap, h1, h2, h3⟩
    exact ⟨ad, cap, h1, h3⟩
  have cC : ∀ w', Below w.heap.size w w' → Calls Tryz.prog 20 #[.string ⟨#[47]⟩] w' (fun e w2 => ∃ ad cap, e = .returned (.tuple #[.slice ad 0 cap, .int .i64 0]) ∧ Below w'.heap.size w' w2) := fun w' hb => by
    have h := dsplit ⟨#[47]⟩ w' (by decide) (hE.below hb)
    rw [spl3] at h
    refine h.mono ?_
    rintro e w2 ⟨ad, cap, h1, h2, h3⟩
    exact ⟨ad, cap, h1, h3⟩
  have cX : ∀ w', Below w.heap.size w w' → Calls Tryz.prog 21 #[.string ⟨#[120]⟩] w' (fun e w2 => e = .returned (.bool true) ∧ Below w'.heap.size w' w2) := fun w' hb => by
    have h := name_any ⟨#[120]⟩ w' (by decide) (hE.below hb).hT
    rw [nam1] at h
    exact h
  have cY : ∀ w', Below w.heap.size w w' → Calls Tryz.prog 21 #[.string ⟨#[46, 46]⟩] w' (fun e w2 => e = .returned (.bool false) ∧ Below w'.heap.size w' w2) := fun w' hb => by
    have h := name_any ⟨#[46, 46]⟩ w' (by decide) (hE.below hb).hT
    rw [nam2] at h
    exact h
  have cAH : Hid _ := Lib.hid cA
  have cBH : Hid _ := Lib.hid cB
  have cCH : Hid _ := Lib.hid cC
  have cXH : Hid _ := Lib.hid cX
  have cYH : Hid _ := Lib.hid cY
  clear cA cB cC cX cY hE
  go_enter Tryz.func7, Tryz.ntmps7
  go_upto_region 4 with (first
    | (go_at_call 20; with_reducible refine (cAH.out w (Below.refl _ _)).mono ?_; rintro e w1 ⟨g1, cap1, rfl, hc1, hb1⟩; have hb1H : Hid _ := Lib.hid hb1; clear hb1)
    | (go_at_call 20; with_reducible refine (cBH.out w1 hb1H.out).mono ?_; rintro e w2 ⟨ad2, cap2, rfl, hb2⟩)
    | (go_at_call 20; with_reducible refine (cCH.out w2 (hb1H.out.trans (hb2.mono hb1H.out.size))).mono ?_; rintro e w3 ⟨ad3, cap3, rfl, hb3⟩)
    | fail)
  have hb3' := hb1H.out.trans ((hb2.trans (hb3.mono hb2.size)).mono hb1H.out.size)
  have hc3 : w3.cell? ⟨g1, 1, none⟩ = some (.string ⟨#[98]⟩) := by
    have hlt := lt_of_cell hc1
    have := (hb2.trans (hb3.mono hb2.size)).block g1 hlt
    simp only [World.cell?] at hc1 ⊢
    rw [this]
    exact hc1
  clear hc1
  have hb3H : Hid _ := Lib.hid hb3'
  clear hb2 hb3 hb3' hb1H
  go_wp2_with (first
    | (go_at_call 21; with_reducible refine (cXH.out w3 hb3H.out).mono ?_; rintro e w4 ⟨rfl, hb4⟩)
    | (go_at_call 21; with_reducible refine (cYH.out w4 (hb3H.out.trans (hb4.mono hb3H.out.size))).mono ?_; rintro e w5 ⟨rfl, hb5⟩)
    | fail)
  go_ret
  exact ⟨rfl, hb3H.out.trans ((hb4.trans (hb5.mono hb4.size)).mono hb3H.out.size)⟩

end Go.Proofs.YtjngphffgdjcfaaGreatDoor
