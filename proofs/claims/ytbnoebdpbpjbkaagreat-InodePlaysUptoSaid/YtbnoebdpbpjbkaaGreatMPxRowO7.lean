/-
  An argument that is a script of layer 6, opened.
-/
import Derived.Test.YtbnoebdpbpjbkaaGreatMPxRowO
import Derived.Test.YtbnoebdpbpjbkaaGreatMP22
namespace Go.Proofs.YtbnoebdpbpjbkaaGreat
open Go.ChangeShapes Go.WideShapes Go.ChangeAt Go.RowKit Go.Lz Go.Deep
section
variable {H : Type} {enc : TypeId × Value → H}
theorem bulk_one (d : DataW H) : 1 ≤ Rows.uptoBulk d := by
  cases d with
  | lit l => cases l <;> simp [Rows.uptoBulk]
  | nil => simp [Rows.uptoBulk]
  | ptr d => simp [Rows.uptoBulk]
  | slice elems spare => simp [Rows.uptoBulk]
  | agg parts => simp [Rows.uptoBulk]
  | iface t d => simp [Rows.uptoBulk]
  | map entries => simp [Rows.uptoBulk]
  | held h => simp [Rows.uptoBulk]
theorem bulk_part {d : DataW H} {l : List (DataW H)} (h : d ∈ l) : Rows.uptoBulk d ≤ Rows.uptoBulkAll l := by
  induction l with
  | nil => cases h
  | cons x r ih =>
    simp only [Rows.uptoBulkAll]
    rcases List.mem_cons.1 h with e | e
    · subst e; omega
    · have := ih e; omega
theorem bulk_length (l : List (DataW H)) : l.length ≤ Rows.uptoBulkAll l := by
  induction l with
  | nil => simp [Rows.uptoBulkAll]
  | cons x r ih => have := bulk_one x; simp only [Rows.uptoBulkAll, List.length_cons]; omega
theorem ints_cell {W : World} {u : Value} {y : DataW H × List MemPlace} {nn : Nat} (t5 : DataW.trod enc Tryz.prog W 0 (fun _ => true) true nn 29 [u] = some y) : ∃ l, IntsAt W (fun _ => True) u l := by
  rcases open_ints Tryz.underlying29 Tryz.underlying3 cells_int t5 with ⟨hcs, hx⟩ | ⟨a', len', cap', zs, hcs, _, hl', hm', hz, hx, hcell, hwz⟩
  · have : u = .slice none 0 0 := by simpa using hcs
    subst this
    exact ⟨[], none, 0, 0, rfl, rfl, by omega, .inl rfl⟩
  · have : u = .slice (some a') len' cap' := by simpa using hcs
    subst this
    simp at hz
    refine ⟨zs.take len', some a', len', cap', rfl, by simp; omega, by unfold maxLen at hm'; omega, ?_⟩
    by_cases h0 : len' = 0
    · exact .inl h0
    · right
      obtain ⟨b, off, rfl, hc⟩ := ints_at hcell (by omega)
      refine ⟨b, off, rfl, trivial, World.block_lt_of_cell? W _ (hc 0 (by omega)), fun j hj => ?_⟩
      rw [hc j (by omega)]
      simp [List.getD, hj]
theorem u8_back {x : Int} (h : (Lit.int .u8 x).wf = true) : (.int .u8 x : Value) = u8v (UInt8.ofNat x.toNat) := by
  have h2 : 0 ≤ x ∧ x ≤ 255 := by
    have : (decide (IntKind.u8.min ≤ x) && decide (x ≤ IntKind.u8.max)) = true := h
    rw [Bool.and_eq_true, decide_eq_true_eq, decide_eq_true_eq] at this
    exact this
  unfold u8v
  congr 1
  have h3 : (UInt8.ofNat x.toNat).toNat = x.toNat % 256 := by simp
  rw [h3]
  omega
theorem bytes_cell {W : World} {u : Value} {y : DataW H × List MemPlace} {nn : Nat} (t5 : DataW.trod enc Tryz.prog W 0 (fun _ => true) true nn 35 [u] = some y) : ∃ l, BytesAt W (fun _ => True) u l ∧ l.length ≤ Rows.uptoBulk y.1 := by
  have cells_u8 : Tryz.prog.cellsOf 5 = 1 := by kernel_rfl
  rcases open_ints Tryz.underlying35 Tryz.underlying5 cells_u8 t5 with ⟨hcs, hx⟩ | ⟨a', len', cap', zs, hcs, _, hl', hm', hz, hx, hcell, hwz⟩
  · have : u = .slice none 0 0 := by simpa using hcs
    subst this
    exact ⟨[], ⟨none, 0, 0, rfl, rfl, by decide, .inl rfl⟩, Nat.zero_le _⟩
  · have : u = .slice (some a') len' cap' := by simpa using hcs
    subst this
    simp at hz
    have hbk : ((zs.take len').map fun x => UInt8.ofNat x.toNat).length ≤ Rows.uptoBulk y.1 := by
      rw [hx]
      have h1 := bulk_length (H := H) (lits .u8 (zs.take len'))
      have h2 : (lits (H := H) .u8 (zs.take len')).length = (zs.take len').length := by simp [lits]
      simp only [Rows.uptoBulk, List.length_map]
      omega
    refine ⟨(zs.take len').map fun x => UInt8.ofNat x.toNat, ⟨some a', len', cap', rfl, by simp; omega, by omega, ?_⟩, hbk⟩
    by_cases h0 : len' = 0
    · exact .inl h0
    · right
      obtain ⟨b, off, rfl, hc⟩ := ints_at hcell (by omega)
      refine ⟨b, off, rfl, trivial, World.block_lt_of_cell? W _ (hc 0 (by omega)), fun j hj => ?_⟩
      rw [hc j (by omega)]
      have hj2 : j < zs.length := by omega
      have e : zs.getD j 0 = zs[j] := by simp [List.getD, hj2]
      rw [e, u8_back (hwz _ (List.getElem_mem hj2))]
      simp [List.getD, hj, hj2]
set_option maxRecDepth 100000 in
set_option maxHeartbeats 1000000 in
theorem ops7_arg {W : World} {v : Value} {d : DataW H} {p : List MemPlace} {base : Nat} {Ts To : TypeId} {fs fl : Array Field} (hT : Tryz.prog.underlying Ts = some (.slice To)) (hS : Tryz.prog.underlying To = some (.struct fs)) (hC : Tryz.prog.cellsOf To = 7) (hty : fs.map (fun (f : Field) => (f.type, f.offset)) = #[(3, 0), (3, 1), (3, 2), (3, 3), (31, 4), (35, 6)])
    (hL : Tryz.prog.underlying 31 = some (.struct fl)) (hlt : fl.map (fun (f : Field) => (f.type, f.offset)) = #[(29, 0), (29, 1)])
    (h : DataW.Trod enc Tryz.prog W 0 (fun _ => true) true Ts v d p) (hok : Value.okWide Tryz.prog W .any base Ts v) : ∃ l, OpsAt7 W (fun _ => True) v l ∧ ∀ j, j < l.length → (l.getD j default).data.length ≤ Rows.uptoBulk d := by
  have cb : Tryz.prog.cellsOf 35 = 1 := by kernel_rfl
  have ci : Tryz.prog.cellsOf 3 = 1 := by kernel_rfl
  have cis : Tryz.prog.cellsOf 29 = 1 := by kernel_rfl
  have cl : Tryz.prog.cellsOf 31 = 2 := by kernel_rfl
  obtain ⟨a0, len, cap, rfl⟩ := okWide_slice hT hok
  obtain ⟨fuel, hf⟩ := h
  rcases open_slice hT hf with ⟨hcs, hx⟩ | ⟨a, len', cap', m, n, D, Pl, hcs, _, hl, hm, hmm, hx, hi⟩
  · simp [Value.cells] at hcs
    obtain ⟨rfl, rfl, rfl⟩ := hcs
    exact ⟨[], ⟨none, 0, 0, rfl, rfl, by omega, .inl rfl⟩, fun j hj => absurd hj (Nat.not_lt_zero _)⟩
  · simp [Value.cells] at hcs
    obtain ⟨rfl, rfl, rfl⟩ := hcs
    simp only [if_true] at hmm
    subst hmm
    by_cases h0 : len = 0
    · subst h0
      exact ⟨[], ⟨some a, 0, m, rfl, rfl, by omega, .inl rfl⟩, fun j hj => absurd hj (Nat.not_lt_zero _)⟩
    have ints : ∀ {u : Value} {y : DataW H × List MemPlace} {nn : Nat}, DataW.trod enc Tryz.prog W 0 (fun _ => true) true nn 3 [u] = some y → ∃ x : Int, u = .int .i64 x ∧ i64 x := by
      intro u y nn hu
      obtain ⟨x, h1, _, h3⟩ := DataW.trod_int Tryz.underlying3 hu
      refine ⟨x, by simpa using h1, ?_⟩
      exact bounds_i64 h3
    have fld : ∀ {gs : Array Field} {L : Array (TypeId × Nat)}, gs.map (fun (f : Field) => (f.type, f.offset)) = L → ∀ (j : Nat) (t : TypeId) (o : Nat), L[j]? = some (t, o) → ∃ f : Field, gs[j]? = some f ∧ f.type = t ∧ f.offset = o := by
      intro gs L e j t o hj
      rw [← e, Array.getElem?_map] at hj
      obtain ⟨f, hf, he⟩ := Option.map_eq_some_iff.1 hj
      injection he with e1 e2
      exact ⟨f, hf, e1, e2⟩
    have one : ∀ i, i < m → ∃ (o : Op7), o.data.length ≤ Rows.uptoBulk (D i) ∧ ∀ b off, a = ⟨b, off, none⟩ → ∃ vs vi vd, OpAt7 W (fun _ => True) b (off + i * 7) vs vi vd o := by
      intro i him
      obtain ⟨cs', hc, ht'⟩ := hi i him
      rw [hC] at hc
      obtain ⟨ys, n', hn', hy, hlen, hyl, hfd⟩ := DataW.trod_struct hS ht'
      obtain ⟨_, hcl, hat⟩ := World.cells?_some hc
      rw [hC] at hlen
      have hsz : fs.size = 6 := by have := congrArg Array.size hty; simpa using this
      obtain ⟨u0, u1, u2, u3, u4, u5, u6, rfl⟩ : ∃ u0 u1 u2 u3 u4 u5 u6, cs' = [u0, u1, u2, u3, u4, u5, u6] := by
        match cs', hlen with
        | [u0, u1, u2, u3, u4, u5, u6], _ => exact ⟨u0, u1, u2, u3, u4, u5, u6, rfl⟩
      have cell : ∀ j u, [u0, u1, u2, u3, u4, u5, u6][j]? = some u → W.cell? (a.add (i * 7 + j)) = some u := fun j u hu => by
        have hj : j < 7 := (List.getElem?_eq_some_iff.1 hu).1
        have := hat j (by omega)
        rw [← add_add, this, hu]
      have part : ∀ j t o, (#[(3, 0), (3, 1), (3, 2), (3, 3), (31, 4), (35, 6)] : Array (TypeId × Nat))[j]? = some (t, o) → ∃ y, DataW.trod enc Tryz.prog W 0 (fun _ => true) true n' t (([u0, u1, u2, u3, u4, u5, u6].drop o).take (Tryz.prog.cellsOf t)) = some y ∧ Rows.uptoBulk y.1 ≤ Rows.uptoBulk (D i) := fun j t o hj => by
        obtain ⟨f, hf, e1, e2⟩ := fld hty j t o hj
        have h1 := hfd j f hf
        rw [e1, e2] at h1
        have hjl : j < ys.length := by rw [hyl, hsz]; exact (Array.getElem?_eq_some_iff.1 hj).1
        refine ⟨_, h1.trans (List.getElem?_eq_getElem hjl), ?_⟩
        have e : D i = .agg (ys.map (·.1)) := by injection hy
        rw [e]
        have := bulk_part (H := H) (d := ys[j].1) (l := ys.map (·.1)) (List.mem_map.2 ⟨_, List.getElem_mem hjl, rfl⟩)
        simp only [Rows.uptoBulk]
        omega
      obtain ⟨y0, t0, _⟩ := part 0 3 0 rfl
      obtain ⟨y1, t1, _⟩ := part 1 3 1 rfl
      obtain ⟨y2, t2, _⟩ := part 2 3 2 rfl
      obtain ⟨y3, t3, _⟩ := part 3 3 3 rfl
      obtain ⟨y4, t4, _⟩ := part 4 31 4 rfl
      obtain ⟨y6, t6, b6⟩ := part 5 35 6 rfl
      rw [ci] at t0 t1 t2 t3
      rw [cl] at t4
      rw [cb] at t6
      obtain ⟨x0, e0, w0⟩ := ints t0
      obtain ⟨x1, e1, w1⟩ := ints t1
      obtain ⟨x2, e2, w2⟩ := ints t2
      obtain ⟨x3, e3, w3⟩ := ints t3
      obtain ⟨zs, n2, hn2, _, hzl, hzs, hzd⟩ := DataW.trod_struct hL t4
      have hszl : fl.size = 2 := by have := congrArg Array.size hlt; simpa using this
      have partL : ∀ j t o, (#[(29, 0), (29, 1)] : Array (TypeId × Nat))[j]? = some (t, o) → ∃ y, DataW.trod enc Tryz.prog W 0 (fun _ => true) true n2 t (([u4, u5].drop o).take (Tryz.prog.cellsOf t)) = some y := fun j t o hj => by
        obtain ⟨f, hf, e1, e2⟩ := fld hlt j t o hj
        have h1 := hzd j f hf
        rw [e1, e2] at h1
        have hjl : j < zs.length := by rw [hzs, hszl]; exact (Array.getElem?_eq_some_iff.1 hj).1
        exact ⟨_, h1.trans (List.getElem?_eq_getElem hjl)⟩
      obtain ⟨z0, s0⟩ := partL 0 29 0 rfl
      obtain ⟨z1, s1⟩ := partL 1 29 1 rfl
      rw [cis] at s0 s1
      obtain ⟨l4, h4⟩ := ints_cell s0
      obtain ⟨l5, h5⟩ := ints_cell s1
      obtain ⟨l6, h6, h6b⟩ := bytes_cell t6
      subst e0 e1 e2 e3
      refine ⟨⟨x0, x1, x2, x3, l4, l5, l6⟩, Nat.le_trans h6b b6, ?_⟩
      rintro b off rfl
      have hadd : ∀ k, (⟨b, off, none⟩ : Addr).add k = ⟨b, off + k, none⟩ := fun k => by unfold Addr.add; split <;> simp_all
      have cc : ∀ j u, [.int .i64 x0, .int .i64 x1, .int .i64 x2, .int .i64 x3, u4, u5, u6][j]? = some u → W.cell? ⟨b, off + i * 7 + j, none⟩ = some u := fun j u hu => by
        have := cell j u hu
        rw [hadd, ← Nat.add_assoc] at this
        exact this
      exact ⟨u4, u5, u6, cc 0 _ rfl, cc 1 _ rfl, cc 2 _ rfl, cc 3 _ rfl, cc 4 _ rfl, cc 5 _ rfl, cc 6 _ rfl, ⟨h4, h5, h6, w0, w1, w2, w3⟩⟩
    obtain ⟨cs0, hc0, ht0⟩ := hi 0 (by omega)
    rw [hC] at hc0
    obtain ⟨_, hcl0, hat0⟩ := World.cells?_some hc0
    have h00 := hat0 0 (by omega)
    rw [List.getElem?_eq_getElem (by omega)] at h00
    obtain ⟨b, off, mode⟩ := a
    have hm0 : mode = none := by simpa [Addr.add] using World.cell?_spot h00
    subst hm0
    have hall : ∃ O : Nat → Op7, ∀ i, i < m → (O i).data.length ≤ Rows.uptoBulk (D i) ∧ ∃ vs vi vd, OpAt7 W (fun _ => True) b (off + i * 7) vs vi vd (O i) :=
      ⟨fun i => if h : i < m then (one i h).choose else default, fun i hi => by
        simp only [dif_pos hi]
        exact ⟨(one i hi).choose_spec.1, (one i hi).choose_spec.2 b off rfl⟩⟩
    obtain ⟨O, hO⟩ := hall
    have hblt : b < W.heap.size := by
      have := World.block_lt_of_cell? W _ h00
      simpa [Addr.add] using this
    refine ⟨(List.range len).map O, ⟨some ⟨b, off, none⟩, len, m, rfl, by simp, by omega, .inr ⟨b, off, rfl, trivial, hblt, fun j hj => ?_⟩⟩, fun j hj => ?_⟩
    · have e : ((List.range len).map O).getD j default = O j := by simp [List.getD, hj]
      rw [e]
      exact (hO j (by omega)).2
    · have hj : j < len := by simpa using hj
      have e : ((List.range len).map O).getD j default = O j := by simp [List.getD, hj]
      rw [e]
      have ed : d = .slice ((List.range len).map D) ((List.range (m - len)).map fun j => D (len + j)) := by injection hx
      have h1 := (hO j (by omega)).1
      have h2 := bulk_part (H := H) (d := D j) (l := (List.range len).map D) (List.mem_map.2 ⟨j, by simpa using hj, rfl⟩)
      rw [ed]
      simp only [Rows.uptoBulk]
      omega
end
end Go.Proofs.YtbnoebdpbpjbkaaGreat
