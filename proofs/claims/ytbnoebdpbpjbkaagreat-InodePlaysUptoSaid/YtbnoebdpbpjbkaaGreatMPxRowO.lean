/-
  An argument that is a script, opened.
-/
import Derived.Test.YtbnoebdpbpjbkaaGreatMPxRowB
import Derived.Test.YtbnoebdpbpjbkaaGreatMP22
import Derived.Deep.Slices
import Derived.Deep.Fields
namespace Go.Proofs.YtbnoebdpbpjbkaaGreat
open Go.ChangeShapes Go.WideShapes Go.ChangeAt Go.RowKit Go.Lz Go.Deep
section
variable {H : Type} {enc : TypeId × Value → H}
set_option maxRecDepth 100000 in
set_option maxHeartbeats 1000000 in
theorem ops_arg {W : World} {v : Value} {d : DataW H} {p : List MemPlace} {base : Nat} {Ts To : TypeId} {fs : Array Field} (hT : Tryz.prog.underlying Ts = some (.slice To)) (hS : Tryz.prog.underlying To = some (.struct fs)) (hC : Tryz.prog.cellsOf To = 6) (hone : oneCellFields Tryz.prog fs = true) (hty : fs.map (·.type) = #[3, 3, 3, 3, 4, 29])
    (h : DataW.Trod enc Tryz.prog W 0 (fun _ => true) true Ts v d p) (hok : Value.okWide Tryz.prog W .any base Ts v) : ∃ l, OpsAt W (fun _ => True) v l := by
  obtain ⟨a0, len, cap, rfl⟩ := okWide_slice hT hok
  obtain ⟨fuel, hf⟩ := h
  rcases open_slice hT hf with ⟨hcs, hx⟩ | ⟨a, len', cap', m, n, D, Pl, hcs, _, hl, hm, hmm, hx, hi⟩
  · simp [Value.cells] at hcs
    obtain ⟨rfl, rfl, rfl⟩ := hcs
    exact ⟨[], none, 0, 0, rfl, rfl, by omega, .inl rfl⟩
  · simp [Value.cells] at hcs
    obtain ⟨rfl, rfl, rfl⟩ := hcs
    simp only [if_true] at hmm
    subst hmm
    have hsz : fs.size = 6 := by have := congrArg Array.size hty; simpa using this
    by_cases h0 : len = 0
    · subst h0
      exact ⟨[], some a, 0, m, rfl, rfl, by omega, .inl rfl⟩
    have hfs : ∀ j, j < 6 → ∃ f, fs[j]? = some f ∧ f.type = (#[3, 3, 3, 3, 4, 29] : Array TypeId).getD j 0 ∧ f.offset = j ∧ Tryz.prog.cellsOf f.type = 1 := fun j hj => by
      have hf : fs[j]? = some (fs[j]'(by omega)) := Array.getElem?_eq_getElem (by omega)
      obtain ⟨o1, o2⟩ := hone_of hone j _ hf
      refine ⟨_, hf, ?_, o1, o2⟩
      have e := congrArg (fun a : Array TypeId => a.getD j 0) hty
      simpa [Array.getD_eq_getD_getElem?, Array.getElem?_map, hf] using e
    have key : ∀ i, i < m → ∀ j, j < 6 → ∃ u y nn, W.cell? (a.add (i * 6 + j)) = some u ∧ DataW.trod enc Tryz.prog W 0 (fun _ => true) true nn ((#[3, 3, 3, 3, 4, 29] : Array TypeId).getD j 0) [u] = some y := by
      intro i him j hj
      obtain ⟨cs', hc, ht'⟩ := hi i him
      rw [hC] at hc
      obtain ⟨ys, n', hn', hy, hlen, hyl, hfd⟩ := DataW.trod_struct hS ht'
      obtain ⟨_, hcl, hat⟩ := World.cells?_some hc
      obtain ⟨f, hf, hft, hfo, hfc⟩ := hfs j hj
      have h1 := hfd j f hf
      rw [hfo, hfc] at h1
      have hv : cs'[j]? = some (cs'[j]'(by omega)) := List.getElem?_eq_getElem (by omega)
      have hone' : (cs'.drop j).take 1 = [cs'[j]'(by omega)] := by
        rw [List.drop_eq_getElem_cons (by omega)]
        rfl
      rw [hone', hft] at h1
      have hys : ys[j]? = some (ys[j]'(by omega)) := List.getElem?_eq_getElem (by omega)
      refine ⟨_, _, _, ?_, h1.trans hys⟩
      have hcell := hat j (by omega)
      rw [← add_add, hcell, hv]
    have ints : ∀ {u : Value} {y : DataW H × List MemPlace} {nn : Nat}, DataW.trod enc Tryz.prog W 0 (fun _ => true) true nn 3 [u] = some y → ∃ x : Int, u = .int .i64 x ∧ i64 x := by
      intro u y nn hu
      obtain ⟨x, h1, _, h3⟩ := DataW.trod_int Tryz.underlying3 hu
      refine ⟨x, by simpa using h1, ?_⟩
      exact bounds_i64 h3
    have one : ∀ i, i < m → ∃ o : OpR, ∀ b off, a = ⟨b, off, none⟩ → OpAt W (fun _ => True) b (off + i * 6) o := by
      intro i him
      obtain ⟨u0, y0, n0, a0, t0⟩ := key i him 0 (by omega)
      obtain ⟨u1, y1, n1, a1, t1⟩ := key i him 1 (by omega)
      obtain ⟨u2, y2, n2, a2, t2⟩ := key i him 2 (by omega)
      obtain ⟨u3, y3, n3, a3, t3⟩ := key i him 3 (by omega)
      obtain ⟨u4, y4, n4, a4, t4⟩ := key i him 4 (by omega)
      obtain ⟨u5, y5, n5, a5, t5⟩ := key i him 5 (by omega)
      obtain ⟨x0, rfl, w0⟩ := ints t0
      obtain ⟨x1, rfl, w1⟩ := ints t1
      obtain ⟨x2, rfl, w2⟩ := ints t2
      obtain ⟨x3, rfl, w3⟩ := ints t3
      obtain ⟨b4, h4, _⟩ := DataW.trod_bool Tryz.underlying4 t4
      have h4 : u4 = .bool b4 := by simpa using h4
      subst h4
      have hints : ∃ l, IntsAt W (fun _ => True) u5 l := by
        rcases open_ints Tryz.underlying29 Tryz.underlying3 cells_int t5 with ⟨hcs, hx⟩ | ⟨a', len', cap', zs, hcs, _, hl', hm', hz, hx, hcell, hwz⟩
        · have : u5 = .slice none 0 0 := by simpa using hcs
          subst this
          exact ⟨[], none, 0, 0, rfl, rfl, by omega, .inl rfl⟩
        · have : u5 = .slice (some a') len' cap' := by simpa using hcs
          subst this
          simp at hz
          refine ⟨zs.take len', some a', len', cap', rfl, by simp; omega, by unfold maxLen at hm'; omega, ?_⟩
          by_cases h0 : len' = 0
          · exact .inl h0
          · right
            obtain ⟨b, off, rfl, hc⟩ := ints_at hcell (by omega)
            refine ⟨b, off, rfl, trivial, World.block_lt_of_cell? W _ (hc 0 (by omega)), fun j hj => ?_⟩
            rw [hc j (by omega)]
            simp [List.getD, hj]
      obtain ⟨l, hl⟩ := hints
      refine ⟨⟨x0, x1, x2, x3, b4, l⟩, ?_⟩
      rintro b off rfl
      have hadd : ∀ k, (⟨b, off, none⟩ : Addr).add k = ⟨b, off + k, none⟩ := fun k => by unfold Addr.add; split <;> simp_all
      rw [hadd] at a0 a1 a2 a3 a4 a5
      exact ⟨a0, by rw [Nat.add_assoc]; exact a1, by rw [Nat.add_assoc]; exact a2, by rw [Nat.add_assoc]; exact a3, by rw [Nat.add_assoc]; exact a4, ⟨u5, by rw [Nat.add_assoc]; exact a5, hl⟩, w0, w1, w2, w3⟩
    obtain ⟨u0, _, _, h00, _⟩ := key 0 (by omega) 0 (by omega)
    obtain ⟨b, off, mode⟩ := a
    have hm0 : mode = none := by simpa [Addr.add] using World.cell?_spot h00
    subst hm0
    have hall : ∃ O : Nat → OpR, ∀ i, i < m → OpAt W (fun _ => True) b (off + i * 6) (O i) :=
      ⟨fun i => if h : i < m then (one i h).choose else default, fun i hi => by
        simp only [dif_pos hi]
        exact (one i hi).choose_spec b off rfl⟩
    obtain ⟨O, hO⟩ := hall
    have hadd : ∀ k, (⟨b, off, none⟩ : Addr).add k = ⟨b, off + k, none⟩ := fun k => by unfold Addr.add; split <;> simp_all
    rw [hadd] at h00
    refine ⟨(List.range len).map O, some ⟨b, off, none⟩, len, m, rfl, by simp, by unfold maxLen at hm; omega, .inr ⟨b, off, rfl, trivial, World.block_lt_of_cell? W _ h00, fun j hj => ?_⟩⟩
    have e : ((List.range len).map O).getD j default = O j := by simp [List.getD, hj]
    rw [e]
    exact hO j (by omega)
end
end Go.Proofs.YtbnoebdpbpjbkaaGreat
