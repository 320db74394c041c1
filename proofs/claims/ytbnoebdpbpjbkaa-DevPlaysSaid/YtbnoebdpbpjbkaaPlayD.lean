/-
  A device and the document's one, side by side: whether they tell the same.
-/
import Derived.Test.YtbnoebdpbpjbkaaRef3
import Derived.Test.YtbnoebdpbpjbkaaLaw4b
import Derived.Test.YtbnoebdpbpjbkaaDevC
import Derived.RegionTactic
namespace Go.Proofs.Ytbnoebdpbpjbkaa
open Go.RowKit Go.Lz

/-- The device D at q, the document's device E at r. -/
def TDR (q r g : Nat) (D E : DevS) : World → (Nat → Prop) → Prop := fun w F => ∃ F1, DevAt Try.prog w q D F1 ∧ (∀ k, F1 k → F k) ∧ RefAt w r g E ∧ F r ∧ F g ∧ ¬ F1 r ∧ ¬ F1 g
theorem keepsDR (q r g : Nat) (D E : DevS) : Keeps (TDR q r g D E) := fun _ _ _ _ h hc hM => by
  obtain ⟨F1, h1, h2, h3, h4, h5, h6, h7⟩ := h
  exact ⟨F1, h1.chg hc (fun k hk => hM k (h2 k hk)), h2, h3.chg hc (hM r h4) (hM g h5), h4, h5, h6, h7⟩
section
variable {w0 w : World} {q r g : Nat} {D E : DevS} {L : Locals}

theorem _root_.Go.Lz.RefAt.lt (h : RefAt w r g E) : r < w.heap.size ∧ g < w.heap.size := by
  obtain ⟨cap, h⟩ := h
  exact h.lt

/-- A call of the device. -/
theorem dr_dev (h : Own w0 w (TDR q r g D E) L) : ∃ F1, DevAt Try.prog w q D F1 ∧ (∀ k, F1 k → w0.heap.size ≤ k ∧ k < w.heap.size) ∧
    ∀ {w' : World} {q' : Nat} {D' : DevS} {F1' : Nat → Prop}, DevAt Try.prog w' q' D' F1' → Chg F1 w w' → (∀ k, F1' k → F1 k ∨ w.heap.size ≤ k) → Own w0 w' (TDR q' r g D' E) L := by
  obtain ⟨F, ⟨F1, h1, h2, h3, h4, h5, h6, h7⟩, hF, hgo⟩ := h.step
  have hl := h3.lt
  refine ⟨F1, h1, fun k hk => hF k (h2 k hk), fun {w' q' D' F1'} hD hc hn => hgo ⟨F1', hD, fun k hk => (hn k hk).imp (h2 k) (fun h9 => ⟨h9, hD.lt k hk⟩), h3.chg hc h6 h7, .inl h4, .inl h5, fun hr => (hn r hr).elim h6 (fun h9 => by omega), fun hg => (hn g hg).elim h7 (fun h9 => by omega)⟩ (hc.mono fun j _ e => h2 j e)⟩
/-- A call of the document's device. -/
theorem dr_ref (h : Own w0 w (TDR q r g D E) L) : RefAt w r g E ∧ w0.heap.size ≤ r ∧ w0.heap.size ≤ g ∧
    ∀ {w' : World} {r' g' : Nat} {E' : DevS}, RefAt w' r' g' E' → Chg (fun k => k = r ∨ k = g) w w' → (r' = r ∧ g' = g ∨ w.heap.size ≤ r' ∧ w.heap.size ≤ g') → Own w0 w' (TDR q r' g' D E') L := by
  obtain ⟨F, ⟨F1, h1, h2, h3, h4, h5, h6, h7⟩, hF, hgo⟩ := h.step
  have hl1 := h1.lt
  refine ⟨h3, (hF r h4).1, (hF g h5).1, fun {w' r' g' E'} hR hc hn => ?_⟩
  have hl := hR.lt
  refine hgo ⟨F1, h1.chg hc (fun k hk e => ?_), fun k hk => .inl (h2 k hk), hR, ?_, ?_, fun hr => ?_, fun hg => ?_⟩ (hc.mono fun j _ e => ?_)
  · rcases e with e | e
    · exact h6 (e ▸ hk)
    · exact h7 (e ▸ hk)
  · rcases hn with ⟨rfl, rfl⟩ | ⟨h8, h9⟩
    · exact .inl h4
    · exact .inr ⟨h8, hl.1⟩
  · rcases hn with ⟨rfl, rfl⟩ | ⟨h8, h9⟩
    · exact .inl h5
    · exact .inr ⟨h9, hl.2⟩
  · rcases hn with ⟨rfl, rfl⟩ | ⟨h8, h9⟩
    · exact h6 hr
    · have := hl1 _ hr; omega
  · rcases hn with ⟨rfl, rfl⟩ | ⟨h8, h9⟩
    · exact h7 hg
    · have := hl1 _ hg; omega
  · rcases e with e | e
    · rw [e]; exact h4
    · rw [e]; exact h5

/-- The call hands back v; the devices are such ones. -/
def DRDid (w0 w : World) (q r g : Nat) (D E : DevS) (L : Locals) (v : Value) (e : Ending) (w' : World) : Prop := e = .returned v ∧ Own w0 w' (TDR q r g D E) L ∧ w.heap.size ≤ w'.heap.size

theorem dr_write (h : Own w0 w (TDR q r g D E) L) {v : Value} {b : Bytes} {G : Nat → Prop} (hv : Src 5 w G v b) (i : Int) : Calls Try.prog 22 #[Dptr q, .int .i64 i, v] w (DRDid w0 w q r g (D.write i b).2 E L (.int .i64 (D.write i b).1)) := by
  obtain ⟨F1, hD, hF, hgo⟩ := dr_dev h
  refine (write_any hD hv i).mono ?_
  rintro e w' ⟨h1, h2, h3⟩
  exact ⟨h1, hgo h2 h3 (fun k hk => hk.imp id (·.1)), h3.size⟩
theorem dr_flush (h : Own w0 w (TDR q r g D E) L) : Calls Try.prog 21 #[Dptr q] w (DRDid w0 w q r g D.flush.2 E L (.int .i64 D.flush.1)) := by
  obtain ⟨F1, hD, hF, hgo⟩ := dr_dev h
  refine (flush_any hD).mono ?_
  rintro e w' ⟨h1, h2, h3⟩
  exact ⟨h1, hgo h2 h3 (fun k hk => hk.imp id (·.1)), h3.size⟩
theorem dr_crash (h : Own w0 w (TDR q r g D E) L) (flip : Bool) {G : Nat → Prop} {v : Value} {l : List Int} (hv : IntsAt w0 G v l) : Calls Try.prog 24 #[Dptr q, .bool flip, v] w (DRDid w0 w q r g (D.crashed flip l) E L (.tuple #[])) := by
  have hb := h.base
  obtain ⟨F1, hD, hF, hgo⟩ := dr_dev h
  have hv' := (hv.here).chg (M := fun _ => False) (Chg.of_below hb) (fun _ _ _ h => h)
  refine (crash_any' hD flip hv' (fun k hk h => by have := (hF k h).1; omega)).mono ?_
  rintro e w' ⟨h1, h2, h3⟩
  exact ⟨h1, hgo h2 h3 (fun k hk => hk.imp id (·.1)), h3.size⟩
theorem dr_fuse (h : Own w0 w (TDR q r g D E) L) (k : Int) (hk : k ≤ 9223372036854775807) : Calls Try.prog 18 #[Dptr q, .int .i64 k] w (DRDid w0 w q r g (D.fused k) E L (.tuple #[])) := by
  obtain ⟨F1, hD, hF, hgo⟩ := dr_dev h
  refine (fuse_any hD k hk).mono ?_
  rintro e w' ⟨h1, h2, h3⟩
  exact ⟨h1, hgo h2 (h3.mono fun j _ e => by subst e; exact hD.Fp) (fun _ h => .inl h), h3.size⟩
theorem dr_copy (h : Own w0 w (TDR q r g D E) L) : Calls Try.prog 28 #[Dptr q] w fun e w' => ∃ q', DRDid w0 w q' r g D E L (Dptr q') e w' := by
  obtain ⟨F1, hD, hF, hgo⟩ := dr_dev h
  refine (copy_any hD).mono ?_
  rintro e w' ⟨q', h1, h2, h3⟩
  exact ⟨q', h1, hgo h2 (Chg.of_below h3) (fun k hk => hk.imp (·.1) (·.1)), h3.size⟩
/-- A read: nothing and an error; or a new local row. -/
def DRRead (w0 w : World) (q r g : Nat) (D E : DevS) (L : Locals) (i : Int) (e : Ending) (w' : World) : Prop :=
  (D.wrong i ≠ 0 ∧ e = .returned (.tuple #[.slice none 0 0, .int .i64 (D.wrong i)]) ∧ w = w') ∨
  (D.wrong i = 0 ∧ ∃ v gb o, e = .returned (.tuple #[v, .int .i64 0]) ∧ BufO 5 gb o v (D.now i.toNat) ∧ w.heap.size ≤ gb ∧ Own w0 w' (TDR q r g D.counted E) (upd L gb (some o)) ∧ w.heap.size ≤ w'.heap.size)

theorem dr_rread (h : Own w0 w (TDR q r g D E) L) (i : Int) : Calls Try.prog 31 #[Dptr r, .int .i64 i] w (DRDid w0 w q r g D (E.rread i).2.2 L (.tuple #[strV (E.rread i).1, .int .i64 (E.rread i).2.1])) := by
  obtain ⟨hR, _, _, hgo⟩ := dr_ref h
  refine (rread_any hR i).mono ?_
  rintro e w' ⟨h1, h2, h3⟩
  exact ⟨h1, hgo h2 h3 (.inl ⟨rfl, rfl⟩), h3.size⟩
theorem dr_rwrite (h : Own w0 w (TDR q r g D E) L) (hfu : -1 ≤ E.fuse ∧ E.fuse ≤ 9223372036854775807) (i : Int) (b : Bytes) (hb : b.length ≤ 1000000) : Calls Try.prog 30 #[Dptr r, .int .i64 i, strV b] w (DRDid w0 w q r g D (E.write i b).2 L (.int .i64 (E.write i b).1)) := by
  obtain ⟨hR, _, _, hgo⟩ := dr_ref h
  refine (rwrite_any hR hfu i b hb).mono ?_
  rintro e w' ⟨h1, h2, h3⟩
  exact ⟨h1, hgo h2 h3 (.inl ⟨rfl, rfl⟩), h3.size⟩
theorem dr_rflush (h : Own w0 w (TDR q r g D E) L) (hfu : -1 ≤ E.fuse ∧ E.fuse ≤ 9223372036854775807) : Calls Try.prog 32 #[Dptr r] w (DRDid w0 w q r g D E.flush.2 L (.int .i64 E.flush.1)) := by
  obtain ⟨hR, _, _, hgo⟩ := dr_ref h
  refine (rflush_any hR hfu).mono ?_
  rintro e w' ⟨h1, h2, h3⟩
  exact ⟨h1, hgo h2 h3 (.inl ⟨rfl, rfl⟩), h3.size⟩
theorem dr_rcrash (h : Own w0 w (TDR q r g D E) L) (flip : Bool) {G : Nat → Prop} {v : Value} {l : List Int} (hv : IntsAt w0 G v l) : Calls Try.prog 33 #[Dptr r, .bool flip, v] w (DRDid w0 w q r g D (E.crashed flip l) L (.tuple #[])) := by
  have hb := h.base
  obtain ⟨hR, h1, h2, hgo⟩ := dr_ref h
  have hv' := (hv.here).chg (M := fun _ => False) (Chg.of_below hb) (fun _ _ _ h => h)
  refine (rcrash_any hR flip hv' (fun k hk => by constructor <;> omega)).mono ?_
  rintro e w' ⟨h1, h2, h3⟩
  exact ⟨h1, hgo h2 h3 (.inl ⟨rfl, rfl⟩), h3.size⟩
theorem dr_rcopy (h : Own w0 w (TDR q r g D E) L) : Calls Try.prog 34 #[Dptr r] w fun e w' => ∃ r' g', DRDid w0 w q r' g' D E L (Dptr r') e w' := by
  obtain ⟨hR, h1, h2, hgo⟩ := dr_ref h
  refine (rcopy_any hR).mono ?_
  rintro e w' ⟨r', g', h1, h2, h3, h4, h5⟩
  exact ⟨r', g', h1, hgo h2 (Chg.of_below h5) (.inr ⟨h3, h4⟩), h5.size⟩

theorem dr_read (h : Own w0 w (TDR q r g D E) L) (i : Int) : Calls Try.prog 19 #[Dptr q, .int .i64 i] w (DRRead w0 w q r g D E L i) := by
  have hsz := h.size
  obtain ⟨F, ⟨F1, h1, h2, h3, h4, h5, h6, h7⟩, hF, hb, hL⟩ := h
  refine (read_any h1 i).mono ?_
  rintro e w' (⟨e1, e2, _, e4⟩ | ⟨e1, v, gb, rfl, hdat, hg, hD', hC⟩)
  · exact .inl ⟨e1, e2, e4⟩
  · obtain ⟨g', hg', hbuf⟩ := hdat.buf
    have hgg : g' = gb := hg'
    subst hgg
    obtain ⟨o, ho, hbo⟩ := hbuf.bufO
    have hC' := hC.mono (M' := F) fun j _ e => h2 j e
    refine .inr ⟨e1, v, g', o, rfl, hbo, hg, ⟨F, ⟨F1, hD', h2, h3.chg hC h6 h7, h4, h5, h6, h7⟩, fun k hk => ⟨(hF k hk).1, Nat.lt_of_lt_of_le (hF k hk).2 hC.size⟩, hb.trans (hC'.belowB hb.size (fun j hj h => by have := (hF j h).1; omega)), fun b o2 hb2 => ?_⟩, hC.size⟩
    by_cases e : b = g'
    · subst e
      rw [upd_same] at hb2
      cases hb2
      exact ⟨by omega, fun h => by have := (hF _ h).2; omega, ho⟩
    · rw [upd_other _ e] at hb2
      exact ⟨(hL b o2 hb2).1, (hL b o2 hb2).2.1, (hC'.block b (lt_of_heap (hL b o2 hb2).2.2) (hL b o2 hb2).2.1).trans (hL b o2 hb2).2.2⟩

set_option maxRecDepth 100000 in
set_option maxHeartbeats 1000000 in
theorem same1_any (h : Own w0 w (TDR q r g D D) L) : Calls Try.prog 35 #[Dptr q, Dptr r] w (DRDid w0 w q r g D D L (.bool true)) := by
  obtain ⟨F1, hD, hF, _⟩ := dr_dev h
  obtain ⟨hR, _, _, _⟩ := dr_ref h
  go_enter Try.func35, Try.ntmps35
  go_wp2_with fail
  refine (waiting_any hD).mono ?_
  rintro e w1 ⟨v1, rfl, hv1, hB1⟩
  have hO1 := h.below (keepsDR _ _ _ _ _) hB1
  obtain ⟨hR1, _, _, _⟩ := dr_ref hO1
  go_wp2_with fail
  refine (rwaiting_any hR1).mono ?_
  rintro e w2 ⟨v2, rfl, hv2, hB2⟩
  have hO2 := hO1.below (keepsDR _ _ _ _ _) hB2
  have hv1' := hv1.chg (M := fun _ => False) (Chg.of_below hB2) (fun _ _ _ h => h)
  obtain ⟨hR2, _, _, _⟩ := dr_ref hO2
  obtain ⟨F2, hD2, _, _⟩ := dr_dev hO2
  obtain ⟨cap, hR3⟩ := hR2
  obtain ⟨c0, c1, c2, c3, _⟩ := hR3.fields
  obtain ⟨a1, n1, p1, rfl, hl1, hn1, hcs1⟩ := hv1'
  obtain ⟨a2, n2, p2, rfl, hl2, hn2, hcs2⟩ := hv2
  have hs1 := hB1.size
  have hs2 := hB2.size
  obtain rfl : n1 = n2 := by omega
  generalize hl : (D.waiting.map fun (k : Nat) => (k : Int)) = l at *
  clear hl hv1 hB1 hB2 hR1 hR hD hO1 h
  go_upto_region 3 with fail
  obtain ⟨lr, lg⟩ := hR3.lt
  have d0 : ∀ W : BelowOf w2, W.val.cell? ⟨r, 0, none⟩ = some (.slice (some ⟨g, 0, none⟩) D.n cap) := fun W => (W.prop.cell (p := ⟨r, 0, none⟩) lr).trans c0
  have d1 : ∀ W : BelowOf w2, W.val.cell? ⟨r, 1, none⟩ = some (.int .i64 D.calls) := fun W => (W.prop.cell (p := ⟨r, 1, none⟩) lr).trans c1
  have d3 : ∀ W : BelowOf w2, W.val.cell? ⟨r, 3, none⟩ = some (.bool D.dead) := fun W => (W.prop.cell (p := ⟨r, 3, none⟩) lr).trans c3
  refine wp_region_below (by kernel_rfl) (by kernel_rfl) ?_
  repeat (any_goals (first | go_big_quiet_skip | quiet_step (first
    | (go_at_call 74; exact Calls.below_of_same (calls_any (hD2.below (BelowOf.prop _))))
    | (go_at_call 20; exact Calls.below_of_same (dead_any (hD2.below (BelowOf.prop _))))
    | (go_at_call 66; exact Calls.below_of_same (size_any (hD2.below (BelowOf.prop _)))))))
  refine wpQuiet_nil ?_
  rintro _ ⟨⟨w3, hq⟩, rfl⟩
  have hO3 := hO2.below (keepsDR _ _ _ _ _) hq
  have hsz : w.heap.size ≤ w2.heap.size := by omega
  have hsq := hq.size
  clear d0 d1 d3
  clear hD2 hO2 c0 c1 c2 c3 hR3
  go_wp2_with fail
  go_loopg [7] n1 (fun gg iv wr => ∃ k : Nat, k + gg = n1 ∧ iv = .int .i64 (k : Int) ∧ Own w0 wr (TDR q r g D D) L ∧ w2.heap.size ≤ wr.heap.size ∧ (n1 ≠ 0 → ∀ b, b < w2.heap.size → wr.heap[b]? = w2.heap[b]?))
  case atStart => exact ⟨0, by omega, rfl, hO3, hsq, fun _ b hb => hq.block b hb⟩
  case round =>
    clear hO3
    obtain ⟨k, hkd, rfl, hO, hsr, hkeep⟩ := hrel
    have hkd' : Hid (k + gk = n1) := hkd
    by_cases hk : k < n1
    · have hk' : (k : Int) < (n1 : Int) := by omega
      have hkp := hkeep (by omega)
      rcases hcs1 with h0 | ⟨b1, o1, rfl, _, hb1, hc1⟩
      · omega
      rcases hcs2 with h0 | ⟨b2, o2, rfl, _, hb2, hc2⟩
      · omega
      have x1 := (World.cell?_of_block (w := w2) (a := ⟨b1, o1 + k, none⟩) (hkp b1 hb1)).trans (hc1 k hk)
      have x2 := (World.cell?_of_block (w := w2) (a := ⟨b2, o2 + k, none⟩) (hkp b2 hb2)).trans (hc2 k hk)
      obtain ⟨y, hy⟩ : ∃ y, y = l.getD k 0 := ⟨_, rfl⟩
      rw [← hy] at x1 x2
      have hkpH : Hid _ := Lib.hid hkp
      clear hkd hc1 hc2 hy hkeep hkp
      go_upto_region 8 with fail
      go_region
      all_goals
        go_wp2_with fail
        go_roundg (gk - 1)
        case measure => have := hkd'.out; omega
        case rel => exact ⟨k + 1, by have := hkd'.out; omega, by go_num, hO.below (keepsDR _ _ _ _ _) (Below.refl _ wr).drew, hsr, fun _ b hb => hkpH.out b hb⟩
    · obtain rfl : k = n1 := by omega
      clear hkd hkeep
      go_wp2_with fail
      go_ret
      exact ⟨rfl, hO, by omega⟩
end
end Go.Proofs.Ytbnoebdpbpjbkaa
