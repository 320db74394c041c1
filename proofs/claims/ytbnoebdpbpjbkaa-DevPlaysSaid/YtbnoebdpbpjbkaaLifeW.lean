/-
  A life of a store, walked.
-/
import Derived.Test.YtbnoebdpbpjbkaaLifeP
import Derived.Test.YtbnoebdpbpjbkaaOwnR
namespace Go.Lz
open Go.RowKit
/-- The states as cells. -/
def statesV (st : List (Nat → Int)) : List Value := st.flatMap fun f => (arrOf 16 f).toList
theorem statesV_length (st : List (Nat → Int)) : (statesV st).length = st.length * 16 := by
  induction st with
  | nil => rfl
  | cons f st ih =>
    show ((arrOf 16 f).toList ++ statesV st).length = _
    rw [List.length_append, ih, List.length_cons, Array.length_toList, arrOf_size]
    omega
theorem statesV_app (st : List (Nat → Int)) (f : Nat → Int) : statesV (st ++ [f]) = statesV st ++ (arrOf 16 f).toList := by simp [statesV]
theorem statesV_at (st : List (Nat → Int)) {i k : Nat} (hi : i < st.length) (hk : k < 16) : (statesV st)[i * 16 + k]? = some (.int .i64 (st.getD i (fun _ => 0) k)) := by
  induction st generalizing i with
  | nil => cases hi
  | cons f st ih =>
    show ((arrOf 16 f).toList ++ statesV st)[i * 16 + k]? = _
    cases i with
    | zero =>
      rw [List.getElem?_append_left (by rw [Array.length_toList, arrOf_size]; omega), Nat.zero_mul, Nat.zero_add, Array.getElem?_toList, arrOf_at f hk]
      rfl
    | succ i =>
      rw [List.getElem?_append_right (by rw [Array.length_toList, arrOf_size]; omega), Array.length_toList, arrOf_size, show (i + 1) * 16 + k - 16 = i * 16 + k from by omega, ih (by simpa using hi)]
      rfl
theorem wpList_alloc_at {P : Program} {ops : Array Oper} {rest : List Oper} {o : Oper} {a : Act} {Q : Exit → Act → World → Prop} {w w' : World} {v : Value} (hg : o.guard = none) (T : TypeId) (hop : o.op = Op.alloc T)
    (hrun : (Instr.alloc T true (.tuple #[])).run P w = .ok v w') (h : wpList P ops Q rest (a.put o.dst v) w') : wpList P ops Q (o :: rest) a w := by
  refine wpList_plain hg fun K' hK' => ?_
  unfold Oper.wp
  simp [execOp, hop, hrun, Result.andThen]
  exact hK' _ _ h
theorem addN (g k : Nat) : (⟨g, 0, none⟩ : Addr).add k = ⟨g, k, none⟩ := by
  unfold Addr.add
  split <;> simp_all
theorem wpList_move_at {P : Program} {ops : Array Oper} {rest : List Oper} {o : Oper} {a : Act} {Q : Exit → Act → World → Prop} {w : World} {u : Value} (hg : o.guard = none) (x : Operand) (hop : o.op = Op.move x) (hx : a.eval x = u)
    (h : wpList P ops Q rest (a.put o.dst u) w) : wpList P ops Q (o :: rest) a w := by
  refine wpList_plain hg fun K' hK' => ?_
  unfold Oper.wp
  simp [execOp, hop, hx]
  exact hK' _ _ h
theorem wpList_build1_at {P : Program} {ops : Array Oper} {rest : List Oper} {o : Oper} {a : Act} {Q : Exit → Act → World → Prop} {w w' : World} {u v : Value} (hg : o.guard = none) (T : TypeId) (x : Operand) (hop : o.op = Op.buildSlice T 1 #[(0, x)])
    (hx : a.eval x = u) (hrun : (Instr.buildSlice T 1 #[(0, u)]).run P w = .ok v w') (h : wpList P ops Q rest (a.put o.dst v) w') : wpList P ops Q (o :: rest) a w := by
  refine wpList_plain hg fun K' hK' => ?_
  unfold Oper.wp
  simp [execOp, hop, hx, hrun, Result.andThen]
  exact hK' _ _ h
end Go.Lz
namespace Go.Proofs.Ytbnoebdpbpjbkaa
open Go.RowKit Go.Lz
section
variable {w0 w : World} {p q : Nat} {S : WalS} {L : Locals}

/-- What a life hands back. -/
def LifePost (w0 : World) (p q : Nat) (L : Locals) (e : Ending) (w' : World) : Prop :=
  ∃ v st least S, e = .returned (.tuple #[v, .int .i64 (least : Nat)]) ∧ OwnRow w0 w' (TStore p q S) L 81 16 v st.length (statesV st) ∧ Fallen S.dev st least ∧ st.length ≤ 100

theorem zero_arr16 : ∀ W : World, (Instr.alloc 81 true (.tuple #[])).run Try.prog W = .ok (.pointer (some ⟨W.heap.size, 0, none⟩)) (W.alloc (.cells (arrOf 16 (fun _ => 0)) 81)) := fun _ => by kernel_rfl
theorem build16 (f : Nat → Int) (W : World) : (Instr.buildSlice 86 1 #[(0, .agg (arrOf 16 f))]).run Try.prog W = .ok (.slice (some ⟨W.heap.size, 0, none⟩) 1 1) (W.alloc (.cells (arrOf 16 f) 81)) := by
  rw [arr16]
  kernel_rfl
theorem fold16 (f : Nat → Int) : Array.foldl (fun (cs : Array Value) (x : Value × Nat) => cs.setIfInBounds x.2 x.1) #[.int .i64 0, .int .i64 0, .int .i64 0, .int .i64 0, .int .i64 0, .int .i64 0, .int .i64 0, .int .i64 0, .int .i64 0, .int .i64 0, .int .i64 0, .int .i64 0, .int .i64 0, .int .i64 0, .int .i64 0, .int .i64 0] ((arrOf 16 f).zipIdx 0) 0 16 = arrOf 16 f := by
  rw [arr16]
  simp

set_option maxRecDepth 100000 in
set_option maxHeartbeats 4000000 in
theorem life_any (h : Own w0 w (TStore p q S) L) {f : Nat → Int} (r : Rec S 40 0 0 fun _ => kindsB f) (hn : S.now = fun _ => none) {G : Nat → Prop} {v : Value} {os : List OpR} (hv : OpsAt w0 G v os) (fuse : Int) (hfuse : fuse ≤ 9223372036854775807) :
    Calls Try.prog 51 #[Dptr q, Dptr p, .agg (arrOf 16 f), v, .int .i64 fuse] w (LifePost w0 p q L) := by
  obtain ⟨a, n1, cp, rfl, hl, hn1, hcs⟩ := hv
  have hb15 := and15
  have hb255 := and255
  have hA7 : Own w0 (w.alloc (.cells (arrOf 16 f) 81)) (TStore p q S) (upd L w.heap.size (some (.cells (arrOf 16 f) 81 (0, 0)))) := h.local_ (keepsStore p q S) ((Below.refl _ w).alloc (Nat.le_refl _) _) (Nat.le_refl _) (heap_alloc_new w _)
  have hl0 := Living.start r hn hfuse
  have hnH : Hid _ := Lib.hid hn
  clear hn
  go_enter Try.func51, Try.ntmps51
  go_upto_region 1 with fail
  generalize w.alloc (.cells (arrOf 16 f) 81) = wa at hA7 ⊢
  go_wp2_with fail
  refine (fuse4 hA7 fuse hfuse).mono ?_
  rintro e w2 ⟨rfl, hO2, hs2⟩
  go_upto_region 2 with fail
  go_step
  refine wpList_load_row rfl 81 _ rfl w.heap.size rfl _ (arrOf 16 f) (0, 0) _ (hO2.loc (upd_same _ _ _)) Try.underlying81 rfl (by rw [arrOf_size]; kernel_rfl) ?_
  go_upto_region 3 with fail
  rw [fold16 f]
  have hR2 := OwnRow.make (E := 81) (size := 16) (n := 1) hO2 (keepsStore _ _ _) (cur := arrOf 16 f) (by unfold maxLen; omega) (by rw [arrOf_size])
  have hs3 : w2.heap.size < (w2.alloc (.cells (arrOf 16 f) 81)).heap.size := by simp
  generalize (Value.slice (some ⟨w2.heap.size, 0, none⟩) 1 1) = sv at hR2 ⊢
  generalize w2.alloc (.cells (arrOf 16 f) 81) = w3 at hR2 hs3 ⊢
  obtain ⟨L', hO3, hL3, _⟩ := hR2.next
  go_step
  refine wpList_load_row rfl 81 _ rfl w.heap.size rfl _ (arrOf 16 f) (0, 0) _ (hO3.loc (hL3 _ _ (upd_same _ _ _))) Try.underlying81 rfl (by rw [arrOf_size]; kernel_rfl) ?_
  refine wpList_alloc_at rfl 81 rfl (zero_arr16 w3) ?_
  have hR4 := hR2.local_ (keepsStore _ _ _) ((Below.refl _ w3).alloc (Nat.le_refl _) (.cells (arrOf 16 fun _ => 0) 81)) (Nat.le_refl _) (heap_alloc_new w3 _)
  obtain ⟨L4, hO4, hL4, _⟩ := hR4.next
  refine wpList_store_row rfl 81 _ _ rfl w3.heap.size (arrOf 16 f) rfl rfl _ _ (hO4.loc (hL4 _ _ (upd_same _ _ _))) (by rw [arrOf_size]; kernel_rfl) (by rw [arrOf_size, arrOf_size]) (arrOf_one _ _) ?_
  have hR5 := hR4.set (o' := .cells (arrOf 16 f) 81 (0, 0)) (keepsStore _ _ _) (upd_same _ _ _) ((Chg.refl _ _).ownRow _) (setRow_heap _ w3.heap.size _ _ _ _ (hO4.loc (hL4 _ _ (upd_same _ _ _))))
  rw [upd_upd] at hR5
  go_frame
  go_upto_block 0 with fail
  have hA7n : L w.heap.size = none := h.none_ (Nat.le_refl _)
  have hsa : w.heap.size < w3.heap.size := by have := h.size; have h9 : w.heap.size < wa.heap.size := hA7.loc_lt (upd_same _ _ _); omega
  rw [upd_swap (show w.heap.size ≠ w3.heap.size by omega)] at hR5
  obtain ⟨B, hB⟩ : ∃ B, B = w3.heap.size := ⟨_, rfl⟩
  rw [← hB] at hR5 ⊢
  generalize (w3.alloc (.cells (arrOf 16 fun _ => 0) 81)).setRow B (arrOf 16 f) = w5 at hR5 ⊢
  have hLB : L B = none := h.none_ (by omega)
  have hR6 := hR5.drop (by rw [upd_other _ (by omega)]; exact hA7n)
  clear hR5 hO4 hR4 hO3 hL3 hL4 hR2 hO2 hA7 hA7n hsa hs3 hs2 hB
  have hst1 : statesV [f] = (arrOf 16 f).toList := by simp [statesV]
  rw [← hst1] at hR6
  clear hst1
  go_wp2_with fail
  go_loopg [12, 14, 15, 16, 17, 18, 19] 60 (fun g sv lv iv _ _ _ _ wr => ∃ (j least : Nat) (S : WalS) (st : List (Nat → Int)) (ff : Nat → Int), j + g = 60 ∧ iv = .int .i64 (j : Int) ∧ lv = .int .i64 (least : Int) ∧ st.length ≤ j + 1 ∧ OwnRow w0 wr (TStore p q S) (upd L B (some (.cells (arrOf 16 ff) 81 (0, 0)))) 81 16 sv st.length (statesV st) ∧ (Living S st ff least ∨ S.dev.dead = true ∧ Fallen S.dev st least))
  case atStart => exact ⟨0, 0, _, [f], f, rfl, rfl, rfl, by simp, hR6, .inl hl0⟩
  case round =>
    clear hR6 hl0 r
    obtain ⟨j, least, S, st, ff, hjd, rfl, rfl, hsl, hR, hlife⟩ := hrel
    have hjd' : Hid (j + gk = 60) := hjd
    have hcd := dead4 hR.rest
    by_cases hin : j < n1 ∧ j < 60
    · obtain ⟨hjn, hj60⟩ := hin
      have hjn' : (j : Int) < (n1 : Int) := by omega
      have hj60' : (j : Int) < 60 := by omega
      rcases hlife with hl | ⟨hdd, hfal⟩
      · rw [hl.devDead] at hcd
        rcases hcs with h0 | ⟨b, off, rfl, _, hbl, hc⟩
        · omega
        obtain ⟨o, ho⟩ : ∃ o, o = os.getD j default := ⟨_, rfl⟩
        have hB0 := hR.rest.base
        have hop : OpAt wr G b (off + j * 6) o := by rw [ho]; exact (hc j hjn).below hbl hB0
        obtain ⟨v5, c5w, hv5⟩ := (hc j hjn).c5
        obtain ⟨c0, c1, c2, c3, c4, _, hwf⟩ := hop
        have c5 : wr.cell? ⟨b, off + j * 6 + 5, none⟩ = some v5 := (hB0.cell (p := ⟨b, off + j * 6 + 5, none⟩) hbl).trans c5w
        obtain ⟨a5, n5, cap5, rfl, _⟩ := id hv5
        have hB9 : (wr.alloc (.cells #[.int .i64 o.kind, .int .i64 o.i, .int .i64 o.a, .int .i64 o.size, .bool o.flip, .slice a5 n5 cap5] 82)).heap[wr.heap.size]? = some (.cells #[.int .i64 o.kind, .int .i64 o.i, .int .i64 o.a, .int .i64 o.size, .bool o.flip, .slice a5 n5 cap5] 82) := heap_alloc_new wr _
        have hR9 := hR.local_ (keepsStore p q S) ((Below.refl _ wr).alloc (Nat.le_refl _) _) (Nat.le_refl _) hB9
        have hLn : (upd L B (some (.cells (arrOf 16 ff) 81 (0, 0)))) wr.heap.size = none := hR.rest.none_ (Nat.le_refl _)
        have hBlt : B < wr.heap.size := hR.rest.loc_lt (upd_same _ _ _)
        clear ho hc hjd c5w hB9
        go_upto_block 2 with (go_at_call 20; refine hcd.mono ?_; rintro e w' ⟨rfl, rfl⟩)
        clear c0 c1 c2 c3 c4 c5 hcd
        obtain ⟨B9, hB9⟩ : ∃ B9, B9 = wr.heap.size := ⟨_, rfl⟩
        rw [← hB9] at hR9 hLn hBlt ⊢
        generalize wr.alloc (.cells #[.int .i64 o.kind, .int .i64 o.i, .int .i64 o.a, .int .i64 o.size, .bool o.flip, .slice a5 n5 cap5] 82) = w9 at hR9 ⊢
        clear hB9
        obtain ⟨L9, hO9, hL9, hgo9⟩ := hR9.next
        have hl9 := hO9.loc (hL9 _ _ (upd_same _ _ _))
        have d1 : w9.cell? ⟨B9, 1, none⟩ = some (.int .i64 o.i) := cell_of hl9 1
        have d2 : w9.cell? ⟨B9, 2, none⟩ = some (.int .i64 o.a) := cell_of hl9 2
        have hslH : Hid _ := Lib.hid hsl
        clear hsl
        go_cut [12, 14, 17] from 47 to 94 (fun sv lv _ wx => ∃ (least' : Nat) (S' : WalS) (st' : List (Nat → Int)) (ff' : Nat → Int), lv = .int .i64 (least' : Int) ∧ st'.length ≤ j + 2 ∧ OwnRow w0 wx (TStore p q S') (upd L B (some (.cells (arrOf 16 ff') 81 (0, 0)))) 81 16 sv st'.length (statesV st') ∧ (Living S' st' ff' least' ∨ S'.dev.dead = true ∧ Fallen S'.dev st' least'))
        case first =>
          by_cases k0 : o.kind = 0
          · as_aux_lemma =>
              have t0 : (o.kind == 0) = true := by simpa using k0
              clear k0
              obtain ⟨K, hK⟩ : ∃ K : Nat, o.i % 16 = (K : Int) := ⟨(o.i % 16).toNat, by omega⟩
              have hK16 : K < 16 := by omega
              have hm : 0 ≤ o.a % 256 ∧ o.a % 256 < 256 := by omega
              obtain ⟨S1, e1, hl1⟩ := hl.write hK16 (x := o.a % 256 + 1) (by omega)
              have hwrp : IntKind.i64.wrap (o.a % 256 + 1) = o.a % 256 + 1 := by rw [IntKind.wrap_i64]; omega
              have cw : ∀ {W : World} {v : Value} {G : Nat → Prop}, Own w0 W (TStore p q S) L9 → Src 5 W G v (bytesOf (o.a % 256 + 1) 64) → Calls Try.prog 40 #[Dptr p, .int .i64 (K : Int), v] W (Did w0 W (TStore p q S1) L9 (.int .i64 0)) := fun hO hv => by
                have := write4 hO hv (K : Int)
                rw [e1] at this
                exact this
              have hkeep : ∀ (W : World) (S : WalS), Own w0 W (TStore p q S) L9 → W.cell? ⟨B9, 1, none⟩ = some (.int .i64 o.i) ∧ W.cell? ⟨B9, 2, none⟩ = some (.int .i64 o.a) := fun W S hO => by
                have := hO.loc (hL9 _ _ (upd_same _ _ _))
                exact ⟨cell_of this 1, cell_of this 2⟩
              have hkeepH : Hid _ := Lib.hid hkeep
              have hd0 := hkeepH.out _ _ (hO9.below (keepsStore _ _ _) (Below.refl _ w9).drew)
              clear hkeep e1 d1 d2
              go_upto_region 11 with fail
              go_region_held (fun W => W.cell? ⟨B9, 1, none⟩ = some (.int .i64 o.i) ∧ W.cell? ⟨B9, 2, none⟩ = some (.int .i64 o.a)) (first | exact hd0 | exact hd2 | exact hd3) (first
                | (go_at_call 41; refine (sector_any _ _).mono ?_; rintro e wa ⟨va, ga, rfl, hva, hga, hBa⟩; have hBa' := undrew hBa; have hOa := hO9.below (keepsStore _ _ _) hBa'; have hd2 := hkeepH.out _ _ hOa)
                | (go_at_call 40; refine (cw hOa hva.src).mono ?_; rintro e wd ⟨rfl, hOd, hsd⟩; have hd3 := hkeepH.out _ _ hOd))
              all_goals
                have hRd := hgo9 hOd
                have d1 := hd3.1
                have d2 := hd3.2
                have hRd2 := hRd.drop hLn
                have hLB9 := hL9 B _ (by rw [upd_other _ (by omega)]; exact upd_same _ _ _)
                have hAr : ArrAt 81 wd B 16 ff := hOd.loc hLB9
                have f1 := hAr.frozen K
                have c1 := hAr.cell hK16
                have hRe := hRd2.set (o' := .cells (arrOf 16 (upd ff K (o.a % 256 + 1))) 81 (0, 0)) (keepsStore _ _ _) (upd_same _ _ _) ((Chg.refl _ wd).own K (.int .i64 (o.a % 256 + 1))) (hAr.set K _)
                rw [upd_upd] at hRe
                clear hAr hd3 hRd hRd2
                go_wp2_with fail
                go_meet
                case rel => exact ⟨least, S1, st, _, rfl, by have := hslH.out; omega, hRe, .inl hl1⟩
          by_cases k1 : o.kind = 1
          · as_aux_lemma =>
              have t1 : (o.kind == 1) = true := by simpa using k1
              have t0 : (o.kind == 0) = false := by simp; omega
              clear k0 k1 hO9 hgo9 hL9 d1 d2
              have hR1 := hR9.drop hLn
              obtain ⟨L1, hO1, hL1, _⟩ := hR1.next
              have hlB := hO1.loc (hL1 _ _ (upd_same _ _ _))
              go_upto_region 14 with fail
              go_step
              refine wpList_move_at rfl _ rfl rfl ?_
              refine wpList_load_row rfl 81 _ rfl B rfl _ (arrOf 16 ff) (0, 0) _ hlB Try.underlying81 rfl (by rw [arrOf_size]; kernel_rfl) ?_
              refine wpList_build1_at rfl 86 _ rfl rfl (build16 ff w9) ?_
              have hR2 := hR1.below (keepsStore _ _ _) ((Below.refl _ w9).alloc (Nat.le_refl _) (.cells (arrOf 16 ff) 81))
              have h16 : (Try.prog.info? 81).map (fun i => (i.zero, i.size, i.bytes)) = some (some (.agg (arrOf 16 fun _ => 0)), 16, 128) := by kernel_rfl
              obtain ⟨i0, hi0, hz0, hz1, hz2⟩ := info_parts h16
              have hnews : ∀ (i : Nat) u, (arrOf 16 ff).toList[i]? = some u → (w9.alloc (.cells (arrOf 16 ff) 81)).cell? ((⟨w9.heap.size, 0, none⟩ : Addr).add i) = some u := fun i u hu => by
                rw [addN, cell_of (heap_alloc_new w9 _)]
                simpa using hu
              have hone : ∀ u ∈ (arrOf 16 ff).toList, u.oneCell' = true := fun u hu => Array.all_eq_true_iff_forall_mem.1 (arrOf_one 16 ff) u (by simpa using hu)
              have hsl2 := hslH.out
              refine wpList_append_own_at _ rfl _ _ 86 rfl w0.heap.size 81 i0 (.agg (arrOf 16 fun _ => 0)) 16 128 Try.underlying86 hi0 hz0 hz1 hz2 (by rfl) (by decide) u12 st.length (statesV st) rfl hR2.row ⟨w9.heap.size, 0, none⟩ 1 1 (arrOf 16 ff).toList rfl (by simp) hnews hone (by unfold maxLen; omega) (by omega) (by have := hR2.rest.size; omega) ?_
              intro sv' w10 hown hgrow hnil hat
              have hR3 := hR2.grown (keepsStore _ _ _) hown hgrow (fun e => by
                obtain ⟨g, cap, e2, _⟩ := hR2.addr
                have := (hnil.1 e).1
                rw [e2] at this
                cases this) hat
              rw [← statesV_app] at hR3
              have hl1 : (st ++ [ff]).length = st.length + 1 := by simp
              rw [← hl1] at hR3
              clear hown hgrow hnil hat hR2 hlB hL1 hO1 hR1 hnews hone hR9
              have hsvH : Hid _ := Lib.hid hl1
              clear hl1 hsl2
              go_frame
              obtain ⟨L3, hO3, _, hgo3⟩ := hR3.next
              have cc := commit4 hO3
              rcases hl.commit (by have := hslH.out; omega) with ⟨e1, hl2⟩ | ⟨e1, hdd, hfal⟩
              all_goals
                rw [e1] at cc
                clear e1
                go_wp2_with fail
                refine cc.mono ?_
                rintro e wd ⟨rfl, hOd, hsd⟩
                have hRd := hgo3 hOd
                clear cc
                go_wp2_with fail
                go_meet
                case rel => exact ⟨least, _, _, ff, rfl, by have := hslH.out; have := hsvH.out; omega, hRd, by first | exact .inl hl2 | exact .inr ⟨hdd, hfal⟩⟩
          by_cases k2 : o.kind = 2
          · as_aux_lemma =>
              have t2 : (o.kind == 2) = true := by simpa using k2
              have t1 : (o.kind == 1) = false := by simp; omega
              have t0 : (o.kind == 0) = false := by simp; omega
              clear k0 k1 k2 d1 d2
              have hpos := hl.pos
              have hab := hl.abort
              have hsl2 := hslH.out
              have cc := abort4 hO9
              obtain ⟨fl, hfl⟩ : ∃ fl, fl = st.getD (st.length - 1) fun _ => 0 := ⟨_, rfl⟩
              have hflH : Hid _ := Lib.hid hfl
              rw [← hfl] at hab
              clear hfl
              go_wp2_with fail
              refine cc.mono ?_
              rintro e wd ⟨rfl, hOd, hsd⟩
              have hRd := (hgo9 hOd).drop hLn
              obtain ⟨gs, caps, rfl, hgs, _, hgsL, hcap, hcells⟩ := hRd.addr
              have hlB := hOd.loc (hL9 B _ (by rw [upd_other _ (by omega)]; exact upd_same _ _ _))
              obtain ⟨n', hn'⟩ : ∃ n', st.length = n' + 1 := ⟨st.length - 1, by omega⟩
              have hrange : wd.rangeAt gs (n' * 16) (arrOf 16 fl).toList := fun k v hv => by
                have hk : k < 16 := by
                  have := (List.getElem?_eq_some_iff.1 hv).1
                  simpa using this
                have h2 := statesV_at st (i := n') (k := k) (by omega) hk
                refine hcells _ _ (h2.trans ?_)
                rw [Array.getElem?_toList, arrOf_at fl hk] at hv
                rw [← hv, hflH.out, hn', Nat.add_sub_cancel]
              have hRe := hRd.set (o' := .cells (arrOf 16 fl) 81 (0, 0)) (keepsStore _ _ _) (upd_same _ _ _) ((Chg.refl _ wd).ownRow _) (setRow_heap wd B _ _ _ _ hlB)
              rw [upd_upd] at hRe
              have hn18 : (n' : Int) ≤ 100 := by omega
              have hnH : Hid _ := Lib.hid hn'
              rw [hn']
              clear hcells cc hn' hpos hRd
              go_upto_region 18 with fail
              go_wp2_with (first
                | (with_reducible refine wpList_load_mid rfl 81 _ rfl gs (n' * 16) rfl (arrOf 16 fl).toList _ hrange Try.underlying81 rfl (by rw [Array.length_toList, arrOf_size]; kernel_rfl) ?_)
                | (with_reducible refine wpList_store_row rfl 81 _ _ rfl B (arrOf 16 fl) rfl rfl _ _ hlB (by rw [arrOf_size]; kernel_rfl) (by rw [arrOf_size, arrOf_size]) (arrOf_one _ _) ?_))
              go_meet
              case rel => exact ⟨least, S.aborted, st, fl, rfl, by have := hslH.out; omega, by rw [← hnH.out]; exact hRe, .inl hab⟩
          by_cases k3 : o.kind = 3
          · as_aux_lemma =>
              have t3 : (o.kind == 3) = true := by simpa using k3
              have t2 : (o.kind == 2) = false := by simp; omega
              have t1 : (o.kind == 1) = false := by simp; omega
              have t0 : (o.kind == 0) = false := by simp; omega
              clear k0 k1 k2 k3 d1 d2
              have hpos := hl.pos
              have hsl2 := hslH.out
              have cc := sync4 hO9
              obtain ⟨gs, caps, rfl, hgs, _, hgsL, hcap, hcells⟩ := hR9.addr
              obtain ⟨n', hn'⟩ : ∃ n', st.length = n' + 1 := ⟨st.length - 1, by omega⟩
              have hn18 : (n' : Int) ≤ 100 := by omega
              have hnH : Hid _ := Lib.hid hn'
              have hsy := hl.sync
              rw [hn', Nat.add_sub_cancel] at hsy
              rw [hn']
              clear hcells hn' hpos
              rcases hsy with ⟨e1, hl2⟩ | ⟨e1, hdd, hfal⟩
              · rw [e1] at cc
                clear e1
                go_wp2_with fail
                refine cc.mono ?_
                rintro e wd ⟨rfl, hOd, hsd⟩
                have hRd := (hgo9 hOd).drop hLn
                clear cc
                go_wp2_with fail
                go_meet
                case rel => exact ⟨n', _, st, ff, rfl, by have := hslH.out; omega, by rw [← hnH.out]; exact hRd, .inl hl2⟩
              · rw [e1] at cc
                clear e1
                go_wp2_with fail
                refine cc.mono ?_
                rintro e wd ⟨rfl, hOd, hsd⟩
                have hRd := (hgo9 hOd).drop hLn
                clear cc
                go_wp2_with fail
                go_meet
                case rel => exact ⟨least, _, st, ff, rfl, by have := hslH.out; omega, by rw [← hnH.out]; exact hRd, .inr ⟨hdd, hfal⟩⟩
          · as_aux_lemma =>
              have t3 : (o.kind == 3) = false := by simp; omega
              have t2 : (o.kind == 2) = false := by simp; omega
              have t1 : (o.kind == 1) = false := by simp; omega
              have t0 : (o.kind == 0) = false := by simp; omega
              have hRd := hR9.drop hLn
              clear k0 k1 k2 k3 d1 d2
              go_wp2_with fail
              go_meet
              case rel => exact ⟨least, S, st, ff, rfl, by have := hslH.out; omega, hRd, .inl hl⟩
        case rest =>
          obtain ⟨least', S', st', ff', rfl, hsl', hR', hlife'⟩ := hcut
          clear hR9 hl hO9 hgo9 hL9 hR d1 d2
          obtain ⟨L', hO', _, hgo'⟩ := hR'.next
          have cm := commits4 hO'
          rcases hlife' with hl' | ⟨hdd, hfal⟩
          · obtain ⟨kk, hkk, hkl, hl''⟩ := hl'.told
            rw [hkk] at cm
            have hdl := hl'.devDead
            have hmx : max (least' : Int) (kk : Int) = ((max least' kk : Nat) : Int) := by omega
            clear hkk
            go_wp2_with fail
            refine cm.mono ?_
            rintro e wd ⟨rfl, hOd, hsd⟩
            have hcd := dead4 hOd
            rw [hdl] at hcd
            have hRd := hgo' hOd
            clear cm hdl
            go_wp2_with (go_at_call 20; refine hcd.mono ?_; rintro e w' ⟨rfl, rfl⟩)
            go_roundg (gk - 1)
            case measure => have := hjd'.out; omega
            case rel => exact ⟨j + 1, _, S', st', ff', by have := hjd'.out; omega, by go_num, rfl, by omega, hRd, .inl hl''⟩
          · go_wp2_with fail
            refine cm.mono ?_
            rintro e wd ⟨rfl, hOd, hsd⟩
            have hcd := dead4 hOd
            rw [hdd] at hcd
            have hRd := hgo' hOd
            have hddH : Hid _ := Lib.hid hdd
            clear cm hdd
            go_wp2_with (go_at_call 20; refine hcd.mono ?_; rintro e w' ⟨rfl, rfl⟩)
            go_roundg (gk - 1)
            case measure => have := hjd'.out; omega
            case rel => exact ⟨j + 1, _, S', st', ff', by have := hjd'.out; omega, by go_num, rfl, by omega, hRd, .inr ⟨hddH.out, hfal⟩⟩
      · rw [hdd] at hcd
        have hsl' : st.length ≤ 100 := by omega
        clear hjd hcs
        go_wp2_with (go_at_call 20; refine hcd.mono ?_; rintro e w' ⟨rfl, rfl⟩)
        go_ret2
        exact ⟨_, st, least, S, rfl, hR.drop hLB, hfal, hsl'⟩
    · have hfal : Fallen S.dev st least := hlife.elim (fun h => h.fallen) (·.2)
      have hsl' : st.length ≤ 100 := by omega
      by_cases hjn : j < n1
      · have hjn' : (j : Int) < (n1 : Int) := by omega
        have hj60' : ¬ (j : Int) < 60 := by omega
        clear hjd hin hcs
        go_wp2_with fail
        go_ret2
        exact ⟨_, st, least, S, rfl, hR.drop hLB, hfal, hsl'⟩
      · have hjn' : ¬ (j : Int) < (n1 : Int) := by omega
        clear hjd hin hcs
        go_wp2_with fail
        go_ret2
        exact ⟨_, st, least, S, rfl, hR.drop hLB, hfal, hsl'⟩
end
end Go.Proofs.Ytbnoebdpbpjbkaa
