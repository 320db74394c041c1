/-
  DevPlays, walked: it answers true at every number and every script.
-/
import Derived.Test.YtbnoebdpbpjbkaaPlayD
import Derived.Test.YtbnoebdpbpjbkaaPlaysW
namespace Go.Proofs.Ytbnoebdpbpjbkaa
open Go.RowKit Go.Lz

theorem rread_wrong (D : DevS) (i : Int) (h : D.wrong i ≠ 0) : D.rread i = ([], D.wrong i, D) := by
  unfold DevS.rread
  rw [if_pos h]
theorem rread_good (D : DevS) (i : Int) (h : D.wrong i = 0) : D.rread i = (D.now i.toNat, 0, D.counted) := by
  unfold DevS.rread
  rw [if_neg (by simp [h])]
theorem dr_ok {w0 w : World} {q r g : Nat} {D E : DevS} {L : Locals} (h : Own w0 w (TDR q r g D E) L) : D.ok := by
  obtain ⟨F1, h1, _⟩ := dr_dev h
  exact h1.ok
theorem dr_setFuse {w0 w : World} {q r g : Nat} {D E : DevS} {L : Locals} (h : Own w0 w (TDR q r g D E) L) (x : Int) : ∃ y, w.cell? ⟨r, 2, none⟩ = some y ∧ w.frozen? ⟨r, 2, none⟩ = false ∧ Own w0 (w.setCell ⟨r, 2, none⟩ (.int .i64 (max x (-1)))) (TDR q r g D (E.fused x)) L := by
  obtain ⟨⟨cap, hR⟩, _, _, hgo⟩ := dr_ref h
  obtain ⟨_, _, c2, _, fz⟩ := hR.fields
  exact ⟨_, c2, fz 2, hgo (r' := r) (g' := g) (E' := E.fused x) ⟨cap, hR.setF (max x (-1))⟩ (chg_r w r g 2 _) (.inl ⟨rfl, rfl⟩)⟩

set_option maxRecDepth 100000 in
set_option maxHeartbeats 4000000 in
theorem devPlays_any {w : World} {G : Nat → Prop} {v : Value} {os : List OpR} (n : Int) (hv : OpsAt w G v os) :
    Calls Try.prog 6 #[.int .i64 n, v] w fun e w' => e = .returned (.bool true) ∧ Below w.heap.size w w' := by
  obtain ⟨a, n1, cp, rfl, hl, hn1, hcs⟩ := hv
  have hb16 := and65535
  have hb127 := and127
  have hcv := run_bytes
  by_cases hn : n < 0 ∨ 8192 < n
  · go_enter Try.func6, Try.ntmps6
    go_wp2_with (first
      | (go_at_call 17; refine (new_bad w n hn).mono ?_; rintro e w' ⟨rfl, rfl⟩)
      | (go_at_call 29; refine (rnew_bad w n hn).mono ?_; rintro e w' ⟨rfl, rfl⟩))
    refine (awake1_any w).mono ?_
    rintro e w1 ⟨rfl, hB1⟩
    go_wp2_with fail
    go_loopg [5, 9] 0 (fun _ dv iv wr => dv = .pointer none ∧ iv = .int .i64 0 ∧ wr = w1)
    case atStart => exact ⟨rfl, rfl, rfl⟩
    case round =>
      obtain ⟨rfl, rfl, rfl⟩ := hrel
      by_cases h0 : 0 < n1
      · have h0' : (0 : Int) < (n1 : Int) := by omega
        go_wp2_with fail
        go_ret
        exact ⟨rfl, hB1⟩
      · have h0' : ¬ (0 : Int) < (n1 : Int) := by omega
        go_wp2_with fail
        go_ret
        exact ⟨rfl, hB1⟩
  · obtain ⟨N, rfl⟩ : ∃ N : Nat, n = (N : Int) := ⟨n.toNat, by omega⟩
    have hN : N ≤ 8192 := by omega
    clear hn
    go_enter Try.func6, Try.ntmps6
    go_wp2_with fail
    refine (new_ok w N hN).mono ?_
    rintro e w1 ⟨q, rfl, hD1, hB1⟩
    go_wp2_with fail
    refine (rnew_ok w1 N hN).mono ?_
    rintro e w2 ⟨r, g, rfl, hR2, hr2, hg2, hB2⟩
    have hs1 := hB1.size
    have hs2 := hB2.size
    have hlr := hR2.lt
    have hO2 : Own w w2 (TDR q r g (DevS.new N) (DevS.new N)) noLocals := by
      refine Own.start (F := fun k => w.heap.size ≤ k ∧ k < w2.heap.size) ⟨_, hD1.below hB2, fun k hk => ⟨hk.1, Nat.lt_of_lt_of_le hk.2 hs2⟩, hR2, ⟨by omega, hlr.1⟩, ⟨by omega, hlr.2⟩, fun hk => ?_, fun hk => ?_⟩ (fun k hk => hk) (hB1.trans (hB2.mono hs1))
      · have := hk.2; omega
      · have := hk.2; omega
    clear hD1 hR2
    go_wp2_with fail
    refine (awake1_any _).mono ?_
    rintro e w3 ⟨rfl, hB3⟩
    have hO3 := hO2.below (keepsDR _ _ _ _ _) hB3
    clear hO2
    go_wp2_with fail
    go_loopg [5, 7, 9] 50 (fun gg dv wv iv wr => ∃ (j q r g : Nat) (D : DevS), j + gg = 50 ∧ dv = Dptr q ∧ wv = Dptr r ∧ iv = .int .i64 (j : Int) ∧ Own w wr (TDR q r g D D) noLocals)
    case atStart => exact ⟨0, q, r, g, _, rfl, rfl, rfl, rfl, hO3⟩
    case round =>
      clear hO3
      obtain ⟨j, q, r, g, D, hjd, rfl, rfl, rfl, hO⟩ := hrel
      have hjd' : Hid (j + gk = 50) := hjd
      by_cases hin : j < n1 ∧ j < 50
      · obtain ⟨hjn, hj50⟩ := hin
        rcases hcs with h0 | ⟨b, off, rfl, _, hbl, hc⟩
        · omega
        obtain ⟨o, ho⟩ : ∃ o, o = os.getD j default := ⟨_, rfl⟩
        have hop : OpAt wr G b (off + j * 6) o := by rw [ho]; exact (hc j hjn).below hbl hO.base
        obtain ⟨v5, c5w, hv5⟩ := (hc j hjn).c5
        obtain ⟨c0, c1, c2, c3, c4, _, hwf⟩ := hop
        have c5 : wr.cell? ⟨b, off + j * 6 + 5, none⟩ = some v5 := (hO.base.cell (p := ⟨b, off + j * 6 + 5, none⟩) hbl).trans c5w
        rw [← ho] at hv5
        obtain ⟨a5, n5, cap5, rfl, _⟩ := id hv5
        have hv5H : Hid _ := Lib.hid hv5
        have hjn' : (j : Int) < (n1 : Int) := by omega
        have hj50' : (j : Int) < 50 := by omega
        have hO9 := hO.local_ (keepsDR _ _ _ _ _) ((Below.refl _ wr).alloc (Nat.le_refl _) (.cells #[.int .i64 o.kind, .int .i64 o.i, .int .i64 o.a, .int .i64 o.size, .bool o.flip, .slice a5 n5 cap5] 48)) (Nat.le_refl _) (heap_alloc_new wr _)
        have hok := dr_ok hO
        have hfu := hok.fuse
        have hfuH : Hid _ := Lib.hid hfu
        clear ho hc hjd c5w hv5
        go_upto_block 2 with fail
        clear c0 c1 c2 c3 c4 c5
        obtain ⟨B9, hB9⟩ : ∃ B9, B9 = wr.heap.size := ⟨_, rfl⟩
        rw [← hB9] at hO9 ⊢
        generalize wr.alloc (.cells #[.int .i64 o.kind, .int .i64 o.i, .int .i64 o.a, .int .i64 o.size, .bool o.flip, .slice a5 n5 cap5] 48) = w9 at hO9 ⊢
        clear hB9 hO
        have hl9 := hO9.loc (upd_same _ _ _)
        have d1 : w9.cell? ⟨B9, 1, none⟩ = some (.int .i64 o.i) := cell_of hl9 1
        have d2 : w9.cell? ⟨B9, 2, none⟩ = some (.int .i64 o.a) := cell_of hl9 2
        have d3 : w9.cell? ⟨B9, 3, none⟩ = some (.int .i64 o.size) := cell_of hl9 3
        have d4 : w9.cell? ⟨B9, 4, none⟩ = some (.bool o.flip) := cell_of hl9 4
        have d5 : w9.cell? ⟨B9, 5, none⟩ = some (.slice a5 n5 cap5) := cell_of hl9 5
        go_cut [5, 7, 11, 12, 13, 14, 15, 16, 17, 18] from 63 to 170 (fun dv wv okv _ _ _ _ _ _ _ wx => ∃ (q' r' g' : Nat) (D' : DevS), dv = Dptr q' ∧ wv = Dptr r' ∧ okv = .bool true ∧ Own w wx (TDR q' r' g' D' D') noLocals)
        case first =>
          by_cases k2 : o.kind = 2
          · as_aux_lemma =>
              have t2 : (o.kind == 2) = true := by simpa using k2
              have t0 : (o.kind == 0) = false := by simp; omega
              have t1 : (o.kind == 1) = false := by simp; omega
              clear k2 d1 d2 d3 d4 d5 hl9
              go_wp2_with fail
              refine (dr_flush hO9).mono ?_
              rintro e wa ⟨rfl, hOa, _⟩
              go_wp2_with fail
              refine (dr_rflush hOa hfuH.out).mono ?_
              rintro e wb ⟨rfl, hOb, _⟩
              go_wp2_with fail
              go_meet
              case rel => exact ⟨q, r, g, _, rfl, rfl, rfl, hOb.drop rfl⟩
          by_cases k3 : o.kind = 3
          · as_aux_lemma =>
              have t3 : (o.kind == 3) = true := by simpa using k3
              have t0 : (o.kind == 0) = false := by simp; omega
              have t1 : (o.kind == 1) = false := by simp; omega
              have t2 : (o.kind == 2) = false := by simp; omega
              clear k2 k3 d1 d2 d3 hl9
              go_wp2_with fail
              refine (dr_crash hO9 o.flip hv5H.out).mono ?_
              rintro e wa ⟨rfl, hOa, _⟩
              have hla := hOa.loc (upd_same _ _ _)
              have d4 : wa.cell? ⟨B9, 4, none⟩ = some (.bool o.flip) := cell_of hla 4
              have d5 : wa.cell? ⟨B9, 5, none⟩ = some (.slice a5 n5 cap5) := cell_of hla 5
              go_wp2_with fail
              refine (dr_rcrash hOa o.flip hv5H.out).mono ?_
              rintro e wb ⟨rfl, hOb, _⟩
              go_wp2_with fail
              go_meet
              case rel => exact ⟨q, r, g, _, rfl, rfl, rfl, hOb.drop rfl⟩
          by_cases k4 : o.kind = 4
          · as_aux_lemma =>
              have t4 : (o.kind == 4) = true := by simpa using k4
              have t0 : (o.kind == 0) = false := by simp; omega
              have t1 : (o.kind == 1) = false := by simp; omega
              have t2 : (o.kind == 2) = false := by simp; omega
              have t3 : (o.kind == 3) = false := by simp; omega
              have hax := hwf.2.2.1.2
              clear k2 k3 k4 d1 d3 d4 d5 hl9
              go_wp2_with fail
              refine (dr_fuse hO9 o.a hax).mono ?_
              rintro e wa ⟨rfl, hOa, _⟩
              have hla := hOa.loc (upd_same _ _ _)
              have d2 : wa.cell? ⟨B9, 2, none⟩ = some (.int .i64 o.a) := cell_of hla 2
              obtain ⟨y, e2, f2, hOb⟩ := dr_setFuse hOa o.a
              go_wp2_with fail
              go_meet
              case rel => exact ⟨q, r, g, _, rfl, rfl, rfl, hOb.drop rfl⟩
          by_cases k1 : o.kind = 1
          · have t1 : (o.kind == 1) = true := by simpa using k1
            have t0 : (o.kind == 0) = false := by simp; omega
            clear k1 k2 k3 k4 d2 d3 d4 d5 hl9
            have hfresh : ∀ gb : Nat, w9.heap.size ≤ gb → B9 ≠ gb := fun gb h => by have := hO9.loc_lt (b := B9) (upd_same _ _ _); omega
            have hfrH : Hid _ := Lib.hid hfresh
            clear hfresh
            by_cases hw : D.wrong o.i = 0
            · as_aux_lemma =>
                go_upto_region 21 with fail
                go_wp2_with fail
                refine (dr_read hO9 o.i).mono ?_
                rintro e wa (⟨hne, _⟩ | ⟨_, v3, g3, o3, rfl, hb3, hg3, hOa, hsa⟩)
                · exact absurd hw hne
                obtain ⟨cap3, cur3, fr3, rfl, rfl, q1, q2, q3, q4, hfr⟩ := hb3
                have hB9g := hfrH.out g3 hg3
                have hLg : (upd noLocals B9 (some (.cells #[.int .i64 o.kind, .int .i64 o.i, .int .i64 o.a, .int .i64 o.size, .bool o.flip, .slice a5 n5 cap5] 48))) g3 = none := hO9.none_ hg3
                have hla := hOa.loc (b := B9) (by rw [upd_other _ hB9g, upd_same])
                have d1 : wa.cell? ⟨B9, 1, none⟩ = some (.int .i64 o.i) := cell_of hla 1
                have cr := dr_rread hOa o.i
                rw [rread_good D o.i hw] at cr
                clear hw hla
                go_wp2_with fail
                refine cr.mono ?_
                rintro e wb ⟨rfl, hOb, _⟩
                have hbuf : Buf 5 wb g3 (.slice (some ⟨g3, 0, none⟩) (D.now o.i.toNat).length cap3) (D.now o.i.toNat) := ⟨cap3, cur3, fr3, rfl, hOb.loc (upd_same _ _ _), q1, q2, q3, q4, hfr⟩
                have hst := run_string hbuf
                have hU3 := U8s.of q4
                have h64 := hok.now o.i.toNat
                obtain ⟨bs, hbs⟩ : ∃ bs, bs = D.now o.i.toNat := ⟨_, rfl⟩
                rw [← hbs] at hst hU3 hfr q1 h64 ⊢
                clear hbs hbuf q4 cr hOa
                rw [h64] at hst hU3 hfr ⊢
                clear h64
                go_upto_region 24 with fail
                clear hst
                go_wp2_with fail
                go_loopg [18] 64 (fun dd kv wx => ∃ (k : Nat) (cc : Array Value), k + dd = 64 ∧ kv = .int .i64 (k : Int) ∧ U8s 64 cc ∧ Own w wx (TDR q r g D.counted D.counted) (upd (upd noLocals B9 (some (.cells #[.int .i64 o.kind, .int .i64 o.i, .int .i64 o.a, .int .i64 o.size, .bool o.flip, .slice a5 n5 cap5] 48))) g3 (some (.cells cc 5 fr3))))
                case atStart => exact ⟨0, _, by omega, rfl, hU3, hOb⟩
                case round =>
                  obtain ⟨k, cc, hkd, rfl, hU, hOx⟩ := hrel
                  have hkd' : Hid (k + gk = 64) := hkd
                  by_cases hk : k < 64
                  · have hkI : (k : Int) < 64 := by omega
                    obtain ⟨y, hy⟩ := hU k hk
                    have hog := hOx.loc (upd_same _ _ _)
                    have cy := (cell_of hog k).trans hy
                    have fy := frozen_at hog (hfr k (by omega))
                    clear hkd hog hy
                    go_wp2_with fail
                    go_roundg (gk - 1)
                    case measure => have := hkd'.out; omega
                    case rel => exact ⟨k + 1, _, by have := hkd'.out; omega, by go_num, hU.set k _, hOx.bump (keepsDR _ _ _ _ _) k _⟩
                  · have hkI : ¬ (k : Int) < 64 := by omega
                    clear hkd
                    have hOz := (hOx.drop hLg).drop rfl
                    go_wp2_with fail
                    go_meet
                    case rel => exact ⟨q, r, g, _, rfl, rfl, rfl, hOz⟩
            · as_aux_lemma =>
                have hcn : ∀ W : World, (convert 28 9 (.slice none 0 0)).run Try.prog W = .ok (.string ⟨#[]⟩) W := fun _ => by kernel_rfl
                go_upto_region 21 with fail
                go_wp2_with fail
                refine (dr_read hO9 o.i).mono ?_
                rintro e wa (⟨hne, rfl, rfl⟩ | ⟨h0, _⟩)
                rotate_left
                · exact absurd h0 hw
                have cr := dr_rread hO9 o.i
                rw [rread_wrong D o.i hne] at cr
                clear hne hw
                go_wp2_with fail
                refine cr.mono ?_
                rintro e wb ⟨rfl, hOb, _⟩
                clear cr
                go_upto_region 24 with fail
                clear hcn
                go_wp2_with fail
                go_loopg [18] 0 (fun _ kv wx => kv = .int .i64 0 ∧ wx = wb)
                case atStart => exact ⟨rfl, rfl⟩
                case round =>
                  obtain ⟨rfl, rfl⟩ := hrel
                  go_wp2_with fail
                  go_meet
                  case rel => exact ⟨q, r, g, _, rfl, rfl, rfl, hOb.drop rfl⟩
          by_cases k0 : o.kind = 0
          · as_aux_lemma =>
              have t0 : (o.kind == 0) = true := by simpa using k0
              obtain ⟨m, hm⟩ : ∃ m : Nat, o.size % 128 = (m : Int) := ⟨(o.size % 128).toNat, by omega⟩
              have hm128 : m < 128 := by omega
              have hm0 : (0 : Int) ≤ (m : Int) := by omega
              obtain ⟨kk, hkk⟩ : ∃ kk : Int, kk = o.a % 65536 := ⟨_, rfl⟩
              have cb := fun W => bytes_any kk (m : Int) W (by omega) (by omega)
              rw [Int.toNat_natCast] at cb
              rw [hkk, ← hm] at cb
              clear k0 k1 k2 k3 k4 d4 d5 hl9 hm hkk kk
              go_upto_region 14 with fail
              go_wp2_with fail
              refine (cb _).mono ?_
              rintro e wa ⟨rfl, hBa⟩
              obtain ⟨bb, hbb⟩ : ∃ bb, bb = bytesOf (o.a % 65536) m := ⟨_, rfl⟩
              have hbl : bb.length = m := by rw [hbb, bytesOf_length]
              rw [← hbb]
              have hOa := hO9.below (keepsDR _ _ _ _ _) hBa
              have hbuf0 : Buf 5 (wa.alloc (bobj wa bb)).drew wa.heap.size (.slice (some ⟨wa.heap.size, 0, none⟩) bb.length (bcap wa bb)) bb := (bytes_buf wa bb (by omega)).heap rfl
              have hOb := hOa.local_ (keepsDR _ _ _ _ _) (b := wa.heap.size) ((((Below.refl _ wa).alloc (Nat.le_refl _) (bobj wa bb))).drew) (Nat.le_refl _) (heap_alloc_new wa _)
              have hLg := hOa.none_ (Nat.le_refl wa.heap.size)
              have hB9g : B9 ≠ wa.heap.size := by have := hOa.loc_lt (b := B9) (upd_same _ _ _); omega
              have hcva := hcv wa bb
              clear cb hbb hO9 hBa d1 d2 d3
              go_upto_region 15 with fail
              clear hcva
              have hbO : BufO 5 wa.heap.size (bobj wa bb) (.slice (some ⟨wa.heap.size, 0, none⟩) m (bcap wa bb)) bb := by
                obtain ⟨o2, h1, h2⟩ := hbuf0.bufO
                have h3 : (wa.alloc (bobj wa bb)).drew.heap[wa.heap.size]? = some (bobj wa bb) := heap_alloc_new wa _
                rw [h3] at h1
                cases h1
                rw [hbl] at h2
                exact h2
              generalize bobj wa bb = ob at hOb hbO ⊢
              generalize bcap wa bb = capb at hbO ⊢
              generalize (wa.alloc ob).drew = W0 at hOb ⊢
              generalize wa.heap.size = gB at hOb hbO hLg hB9g ⊢
              have hkeep : ∀ (W : World) (D1 D2 : DevS), Own w W (TDR q r g D1 D2) (upd (upd noLocals B9 (some (.cells #[.int .i64 o.kind, .int .i64 o.i, .int .i64 o.a, .int .i64 o.size, .bool o.flip, .slice a5 n5 cap5] 48))) gB (some ob)) → W.cell? ⟨B9, 1, none⟩ = some (.int .i64 o.i) ∧ (convert 28 9 (.slice (some ⟨gB, 0, none⟩) m capb)).run Try.prog W = .ok (.string ⟨bb.toArray⟩) W := fun W D1 D2 hO => by
                have h1 := hO.loc (b := B9) (by rw [upd_other _ hB9g, upd_same])
                exact ⟨cell_of h1 1, run_string (hbO.buf (hO.loc (upd_same _ _ _)))⟩
              have hkeepH : Hid _ := Lib.hid hkeep
              have hd0 := hkeepH.out _ _ _ (hOb.below (keepsDR _ _ _ _ _) (Below.refl _ W0).drew)
              have hOb0 := hOb.below (keepsDR _ _ _ _ _) (Below.refl _ W0).drew
              have hsrc : ∀ (W : World) (D1 D2 : DevS), Own w W (TDR q r g D1 D2) (upd (upd noLocals B9 (some (.cells #[.int .i64 o.kind, .int .i64 o.i, .int .i64 o.a, .int .i64 o.size, .bool o.flip, .slice a5 n5 cap5] 48))) gB (some ob)) → Src 5 W (· = gB) (.slice (some ⟨gB, 0, none⟩) m capb) bb := fun W D1 D2 hO => (hbO.buf (hO.loc (upd_same _ _ _))).src
              have hsrcH : Hid _ := Lib.hid hsrc
              have hbOH : Hid _ := Lib.hid hbO
              clear hkeep hsrc hbuf0 hOa hbO
              go_region_held (fun W => W.cell? ⟨B9, 1, none⟩ = some (.int .i64 o.i) ∧ (convert 28 9 (.slice (some ⟨gB, 0, none⟩) m capb)).run Try.prog W = .ok (.string ⟨bb.toArray⟩) W) (first | exact hd0 | exact hd2 | exact hd3) (first
                | (go_at_call 22; refine (dr_write hOb0 (hsrcH.out _ _ _ hOb0) o.i).mono ?_; rintro e wb ⟨rfl, hOc, hsb⟩; have hd2 := hkeepH.out _ _ _ hOc)
                | (go_at_call 30; refine (dr_rwrite hOc hfuH.out o.i bb (by omega)).mono ?_; rintro e wd ⟨rfl, hOd, hsd⟩; have hd3 := hkeepH.out _ _ _ hOd))
              all_goals
                obtain ⟨cap3, cur3, fr3, hv3, rfl, q1, q2, q3, q4, hfr⟩ := hbOH.out
                have hU3 := U8s.of q4
                have hLg' := hLg
                rw [hbl] at hU3 hfr
                have hblH : Hid _ := Lib.hid hbl
                clear hv3 q1 q2 q3 q4 hOb hOb0 hOc hd0 hd2 hd3 hbl
                go_wp2_with fail
                go_loopg [13] m (fun dd kv wx => ∃ (k : Nat) (cc : Array Value), k + dd = m ∧ kv = .int .i64 (k : Int) ∧ U8s m cc ∧ Own w wx (TDR q r g (D.write o.i bb).2 (D.write o.i bb).2) (upd (upd noLocals B9 (some (.cells #[.int .i64 o.kind, .int .i64 o.i, .int .i64 o.a, .int .i64 o.size, .bool o.flip, .slice a5 n5 cap5] 48))) gB (some (.cells cc 5 fr3))))
                case atStart => exact ⟨0, _, by omega, rfl, hU3, hOd⟩
                case round =>
                  clear hOd hU3
                  obtain ⟨k, cc, hkd, rfl, hU, hOx⟩ := hrel
                  have hkd' : Hid (k + gk = m) := hkd
                  by_cases hk : k < m
                  · have hkI : (k : Int) < (m : Int) := by omega
                    obtain ⟨y, hy⟩ := hU k hk
                    have hog := hOx.loc (upd_same _ _ _)
                    have cy := (cell_of hog k).trans hy
                    have fy := frozen_at hog (hfr k (by omega))
                    clear hkd hog hy
                    go_wp2_with fail
                    go_roundg (gk - 1)
                    case measure => have := hkd'.out; omega
                    case rel => exact ⟨k + 1, _, by have := hkd'.out; omega, by go_num, hU.set k _, hOx.bump (keepsDR _ _ _ _ _) k _⟩
                  · have hkI : ¬ (k : Int) < (m : Int) := by omega
                    clear hkd
                    have hOz := (hOx.drop hLg).drop rfl
                    go_wp2_with fail
                    go_meet
                    case rel => exact ⟨q, r, g, _, rfl, rfl, rfl, hOz⟩
          · as_aux_lemma =>
              have t0 : (o.kind == 0) = false := by simp; omega
              have t1 : (o.kind == 1) = false := by simp; omega
              have t2 : (o.kind == 2) = false := by simp; omega
              have t3 : (o.kind == 3) = false := by simp; omega
              have t4 : (o.kind == 4) = false := by simp; omega
              clear k0 k1 k2 k3 k4 d1 d2 d3 d4 d5 hl9
              go_wp2_with fail
              refine (dr_copy hO9).mono ?_
              rintro e wa ⟨q', rfl, hOa, _⟩
              go_wp2_with fail
              refine (dr_rcopy hOa).mono ?_
              rintro e wb ⟨r', g', rfl, hOb, _⟩
              go_wp2_with fail
              go_meet
              case rel => exact ⟨q', r', g', _, rfl, rfl, rfl, hOb.drop rfl⟩
        case rest =>
          obtain ⟨q', r', g', D', rfl, rfl, rfl, hO'⟩ := hcut
          clear hO9 d1 d2 d3 d4 d5 hl9
          go_wp2_with fail
          refine (same1_any hO').mono ?_
          rintro e wz ⟨rfl, hOz, _⟩
          go_wp2_with fail
          go_roundg (gk - 1)
          case measure => have := hjd'.out; omega
          case rel => exact ⟨j + 1, q', r', g', D', by have := hjd'.out; omega, rfl, rfl, by go_num, hOz⟩
      · have hB := hO.base
        by_cases hjn : j < n1
        · have hjn' : (j : Int) < (n1 : Int) := by omega
          have hj50' : ¬ (j : Int) < 50 := by omega
          clear hjd hin
          go_wp2_with fail
          go_ret
          exact ⟨rfl, hB⟩
        · have hjn' : ¬ (j : Int) < (n1 : Int) := by omega
          clear hjd hin
          go_wp2_with fail
          go_ret
          exact ⟨rfl, hB⟩
end Go.Proofs.Ytbnoebdpbpjbkaa
