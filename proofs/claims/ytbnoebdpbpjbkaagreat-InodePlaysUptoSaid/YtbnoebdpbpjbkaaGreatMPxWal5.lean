/-
  The store's log.
-/
import Derived.Test.YtbnoebdpbpjbkaaGreatMPxWal4
import Derived.Laws.CopyOwn
import Derived.Test.YtbnoebdpbpjbkaaGreatMP3
import Derived.ScopeJumps
import Derived.WalkMore
import Derived.Maps.AppendAt
namespace Go.Proofs.YtbnoebdpbpjbkaaGreat
open Go.RowKit Go.Lz

/-- Where the run jumps to the end: slot 5 holds the error. (The frame written out.) -/
def LogJ (w : World) (q : Nat) (r : Int × DevS) (Fd : Nat → Prop) (a : Act) (w' : World) : Prop :=
  ∃ (er : Int) (x0 x1 x2 x3 x4 x6 x7 x8 x9 x10 x11 x12 x13 x14 x15 x16 x17 x18 x19 x20 x21 x22 x23 x24 x25 x26 x27 x28 x29 x30 x31 x32 x33 x34 x35 x36 x37 x38 x39 x40 x41 x42 x43 x44 x45 x46 x47 x48 x49 x50 x51 x52 x53 x54 x55 x56 x57 x58 x59 x60 x61 x62 x63 x64 x65 x66 x67 x68 x69 x70 x71 x72 x73 x74 x75 x76 x77 x78 x79 x80 x81 x82 x83 x84 x85 x86 : Value), a = { tmps := #[x0, x1, x2, x3, x4, .int .i64 er, x6, x7, x8, x9, x10, x11, x12, x13, x14, x15, x16, x17, x18, x19, x20, x21, x22, x23, x24, x25, x26, x27, x28, x29, x30, x31, x32, x33, x34, x35, x36, x37, x38, x39, x40, x41, x42, x43, x44, x45, x46, x47, x48, x49, x50, x51, x52, x53, x54, x55, x56, x57, x58, x59, x60, x61, x62, x63, x64, x65, x66, x67, x68, x69, x70, x71, x72, x73, x74, x75, x76, x77, x78, x79, x80, x81, x82, x83, x84, x85, x86], defers := [] } ∧ ErrPost w q r Fd (.returned (.int .i64 er)) w'

/-- The first j sectors are written; x holds the bytes Tryz. -/
def LogRel (w1 wr : World) (q : Nat) (D0 D : DevS) (Fd : Nat → Prop) (L : List (Int × Bytes)) (j : Nat) (xv : Value) (bs : Bytes) : Prop :=
  ∃ Fd', DevAt Tryz.prog wr q D Fd' ∧ (∀ k, Fd' k → Fd k ∨ w1.heap.size ≤ k) ∧ Chg Fd w1 wr ∧ D0.writeL (L.take j) = (0, D) ∧ wr.ownsRow w1.heap.size 5 1 xv bs.length (bs.map u8v) ∧ ∀ g, xv.ownBlock = some g → ¬ Fd' g

/-- The first j sectors are written; xv holds what is left of the bytes behind i pieces. -/
def PieceRel (w1 wr : World) (q : Nat) (D0 D : DevS) (Fd : Nat → Prop) (L : List (Int × Bytes)) (j : Nat) (xv : Value) (bs : Bytes) (i gx : Nat) : Prop :=
  ∃ Fd', DevAt Tryz.prog wr q D Fd' ∧ (∀ k, Fd' k → Fd k ∨ w1.heap.size ≤ k) ∧ Chg Fd w1 wr ∧ D0.writeL (L.take j) = (0, D) ∧ ¬ Fd' gx ∧ (∃ ax rem cx, xv = .slice ax rem cx ∧ rem = bs.length - 64 * i) ∧ (64 * i < bs.length → Src 5 wr (· = gx) xv (bs.drop (64 * i)))

theorem numsB_length (l : List Nat) : (numsB l).length = 4 * l.length := by
  induction l with
  | nil => rfl
  | cons k l ih => simp only [numsB, List.flatMap_cons, List.length_append, List.length_cons] at ih ⊢; rw [ih]; simp [fourB]; omega
theorem numsB_snoc (l : List Nat) (k : Nat) : numsB (l ++ [k]) = numsB l ++ fourB (k : Int) := by simp [numsB]

section
variable {w : World} {p q : Nat} {D : DevS} {Fd Fl : Nat → Prop} {m c n : Nat} {f : Nat → Option Bytes} {vf : Nat → Option Value}

set_option maxRecDepth 100000 in
set_option maxHeartbeats 1000000 in
theorem log_any (hp : w.cell? ⟨p, 0, none⟩ = some (Dp q)) (hpl : p < w.heap.size) (hpF : ¬ Fd p) (hD : DevAt Tryz.prog w q D Fd) (hm : SecsIn Tryz.prog w m f Fl vf c) (hdis : ∀ k, Fl k → ¬ Fd k) (hn : n ≤ 8192)
    (hb : ∀ k b, f k = some b → b.length = 64 ∧ k < n) (hK : 0 < (keysF f n).length) : Calls Tryz.prog 61 #[Dptr p, .map (some m)] w (ErrPost w q (D.log f n) Fd) := by
  have hkey : ∀ k, (f k).isSome = true → k < n := fun k hk => by
    obtain ⟨b, e⟩ := Option.isSome_iff_exists.1 hk
    exact (hb k b e).2
  have hkl : (keysF f n).length ≤ 8192 := Nat.le_trans (keysF_length f n) hn
  have cS := sortedB_any hm.map (hm.bound hkey) (Nat.le_trans hn (by omega)) rfl
  rw [hm.keys] at cS
  have hlt := hD.lt
  obtain ⟨i0, hi, hz0, hz1, hz2⟩ := info_parts info_u8
  go_enter Tryz.func61, Tryz.ntmps61
  go_wp2_with fail
  refine wp_scope_jumps 0 (LogJ w q (D.log f n) Fd) (fun _ _ => 0) rfl ?_ (by
    rintro a' w' ⟨er, x0, x1, x2, x3, x4, x6, x7, x8, x9, x10, x11, x12, x13, x14, x15, x16, x17, x18, x19, x20, x21, x22, x23, x24, x25, x26, x27, x28, x29, x30, x31, x32, x33, x34, x35, x36, x37, x38, x39, x40, x41, x42, x43, x44, x45, x46, x47, x48, x49, x50, x51, x52, x53, x54, x55, x56, x57, x58, x59, x60, x61, x62, x63, x64, x65, x66, x67, x68, x69, x70, x71, x72, x73, x74, x75, x76, x77, x78, x79, x80, x81, x82, x83, x84, x85, x86, rfl, hpost⟩
    go_wp2_with fail
    simp only [Exit.jump]
    go_ret
    exact hpost)
  go_wp2_with (first
    | (go_at_call 82; refine (keysB_any _ _).mono ?_; rintro e w' ⟨rfl, rfl⟩)
    | (go_at_call 81; refine cS.mono ?_; rintro e w1 ⟨v, rfl, hrow, hnil, hb1⟩))
  have hB : Below w.heap.size w w1 := ((Below.refl _ w).alloc (Nat.le_refl _) _).trans (hb1.mono (by simp))
  have hI := SortedPost.ints hrow (Nat.le_trans hkl (by omega))
  obtain ⟨a1, n1, c1, rfl, hl1, hn1, hcs1⟩ := id hI
  have hnk : n1 = (keysF f n).length := by rw [← hl1, List.length_map]
  have hm1 := hm.chg (M := fun _ => False) (Chg.of_below hB) (fun _ _ h => h)
  have hD1 := hD.below hB
  have c0 : w1.cell? ⟨p, 0, none⟩ = some (Dp q) := (hB.cell hpl).trans hp
  have hs1 := hB.size
  have hn8 : n1 ≤ 8192 := by omega
  clear hrow hnil hb1 cS hI hm hD hp
  go_upto_block 0 with (at_make; refine wpList_make_own _ rfl _ _ 35 rfl w1.heap.size 5 i0 (.int .u8 0) 1 Tryz.underlying35 hi hz0 hz1 _ _ _ (4 * n1) rfl rfl (by omega) (by rw [hz2]; omega) (by unfold maxLen; omega) (Nat.le_refl _) ?_; intro w2 hown hgrow)
  have hC2 : Chg Fd w1 w2 := (Chg.refl _ _).grown hgrow (fun k e => by cases e)
  have hF1 : ∀ g, Fd g → g < w1.heap.size := hD1.lt
  go_cut [5, 7, 8, 9] from 21 to 42 (fun _ xv _ _ wr => ∃ D', LogRel w1 wr q D D' Fd (logL f n) n1 xv (numsB (keysF f n)))
  case first =>
    go_wp2_with fail
    go_loopg [7, 21] n1 (fun d xv jv wr => ∃ (j : Nat) (D' : DevS), j + d = n1 ∧ jv = .int .i64 (j : Int) ∧ LogRel w1 wr q D D' Fd (logL f n) j xv (numsB ((keysF f n).take j)))
    case atStart =>
      refine ⟨0, D, by omega, rfl, Fd, hD1.chg (M := fun _ => False) ((Chg.refl _ _).grown hgrow (fun k e => by cases e)) (fun _ _ h => h), fun k h => .inl h, hC2, rfl, by simpa [numsB, hnk] using hown, fun g hg h => ?_⟩
      have := hF1 g h
      have e : w1.heap.size = g := by simpa [Value.ownBlock] using hg
      omega
    case round =>
      obtain ⟨j, D', hjd, rfl, Fd', hDr, hFd, hC, hL, hx, hxF⟩ := hrel
      have hjd' : Hid (j + gk = n1) := hjd
      have hpr : wr.cell? ⟨p, 0, none⟩ = some (Dp q) := (hC.cell (p := ⟨p, 0, none⟩) (by show p < _; omega) hpF).trans c0
      have hsr := hC.size
      by_cases hj : j < n1
      · rcases hcs1 with h0 | ⟨bk, off, rfl, hbk, hbl, hc⟩
        · omega
        have hbk' : w.heap.size ≤ bk := by have h9 := hbk; simp at h9; omega
        obtain ⟨k, hk⟩ : ∃ k, (keysF f n)[j]? = some k := ⟨_, List.getElem?_eq_getElem (by omega)⟩
        have hkm := mem_keysF.1 (List.mem_of_getElem? hk)
        obtain ⟨b, hfb⟩ := Option.isSome_iff_exists.1 hkm.2
        obtain ⟨hb64, hkn⟩ := hb k b hfb
        have hLj : (logL f n)[j]? = some (17 + (j : Int), b) := by
          unfold logL
          rw [List.getElem?_append_left (by simp; omega)]
          simp [hk, hfb]
        have hcx : wr.cell? ⟨bk, off + j, none⟩ = some (.int .i64 (k : Int)) := by
          rw [hC.cell (p := ⟨bk, off + j, none⟩) hbl (fun h => by have := hlt bk h; omega), hc j hj]
          simp [List.getD, hk]
        have hmr := hm1.chg hC hdis
        obtain ⟨v, hv⟩ : ∃ v, vf k = some v := Option.isSome_iff_exists.1 (by rw [hmr.some_iff]; exact hkm.2)
        obtain ⟨b', hb', hdat⟩ := hmr.dat k v hv
        obtain rfl : b = b' := Option.some.inj (hfb.symm.trans hb')
        have hlook := (hmr.map.chg ((Chg.refl (fun _ => False) wr).drew) (fun h => h)).look1 (P := Tryz.prog) Tryz.underlying3 Tryz.underlying78 (zeroBytes _) (by omega : k < 9223372036854775808) hv
        have hjn' : (j : Int) < (n1 : Int) := by omega
        have hwr : IntKind.i64.wrap (17 + (j : Int)) = 17 + (j : Int) := by rw [IntKind.wrap_i64]; omega
        have hL1 := DevS.writeL_step hL hLj
        have hL2 := DevS.writeL_stop hL hLj
        have htk : (keysF f n).take (j + 1) = (keysF f n).take j ++ [k] := by rw [List.take_add_one, hk]; rfl
        clear hc hjd hk hkm hLj
        go_upto_region 7 with fail
        go_cut [5] from 22 to 42 (fun ev wx => ev = .int .i64 (D'.write (17 + (j : Int)) b).1 ∧ ∃ Fd'', DevAt Tryz.prog wx q (D'.write (17 + (j : Int)) b).2 Fd'' ∧ (∀ k, Fd'' k → Fd k ∨ w1.heap.size ≤ k) ∧ Chg Fd w1 wx ∧ wx.ownsRow w1.heap.size 5 1 u7 (numsB ((keysF f n).take j)).length ((numsB ((keysF f n).take j)).map u8v) ∧ (∀ g, u7.ownBlock = some g → ¬ Fd'' g))
        case first =>
          go_region_with ((go_at_call 83; refine (write_any (hDr.chg (M := fun _ => False) ((Chg.refl _ wr).drew) (fun _ _ h => h)) (hdat.chg (M := fun _ => False) ((Chg.refl _ wr).drew) (fun _ _ h => h)).src _).mono ?_; rintro e w4 ⟨rfl, hD4, hC4⟩))
          all_goals
            go_wp2_with fail
            go_meet
            case rel =>
              refine ⟨rfl, _, hD4, fun k hk => hk.elim (hFd k) (fun h => .inr (Nat.le_trans hsr h.1)), hC.trans ((Chg.refl _ wr).drew.trans hC4 (fun _ _ h => h)) (fun k hk h => (hFd k h).elim id (fun h2 => by omega)), ownsRow_chg hx ((Chg.refl _ wr).drew.trans hC4 (fun _ _ h => h)) hxF, fun g hg h => h.elim (hxF g hg) (fun h2 => ?_)⟩
              have := (hx.lt g hg).2
              have h3 := h2.1
              simp at h3
              omega
        case rest =>
          obtain ⟨rfl, Fd2, hD2, hFd2, hC2', hx2, hxF2⟩ := hcut
          obtain ⟨r, hr⟩ : ∃ r, r = D'.write (17 + (j : Int)) b := ⟨_, rfl⟩
          rw [← hr] at hD2 hL1 hL2 ⊢
          clear hr hDr hC hmr hdat hlook hcx hpr hwr hx hxF
          by_cases hr0 : r.1 = 0
          · rw [hr0]
            have hsc := hC2'.size
            have hx3 := ownsRow_chg (M := fun _ => False) hx2 ((Chg.refl _ wc).alloc (.cells ((fourB (k : Int)).map u8v).toArray 5)) (fun _ _ h => h)
            have hsrc : ∀ (i : Nat) u, ((fourB (k : Int)).map u8v)[i]? = some u → (wc.alloc (.cells ((fourB (k : Int)).map u8v).toArray 5)).cell? ((⟨wc.heap.size, 0, none⟩ : Addr).add i) = some u := Src.news (by intro i u hu; rw [Nat.zero_add, cell_of (heap_alloc_new wc _)]; simpa using hu)
            have hnx : (numsB ((keysF f n).take j)).length ≤ 32768 := by
              rw [numsB_length, List.length_take]
              omega
            go_wp2_with (first
              | (go_at_call 84; refine (four_any _ _).mono ?_; rintro e w5 ⟨rfl, rfl⟩)
              | (at_builtin; refine wpList_append_own_at _ rfl _ _ 35 rfl w1.heap.size 5 i0 (.int .u8 0) 1 1 Tryz.underlying35 hi hz0 hz1 hz2 rfl (by decide) u7 _ _ rfl hx3 ⟨wc.heap.size, 0, none⟩ 4 4 ((fourB (k : Int)).map u8v) rfl rfl hsrc (oneCells _) (by unfold maxLen; omega) (by omega) (by simp; omega) ?_; intro v6 w6 hown6 hgrow6 hnil6 hat6))
            have hCw : Chg (fun g => u7.ownBlock = some g) wc w6 := ((Chg.refl _ wc).alloc _).grown hgrow6 (fun k e _ => e)
            go_roundg (gk - 1)
            case measure => have := hjd'.out; omega
            case rel =>
              refine ⟨j + 1, r.2, by have := hjd'.out; omega, by go_num, Fd2, hD2.chg hCw (fun k hk e => hxF2 k e hk), hFd2, hC2'.trans hCw (fun k hk e => by have := (hx2.lt k e).1; omega), by rw [hL1]; exact Prod.ext hr0 rfl, ?_, fun g hg h => ?_⟩
              · rw [htk, numsB_snoc, List.map_append, List.length_append]
                exact hown6
              · rcases hat6 with e | e
                · exact hxF2 g (e ▸ hg) h
                · rw [e] at hg
                  have h7 := hD2.lt g h
                  simp at hg
                  omega
          · have hr1 : (r.1 != 0) = true := by simpa using hr0
            have hlog : D.log f n = r := by simp only [DevS.log]; rw [hL2 hr0, seqD_fail hr0, seqD_fail hr0, seqD_fail hr0]
            go_wp2_with fail
            go_step3
            refine ⟨rfl, ?_⟩
            unfold LogJ
            repeat apply Exists.intro
            refine ⟨rfl, ?_⟩
            rw [hlog]
            exact ⟨rfl, hD2.mono (fun k hk => (hFd2 k hk).imp id fun h => ⟨Nat.le_trans hs1 h, hD2.lt k hk⟩) (fun k hk => hk.elim (fun h => Nat.lt_of_lt_of_le (hlt k h) (Nat.le_trans hs1 hC2'.size)) (·.2)), (Chg.of_below hB).trans hC2' (fun _ _ h => h)⟩
      · have hjn' : ¬ (j : Int) < (n1 : Int) := by omega
        obtain rfl : j = n1 := by have := hjd'.out; omega
        clear hjd
        go_wp2_with fail
        go_meet
        case rel => exact ⟨D', Fd', hDr, hFd, hC, hL, by rwa [List.take_of_length_le (by omega)] at hx, hxF⟩
  case rest =>
    obtain ⟨D', Fd', hDr, hFd, hC, hL, hx, hxF⟩ := hcut
    obtain ⟨bs, hbs⟩ : ∃ bs, bs = numsB (keysF f n) := ⟨_, rfl⟩
    rw [← hbs] at hx
    have hbl : bs.length = 4 * n1 := by rw [hbs, numsB_length, hnk]
    have hbs' : Hid (bs = numsB (keysF f n)) := hbs
    clear hbs
    have hbl8 : bs.length ≤ 32768 := by omega
    have hnk' : Hid (n1 = (keysF f n).length) := hnk
    have hdat := Dat.of_own (F := fun g => u7.ownBlock = some g) hx (fun e => by
      rcases hx.2 with ⟨_, h0⟩ | ⟨g, cap, cur, e2, _⟩
      · omega
      · rw [e] at e2; cases e2) (fun _ h => h)
    obtain ⟨gx, hgx, hbuf⟩ := hdat.buf
    have hgF := hxF gx hgx
    have hsrc0 := hbuf.src
    have hgl := hbuf.lt
    have hgw : w1.heap.size ≤ gx := (hx.lt gx hgx).1
    have hmk : ∀ W : World, (Instr.makeSlice 35 (.int .i64 64) (.int .i64 64)).run Tryz.prog W = .ok (.slice (some ⟨W.heap.size, 0, none⟩) 64 64) (W.alloc (.cells cells64 5)) := fun _ => by kernel_rfl
    have hbl' : Hid (bs.length = 4 * n1) := hbl
    clear hx hxF hdat hcs1 hi hz0 hz1 hz2 hC2 hD1 hm1 hbl hl1 hnk
    have hxv : ∃ ax cx, u7 = .slice ax bs.length cx := by
      obtain ⟨g, off, cap, cur, fr, e, _⟩ := hsrc0
      exact ⟨_, _, e⟩
    go_upto_block 2 with fail
    go_cut [5, 7, 10, 11] from 43 to 63 (fun _ _ _ _ wr => ∃ D'' Fd'', DevAt Tryz.prog wr q D'' Fd'' ∧ (∀ k, Fd'' k → Fd k ∨ w1.heap.size ≤ k) ∧ Chg Fd w1 wr ∧ D.writeL (logL f n) = (0, D''))
    case first =>
      go_wp2_with fail
      go_loopg [7, 10] ((bs.length + 63) / 64) (fun d xv iv wr => ∃ (i : Nat) (D'' : DevS), i + d = (bs.length + 63) / 64 ∧ iv = .int .i64 (i : Int) ∧ PieceRel w1 wr q D D'' Fd (logL f n) (n1 + i) xv bs i gx)
      case atStart => exact ⟨0, D', by omega, rfl, Fd', hDr, hFd, hC, hL, hgF, by obtain ⟨ax, cx, e⟩ := hxv; exact ⟨ax, bs.length, cx, e, by omega⟩, fun _ => by simpa using hsrc0⟩
      case round =>
        obtain ⟨i, D'', hid, rfl, Fd2, hD2, hFd2, hC2, hL2, hgF2, ⟨ax, rem, cx, rfl, hrem⟩, hsrc⟩ := hrel
        have hrem' : Hid (rem = bs.length - 64 * i) := hrem
        have hid' : Hid (i + gk = (bs.length + 63) / 64) := hid
        by_cases hlt' : 64 * i < bs.length
        · obtain ⟨g, off, cap, cur, fr, he, rfl, hg, hlc, hcm, hcs⟩ := hsrc hlt'
          have hpos : (0 : Int) < (rem : Int) := by omega
          have hpos' : 0 < rem := by omega
          injection he with e1 e2 e3
          subst e1 e3
          clear e2
          have hlc2 : rem ≤ cx := by rw [hrem, ← List.length_drop]; exact hlc
          obtain ⟨cc, hcc⟩ : ∃ cc, cc = (bs.drop (64 * i)).take 64 := ⟨_, rfl⟩
          have hccl : cc.length = Nat.min rem 64 := by rw [hcc, List.length_take, List.length_drop, hrem]; exact Nat.min_comm _ _
          have hcs2 : ∀ (j : Nat) v, (cc.map u8v)[j]? = some v → (wr.alloc (.cells cells64 5)).cell? ((⟨g, off, none⟩ : Addr).add j) = some v := Src.news fun j v hv => by
            have hj : j < cc.length := by simpa using (List.getElem?_eq_some_iff.1 hv).1
            rw [World.cell?_of_block (w := wr) (Below.heap_alloc _ _ g (lt_of_heap hg))]
            refine hcs j v ?_
            rw [hcc, List.map_take, List.getElem?_take] at hv
            split at hv
            · exact hv
            · cases hv
          have hnew := heap_alloc_new wr (.cells cells64 5)
          have hinfo : (Tryz.prog.info? 5).map (·.size) = some 1 := by kernel_rfl

          have hmin : Nat.min rem 64 ≤ rem ∧ Nat.min rem 64 ≤ 64 := ⟨Nat.min_le_left _ _, Nat.min_le_right _ _⟩
          have hkc : cc.length ≤ cx := by omega
          have hkr : cc.length ≤ rem := by omega
          have hk64 : cc.length ≤ 64 := by omega
          obtain ⟨kc, hkc'⟩ : ∃ kc, kc = cc.length := ⟨_, rfl⟩
          obtain ⟨cl, hcl⟩ : ∃ cl, cl = cc.map u8v := ⟨_, rfl⟩
          have hcll : cl.length = kc := by rw [hcl, List.length_map, hkc']
          have hcn : cl.length = Nat.min rem 64 := by rw [hcll, hkc', hccl]
          have hone : ∀ v ∈ cl, v.oneCell' = true := by rw [hcl]; exact oneCells _
          have hk1 : kc ≤ rem := by omega
          have hk2 : kc ≤ cx := by omega
          have hkI : (kc : Int) ≤ (rem : Int) := by omega
          have hkC : (kc : Int) ≤ (cx : Int) := by omega
          have hfit : 0 + cl.length ≤ cells64.size := by rw [cells64_size]; omega
          rw [← hcl] at hcs2
          have hccH : Hid (cc = (bs.drop (64 * i)).take 64) := hcc
          have hclH : Hid (cl = cc.map u8v) := hcl
          have hkH : Hid (kc = cc.length ∧ cc.length = Nat.min rem 64) := ⟨hkc', hccl⟩
          have hpr : wr.cell? ⟨p, 0, none⟩ = some (Dp q) := (hC2.cell (p := ⟨p, 0, none⟩) (by show p < _; omega) hpF).trans c0
          have hprR : ∀ R, ((wr.alloc (.cells cells64 5)).setRow wr.heap.size R).cell? ⟨p, 0, none⟩ = some (Dp q) := fun R => by
            have hpl2 : p < wr.heap.size := by have := hC2.size; omega
            rw [World.cell?_of_block (w := wr) ((setRow_other _ wr.heap.size p R (by omega)).trans (Below.heap_alloc _ _ p hpl2))]
            exact hpr
          have hLj : (logL f n)[n1 + i]? = some (1 + (i : Int), pieceB bs i) := by
            have h9 := hnk'.out
            have h8 := hbl'.out
            unfold logL
            rw [List.getElem?_append_right (by simp; omega), hbs'.out]
            simp only [List.length_map, List.length_zipIdx, ← h9, Nat.add_sub_cancel_left, List.getElem?_map]
            rw [List.getElem?_range (by omega)]
            rfl
          have hpieceL : (pieceB bs i).length = 64 := by simp [pieceB]; omega
          have hpiece : cl ++ List.drop kc cells64.toList = (pieceB bs i).map u8v := by
            have e9 : cells64.toList = (List.replicate 64 (0 : UInt8)).map u8v := cells64_eq
            rw [hcl, e9, hkc', ← List.map_drop, ← List.map_append, List.drop_replicate]
            unfold pieceB
            rw [← hcc]
          have hL1 := DevS.writeL_step hL2 hLj
          have hL9 := DevS.writeL_stop hL2 hLj
          have hpieceH : Hid (cl ++ List.drop kc cells64.toList = (pieceB bs i).map u8v) := hpiece
          clear hpiece hLj
          have hcnH : Hid (cl.length = Nat.min rem 64) := hcn
          clear hrem hid hmin hcc hcl hkc' hccl hkc hkr hk64 hcn
          go_wp2_with (refine wpList_copy_own rfl _ _ 35 35 rfl 5 Tryz.underlying35 hinfo wr.heap.size 0 64 64 ⟨g, off, none⟩ rem cx rfl rfl cells64 5 hnew cl hcnH.out hcs2 hfit hone ?_)
          all_goals
            have hC3 : ∀ M, Chg M wr ((wr.alloc (.cells cells64 5)).setRow wr.heap.size (cl ++ List.drop kc cells64.toList).toArray) := fun M => ((Chg.refl M wr).alloc _).setRow (fun h => absurd h (Nat.lt_irrefl _)) _
            have hbf : Buf 5 ((wr.alloc (.cells cells64 5)).setRow wr.heap.size (cl ++ List.drop kc cells64.toList).toArray) wr.heap.size (.slice (some ⟨wr.heap.size, 0, none⟩) 64 64) (pieceB bs i) := by
              refine ⟨64, _, (0, 0), by rw [hpieceL], setRow_heap _ _ _ _ _ _ hnew, by rw [hpieceL]; exact Nat.le_refl _, by decide, ?_, ?_, fun _ _ => by simp⟩
              · rw [hpieceH.out]
                simp [hpieceL]
              · rw [hpieceH.out, hpieceL, List.take_of_length_le (by simp [hpieceL])]
            refine (write_any (hD2.chg (hC3 (fun _ => False)) (fun _ _ h => h)) hbf.src _).mono ?_
            rintro e w5 ⟨rfl, hD5, hC5⟩
            have hs2 := hC2.size
            have hs3 := (hC3 (fun _ => False)).size
            have hF5 : ∀ k, ext Fd2 ((wr.alloc (.cells cells64 5)).setRow wr.heap.size (cl ++ List.drop kc cells64.toList).toArray) w5 k → Fd k ∨ w1.heap.size ≤ k := fun k hk => hk.elim (hFd2 k) (fun h => .inr (by have := h.1; omega))
            have hC15 : Chg Fd w1 w5 := (hC2.trans (hC3 Fd) (fun _ _ h => h)).trans hC5 (fun k hk h => (hFd2 k h).elim id (fun h2 => by omega))
            have hg5 : w5.heap[g]? = some (.cells cur 5 fr) := by
              have := lt_of_heap hg
              exact (hC5.block g (by omega) hgF2).trans (((hC3 (fun _ => False)).block g this (fun h => h)).trans hg)
            obtain ⟨r, hr⟩ : ∃ r, r = D''.write (1 + (i : Int)) (pieceB bs i) := ⟨_, rfl⟩
            rw [← hr] at hD5 hL1 hL9 ⊢
            clear hr hC5 hC3 hbf hprR
            by_cases hr0 : r.1 = 0
            · rw [hr0]
              go_wp2_with fail
              go_roundg (gk - 1)
              case measure => have := hid'.out; have := hrem'.out; omega
              case rel =>
                refine ⟨i + 1, r.2, by have := hid'.out; omega, by go_num, _, hD5, hF5, hC15, by rw [show n1 + (i + 1) = n1 + i + 1 from by omega, hL1]; exact Prod.ext hr0 rfl, fun h => h.elim hgF2 (fun h2 => by have := lt_of_heap hg; omega), ⟨_, _, _, rfl, by have h7 := hkH.out; have h8 := hrem'.out; have h6 : Nat.min rem 64 = if rem ≤ 64 then rem else 64 := Nat.min_def; split at h6 <;> omega⟩, fun hl => ?_⟩
                have hk64 : kc = 64 := by have h7 := hkH.out; have h8 := hrem'.out; rw [h7.1, h7.2]; exact Nat.min_eq_right (by omega)
                have h8 := hrem'.out
                first
                  | (exfalso; omega)
                  | (refine ⟨g, off + kc, cx - kc, cur, fr, by rw [List.length_drop, show bs.length - 64 * (i + 1) = rem - kc from by omega], rfl, hg5, by rw [List.length_drop]; omega, by omega, fun j u hu => ?_⟩; rw [World.cell?_of_block (w := wr) (hg5.trans hg.symm), show off + kc + j = off + (64 + j) from by omega]; refine hcs (64 + j) u ?_; rw [List.getElem?_map, List.getElem?_drop] at hu ⊢; rw [← hu]; congr 2; omega)
            · have hr1 : (r.1 != 0) = true := by simpa using hr0
              have hlog : D.log f n = r := by simp only [DevS.log]; rw [hL9 hr0, seqD_fail hr0, seqD_fail hr0, seqD_fail hr0]
              go_wp2_with fail
              go_step3
              refine ⟨rfl, ?_⟩
              unfold LogJ
              repeat apply Exists.intro
              refine ⟨rfl, ?_⟩
              rw [hlog]
              exact ⟨rfl, hD5.mono (fun k hk => (hF5 k hk).imp id fun h => ⟨Nat.le_trans hs1 h, hD5.lt k hk⟩) (fun k hk => hk.elim (fun h => Nat.lt_of_lt_of_le (hlt k h) (Nat.le_trans hs1 hC15.size)) (·.2)), (Chg.of_below hB).trans hC15 (fun _ _ h => h)⟩
        · obtain rfl : rem = 0 := by omega
          obtain rfl : i = (bs.length + 63) / 64 := by have := hid'.out; omega
          clear hid
          go_wp2_with fail
          go_meet
          case rel =>
            refine ⟨D'', Fd2, hD2, hFd2, hC2, ?_⟩
            rw [← hL2, List.take_of_length_le]
            have h9 := hnk'.out
            have h8 := hbl'.out
            unfold logL
            simp
            omega
    case rest =>
      obtain ⟨D2, F2, hD2, hF2, hC2, hL2⟩ := hcut
      have hs2 := hC2.size
      have hlogE : D.log f n = seqD (seqD D2.flush fun D => D.write 0 (headB ((keysF f n).length : Int))) DevS.flush := by simp only [DevS.log]; rw [hL2, seqD_zero]
      have hlogH : Hid (D.log f n = seqD (seqD D2.flush fun D => D.write 0 (headB ((keysF f n).length : Int))) DevS.flush) := hlogE
      have c2 : wc.cell? ⟨p, 0, none⟩ = some (Dp q) := (hC2.cell (p := ⟨p, 0, none⟩) (by show p < _; omega) hpF).trans c0
      clear hlogE hsrc0 hgl hgw hmk
      go_wp2_with fail
      refine (flush_any hD2).mono ?_
      rintro e w4 ⟨rfl, hD4, hC4⟩
      have hF4 : ∀ k, ext F2 wc w4 k → Fd k ∨ w1.heap.size ≤ k := fun k hk => hk.elim (hF2 k) (fun h => .inr (Nat.le_trans hs2 h.1))
      have hC14 : Chg Fd w1 w4 := hC2.trans hC4 (fun k hk h => (hF2 k h).elim id (fun h2 => by omega))
      obtain ⟨r, hr⟩ : ∃ r, r = D2.flush := ⟨_, rfl⟩
      rw [← hr] at hD4 ⊢
      have hlog2 : Hid (D.log f n = seqD (seqD r fun D => D.write 0 (headB ((keysF f n).length : Int))) DevS.flush) := by rw [hr]; exact hlogH
      clear hr hlogH hC4 hD2 hF2 hL2
      by_cases hr0 : r.1 = 0
      · have c4 : w4.cell? ⟨p, 0, none⟩ = some (Dp q) := (hC14.cell (p := ⟨p, 0, none⟩) (by show p < _; omega) hpF).trans c0
        rw [hr0]
        have hp4 : p < w4.heap.size := Nat.lt_of_lt_of_le hpl (Nat.le_trans hs1 hC14.size)
        go_upto_region 20 with fail
        go_cut [5] from 64 (fun ev wx => ev = .int .i64 (r.2.write 0 (headB ((keysF f n).length : Int))).1 ∧ ∃ F5, DevAt Tryz.prog wx q (r.2.write 0 (headB ((keysF f n).length : Int))).2 F5 ∧ (∀ k, F5 k → Fd k ∨ w1.heap.size ≤ k) ∧ Chg Fd w1 wx)
        case first =>
          go_region_held (fun W => W.cell? ⟨p, 0, none⟩ = some (Dp q)) (first | exact c4 | exact c5 | exact c6) (first
            | (go_at_call 86; refine (head_any _ _).mono ?_; rintro e w5 ⟨v, g, rfl, hdat, hg, hb5⟩; have hb5' := undrew hb5; have c5 := (hb5'.cell (p := ⟨p, 0, none⟩) hp4).trans c4)
            | (go_at_call 83; refine (write_any (hD4.below hb5') hdat.src _).mono ?_; rintro e w6 ⟨rfl, hD6, hC6⟩; have c6 := (hC6.cell (p := ⟨p, 0, none⟩) (Nat.lt_of_lt_of_le hp4 hb5'.size) (fun h => (hF4 _ h).elim hpF (fun h => by have h9 : w1.heap.size ≤ p := h; omega))).trans c5))
          all_goals
            go_wp2_with fail
            go_meet
            case rel =>
              have hs4 := hC14.size
              have hs5 := hb5'.size
              exact ⟨rfl, _, hD6, fun k hk => hk.elim (hF4 k) (fun h => .inr (Nat.le_trans hs4 (Nat.le_trans hs5 h.1))), (hC14.below hb5').trans hC6 (fun k hk h => (hF4 k h).elim id (fun h2 => by omega))⟩
        case rest =>
          obtain ⟨rfl, F5, hD5, hF5, hC5⟩ := hcut
          obtain ⟨r5, hr5⟩ : ∃ r5, r5 = r.2.write 0 (headB ((keysF f n).length : Int)) := ⟨_, rfl⟩
          rw [← hr5] at hD5 ⊢
          have c5 : wc.cell? ⟨p, 0, none⟩ = some (Dp q) := (hC5.cell (p := ⟨p, 0, none⟩) (by show p < _; omega) hpF).trans c0
          have hr5' : Hid (r5 = r.2.write 0 (headB ((keysF f n).length : Int))) := hr5
          clear hr5 hD4 hF4 hC14 c4 hp4
          by_cases hr6 : r5.1 = 0
          · rw [hr6]
            go_wp2_with fail
            refine (flush_any hD5).mono ?_
            rintro e w6 ⟨rfl, hD6, hC6⟩
            have hs5 := hC5.size
            have hF6 : ∀ k, ext F5 wc w6 k → Fd k ∨ w1.heap.size ≤ k := fun k hk => hk.elim (hF5 k) (fun h => .inr (Nat.le_trans hs5 h.1))
            have hC16 : Chg Fd w1 w6 := hC5.trans hC6 (fun k hk h => (hF5 k h).elim id (fun h2 => by omega))
            go_wp2_with fail
            go_step3
            go_wp2_with fail
            simp only [Exit.jump]
            go_ret
            rw [hlog2.out, seqD_ok hr0, ← hr5'.out, seqD_ok hr6]
            exact ⟨rfl, hD6.mono (fun k hk => (hF6 k hk).imp id fun h => ⟨Nat.le_trans hs1 h, hD6.lt k hk⟩) (fun k hk => hk.elim (fun h => Nat.lt_of_lt_of_le (hlt k h) (Nat.le_trans hs1 hC16.size)) (·.2)), (Chg.of_below hB).trans hC16 (fun _ _ h => h)⟩
          · have hr7 : (r5.1 != 0) = true := by simpa using hr6
            go_wp2_with fail
            go_step3
            refine ⟨rfl, ?_⟩
            unfold LogJ
            repeat apply Exists.intro
            refine ⟨rfl, ?_⟩
            rw [hlog2.out, seqD_ok hr0, ← hr5'.out, seqD_fail hr6]
            exact ⟨rfl, hD5.mono (fun k hk => (hF5 k hk).imp id fun h => ⟨Nat.le_trans hs1 h, hD5.lt k hk⟩) (fun k hk => hk.elim (fun h => Nat.lt_of_lt_of_le (hlt k h) (Nat.le_trans hs1 hC5.size)) (·.2)), (Chg.of_below hB).trans hC5 (fun _ _ h => h)⟩
      · have hr1 : (r.1 != 0) = true := by simpa using hr0
        go_wp2_with fail
        go_step3
        refine ⟨rfl, ?_⟩
        unfold LogJ
        repeat apply Exists.intro
        refine ⟨rfl, ?_⟩
        rw [hlog2.out, seqD_fail hr0, seqD_fail hr0]
        exact ⟨rfl, hD4.mono (fun k hk => (hF4 k hk).imp id fun h => ⟨Nat.le_trans hs1 h, hD4.lt k hk⟩) (fun k hk => hk.elim (fun h => Nat.lt_of_lt_of_le (hlt k h) (Nat.le_trans hs1 hC14.size)) (·.2)), (Chg.of_below hB).trans hC14 (fun _ _ h => h)⟩
end
end Go.Proofs.YtbnoebdpbpjbkaaGreat
