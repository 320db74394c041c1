/-
  The store's Read and Write.
-/
import Derived.Test.YtbnoebdpbpjbkaaWal1
namespace Go.Proofs.Ytbnoebdpbpjbkaa
open Go.RowKit Go.Lz
section
variable {w : World} {p q : Nat} {S : WalS} {Fd Fs F : Nat → Prop} {mn mw : Nat} {vn vw : Nat → Option Value} {cn cw : Nat}

theorem _root_.Go.Lz.WalS.wrong_zero {i : Int} (h : S.wrong i = 0) : S.dead = false ∧ S.dev.dead = false ∧ 0 ≤ i ∧ i < S.size := by
  unfold WalS.wrong at h
  split at h
  · cases h
  · split at h
    · cases h
    · rename_i h1 h2
      simp [WalS.isDead] at h1
      exact ⟨h1.1, h1.2, by omega, by omega⟩

/-- What a read hands back: nothing and an error; or a new slice. -/
def WRead (w : World) (p q : Nat) (S : WalS) (F : Nat → Prop) (i : Int) (e : Ending) (w' : World) : Prop :=
  (S.wrong i ≠ 0 ∧ e = .returned (.tuple #[.slice none 0 0, .int .i64 (S.wrong i)]) ∧ w = w') ∨
  (S.wrong i = 0 ∧ ∃ v g, e = .returned (.tuple #[v, .int .i64 0]) ∧ Dat 5 w' (· = g) v (S.get i.toNat) ∧ w.heap.size ≤ g ∧ StoreAt Try.prog w' p q (S.asked i.toNat) F ∧ Chg F w w')

set_option maxHeartbeats 1000000 in
theorem wread_in (h : StoreIn Try.prog w p q S Fd Fs mn mw vn vw cn cw) (hd : ∀ k, Fd k → F k) (hs : ∀ k, Fs k → F k) (hl : ∀ k, F k → k < w.heap.size) (i : Int) : Calls Try.prog 45 #[Dptr p, .int .i64 i] w (WRead w p q S F i) := by
  by_cases hw : S.wrong i = 0
  · obtain ⟨h1, h2, h3, h4⟩ := WalS.wrong_zero hw
    obtain ⟨k, rfl⟩ := Int.eq_ofNat_of_zero_le h3
    have hk : k < S.size := by omega
    have hdn := h.dev.ok.n
    have hk3 : 300 + k < S.dev.n := by unfold WalS.size at hk; omega
    have hkb : k < 9223372036854775808 := by omega
    have c0 : w.cell? ⟨p, 0, none⟩ = some (Dp q) := cell_of h.blk 0
    have c1 : w.cell? ⟨p, 1, none⟩ = some (.map (some mn)) := cell_of h.blk 1
    have c2 : w.cell? ⟨p, 2, none⟩ = some (.map (some mw)) := cell_of h.blk 2
    have ln := h.now.map.look Try.underlying3 Try.underlying127 (zeroBytes _) hkb
    have lw := h.wait.map.look Try.underlying3 Try.underlying127 (zeroBytes _) hkb
    have hat := h.at_ hd hs hl
    cases hv : vn k with
    | some v =>
      obtain ⟨b, hb, hdat⟩ := h.now.dat k v hv
      have hlen : b.length ≤ 140737488355328 := by rw [(h.ok.now k b hb).1]; omega
      have hget : S.get k = b := by simp [WalS.get, hb]
      have hask : S.asked k = S := by simp [WalS.asked, hb]
      rw [hv] at ln
      simp only [Option.getD_some, Option.isSome_some] at ln
      obtain ⟨g, cap, cur, rfl, hdat2⟩ := id hdat
      clear lw hk3 hdn h4
      go_enter Try.func45, Try.ntmps45
      go_wp2_with (first
        | (go_at_call 76; refine (wwrong_any h _).mono ?_; rw [hw]; rintro e w' ⟨rfl, rfl⟩)
        | (go_at_call 63; refine (clone_bytes hdat.src hlen).mono ?_; rintro e w1 ⟨v1, g1, rfl, hd1, hg1, hb1⟩; obtain ⟨g2, cap1, cur1, rfl, rfl, hx1⟩ := id hd1)
        | (go_at_call 62; refine (clip_bytes _ _ _ _ hx1.2.1 hx1.2.2.1).mono ?_; rintro e w' ⟨rfl, rfl⟩))
      go_ret2
      refine .inr ⟨hw, _, g2, rfl, ?_, hg1, ?_, Chg.of_below hb1⟩
      · rw [Int.toNat_natCast, hget]
        exact ⟨g2, b.length, cur1, rfl, rfl, hx1.1, Nat.le_refl _, Nat.le_trans hx1.2.1 hx1.2.2.1, Nat.le_trans hx1.2.1 hx1.2.2.2.1, hx1.2.2.2.2⟩
      · rw [Int.toNat_natCast, hask]
        exact hat.below hb1
    | none =>
      have hnn := h.now.no k hv
      rw [hv] at ln
      simp only [Option.getD_none, Option.isSome_none] at ln
      cases hv2 : vw k with
      | some v =>
        obtain ⟨b, hb, hdat⟩ := h.wait.dat k v hv2
        have hlen : b.length ≤ 140737488355328 := by rw [(h.ok.wait k b hb).1]; omega
        have hget : S.get k = b := by simp [WalS.get, hb, hnn]
        have hask : S.asked k = S := by simp [WalS.asked, hb]
        rw [hv2] at lw
        simp only [Option.getD_some, Option.isSome_some] at lw
        obtain ⟨g, cap, cur, rfl, hdat2⟩ := id hdat
        clear hk3 hdn h4
        go_enter Try.func45, Try.ntmps45
        go_wp2_with (first
          | (go_at_call 76; refine (wwrong_any h _).mono ?_; rw [hw]; rintro e w' ⟨rfl, rfl⟩)
          | (go_at_call 63; refine (clone_bytes hdat.src hlen).mono ?_; rintro e w1 ⟨v1, g1, rfl, hd1, hg1, hb1⟩; obtain ⟨g2, cap1, cur1, rfl, rfl, hx1⟩ := id hd1)
          | (go_at_call 62; refine (clip_bytes _ _ _ _ hx1.2.1 hx1.2.2.1).mono ?_; rintro e w' ⟨rfl, rfl⟩))
        go_ret2
        refine .inr ⟨hw, _, g2, rfl, ?_, hg1, ?_, Chg.of_below hb1⟩
        · rw [Int.toNat_natCast, hget]
          exact ⟨g2, b.length, cur1, rfl, rfl, hx1.1, Nat.le_refl _, Nat.le_trans hx1.2.1 hx1.2.2.1, Nat.le_trans hx1.2.1 hx1.2.2.2.1, hx1.2.2.2.2⟩
        · rw [Int.toNat_natCast, hask]
          exact hat.below hb1
      | none =>
        have hnw := h.wait.no k hv2
        have hget : S.get k = S.dev.now (300 + k) := by simp [WalS.get, hnw, hnn]
        have hask : S.asked k = { S with dev := S.dev.counted } := by simp [WalS.asked, hnw, hnn]
        rw [hv2] at lw
        simp only [Option.getD_none, Option.isSome_none] at lw
        have cr := read_own h.dev (300 + (k : Int))
        have hdw : S.dev.wrong (300 + (k : Int)) = 0 := by simp [DevS.wrong, h2]; omega
        go_enter Try.func45, Try.ntmps45
        go_wp2_with (first
          | (go_at_call 76; refine (wwrong_any h _).mono ?_; rw [hw]; rintro e w' ⟨rfl, rfl⟩)
          | (go_at_call 19; refine cr.mono ?_; rintro e w1 hr; obtain ⟨v, g, rfl, hdat, hg, hD, hc⟩ : ∃ v g, e = .returned (.tuple #[v, .int .i64 0]) ∧ Dat 5 w1 (· = g) v (S.dev.now (300 + (k : Int)).toNat) ∧ w.heap.size ≤ g ∧ DevAt Try.prog w1 q S.dev.counted Fd ∧ Chg (ownF Fd w) w w1 := by (rcases hr with hr | hr; exact absurd hdw hr.1; exact hr.2)))
        go_ret2
        have hcd : Chg Fd w w1 := hc.mono fun _ _ e => e.1
        refine .inr ⟨hw, v, g, rfl, ?_, hg, ?_, hcd.mono fun j _ e => hd j e⟩
        · rw [Int.toNat_natCast, hget]
          have : (300 + (k : Int)).toNat = 300 + k := by omega
          rwa [this] at hdat
        · rw [Int.toNat_natCast, hask]
          exact (h.device hD hcd (fun _ e => .inl e) rfl).at_ hd hs (fun j hj => Nat.lt_of_lt_of_le (hl j hj) hcd.size)
  · have hb : (S.wrong i != 0) = true := by simpa using hw
    go_enter Try.func45, Try.ntmps45
    go_wp2_with (go_at_call 76; refine (wwrong_any h _).mono ?_; rintro e w' ⟨rfl, rfl⟩)
    go_ret2
    exact .inl ⟨hw, rfl, rfl⟩

theorem wread_any (h : StoreAt Try.prog w p q S F) (i : Int) : Calls Try.prog 45 #[Dptr p, .int .i64 i] w (WRead w p q S F i) := by
  obtain ⟨Fd, Fs, mn, mw, vn, vw, cn, cw, h, hd, hs, hl⟩ := h
  exact wread_in h hd hs hl i

/-- An error's number, and the store. -/
def WErr (w : World) (p q : Nat) (r : Int × WalS) (F : Nat → Prop) (e : Ending) (w' : World) : Prop :=
  e = .returned (.int .i64 r.1) ∧ StoreAt Try.prog w' p q r.2 (ext F w w') ∧ Chg F w w'

/-- A sector of the transaction under way is another one. -/
theorem _root_.Go.Lz.StoreIn.stored {w2 w3 : World} (h : StoreIn Try.prog w p q S Fd Fs mn mw vn vw cn cw) (hb : Below w.heap.size w w2) {v : Value} {g : Nat} {b : Bytes} (hd : Dat 5 w2 (· = g) v b) (hg : w.heap.size ≤ g) {k c' : Nat}
    (hm3 : MapAt Try.prog 3 w3 mn (upd vn k (some v)) c') (hgr : w2.grownBy w3 (some mn)) (hb64 : b.length = 64) (hk : k < S.size) :
    StoreIn Try.prog w3 p q { S with now := upd S.now k (some b) } Fd (fun j => Fs j ∨ j = g) mn mw (upd vn k (some v)) vw c' cw ∧ Chg (· = mn) w w3 := by
  have hc : Chg (· = mn) w w3 := (Chg.of_below hb).grown hgr (fun j e _ => by cases e; rfl)
  obtain ⟨es, cl, hme⟩ := h.now.map.isMap
  have hkeep : ∀ j cs t, w.heap[j]? = some (Obj.cells cs t (0, 0)) → w3.heap[j]? = some (Obj.cells cs t (0, 0)) := fun j cs t hj => (hc.block j (lt_of_heap hj) (fun e => ne_of_map hj (e ▸ hme) rfl)).trans hj
  have hd3 : Dat 5 w3 (· = g) v b := hd.heap fun j cs hj h3 => (hgr.block j (lt_of_heap h3) (fun e => by cases e; subst hj; have := h.now.map.lt; omega)).trans h3
  have hgl : g < w3.heap.size := by
    obtain ⟨g', _, _, _, rfl, h3, _⟩ := hd3
    exact lt_of_heap h3
  refine ⟨⟨hkeep p _ _ h.blk, h.dev.chg hc (fun j hj e => h.dis mn h.now.Fm (e ▸ hj)), ⟨hm3, fun i u hu => ?_, fun i hu => ?_, .inl h.now.Fm⟩, ?_, h.ne, .inl h.Fp, ?_, ?_, ⟨h.ok.n, fun j c hj => ?_, h.ok.wait⟩⟩, hc⟩
  · by_cases e : i = k
    · subst e
      rw [upd_same] at hu
      cases hu
      exact ⟨b, by simp, hd3.mono fun j hj => .inr hj⟩
    · rw [upd_other _ e] at hu
      obtain ⟨b', h1, h2⟩ := h.now.dat i u hu
      exact ⟨b', by simpa [upd_other _ e] using h1, (h2.heap fun j cs _ h3 => hkeep j cs _ h3).mono fun j hj => .inl hj⟩
  · by_cases e : i = k
    · subst e
      rw [upd_same] at hu
      cases hu
    · rw [upd_other _ e] at hu
      simpa [upd_other _ e] using h.now.no i hu
  · exact (h.wait.mono fun j hj => Or.inl hj).heap (hc.block mw h.wait.map.lt (fun e => h.ne e.symm)) (fun j cs _ h3 => hkeep j cs _ h3)
  · intro j hj
    rcases hj with hj | rfl
    · exact Nat.lt_of_lt_of_le (h.Flt j hj) hc.size
    · exact hgl
  · intro j hj e
    rcases hj with hj | rfl
    · exact h.dis j hj e
    · have := h.dev.lt _ e; omega
  · by_cases e : j = k
    · subst e
      simp only [upd_same, Option.some.injEq] at hj
      subst hj
      exact ⟨hb64, hk⟩
    · simp only [upd_other _ e] at hj
      exact h.ok.now j c hj

theorem wat_ext {w' : World} (h : StoreAt Try.prog w' p q S F) : StoreAt Try.prog w' p q S (ext F w w') := h.mono (fun _ hj => .inl hj) fun j hj => hj.elim (h.lt j) (·.2)

set_option maxRecDepth 100000 in
set_option maxHeartbeats 1000000 in
theorem wwrite_any (h : StoreAt Try.prog w p q S F) {v : Value} {b : Bytes} {G : Nat → Prop} (hv : Src 5 w G v b) (i : Int) : Calls Try.prog 40 #[Dptr p, .int .i64 i, v] w (WErr w p q (S.write i b) F) := by
  have hat := h
  obtain ⟨Fd, Fs, mn, mw, vn, vw, cn, cw, h, hd, hs, hl⟩ := h
  unfold WalS.write
  by_cases hw : S.wrong i = 0
  · rw [if_neg (by simpa using hw)]
    obtain ⟨h1, h2, h3, h4⟩ := WalS.wrong_zero hw
    obtain ⟨k, rfl⟩ := Int.eq_ofNat_of_zero_le h3
    rw [Int.toNat_natCast]
    have hk : k < S.size := by omega
    have hdn := h.dev.ok.n
    have hsz : S.size ≤ 8192 := Nat.le_trans (Nat.sub_le _ _) hdn
    have hkb : k < 9223372036854775808 := by omega
    have c1 : w.cell? ⟨p, 1, none⟩ = some (.map (some mn)) := cell_of h.blk 1
    have ln := h.now.map.look Try.underlying3 Try.underlying127 (zeroBytes _) hkb
    have hlen := h.now.map.len (P := Try.prog) Try.underlying127
    have hcn : cn = S.nowN := h.now.count Try.underlying3 h.ok.nowB
    have his := h.now.some_iff k
    obtain ⟨g, off, cap, cur, fr, rfl, hv2⟩ := id hv
    have hpl := lt_of_heap h.blk
    obtain ⟨z, hz⟩ : ∃ z, z = (vn k).getD (.slice none 0 0) := ⟨_, rfl⟩
    rw [← hz, his] at ln
    clear hz
    by_cases hb : b.length = 64
    · rw [if_neg (by simpa using hb)]
      have hb64 : Hid (b.length = 64) := hb
      have hlen1 : b.length ≤ 140737488355328 := by omega
      have hlen0 : ((b.length : Int) != 64) = false := by rw [hb]; rfl
      clear hb
      by_cases hx : (S.now k).isSome = false ∧ 128 ≤ S.nowN
      · rw [if_pos hx]
        rw [hx.1] at ln
        have hc128 : (128 : Int) ≤ (cn : Int) := by have := hx.2; omega
        clear hx his
        go_enter Try.func40, Try.ntmps40
        go_wp2_with (go_at_call 76; refine (wwrong_any h _).mono ?_; rw [hw]; rintro e w' ⟨rfl, rfl⟩)
        go_ret
        exact ⟨rfl, wat_ext hat, Chg.refl _ _⟩
      · rw [if_neg hx]
        have hcle : cn < maxLen := Nat.lt_of_le_of_lt (h.now.map.le Try.underlying3 (h.now.bound h.ok.nowB)) (by unfold maxLen; omega)
        obtain ⟨o, ho⟩ : ∃ o, o = (S.now k).isSome := ⟨_, rfl⟩
        have hx' : o = true ∨ cn < 128 := by
          cases o with
          | true => exact .inl rfl
          | false => exact .inr (by rw [hcn]; exact Nat.lt_of_not_le fun h9 => hx ⟨ho.symm, h9⟩)
        rw [← ho] at ln
        clear hx ho his
        cases o
        all_goals
          try have hc128 : (cn : Int) < 128 := by simp at hx'; omega
          go_enter Try.func40, Try.ntmps40
          go_wp2_with (go_at_call 76; refine (wwrong_any h _).mono ?_; rw [hw]; rintro e w' ⟨rfl, rfl⟩)
          go_region_with ((go_at_call 63; refine (clone_bytes (by exact hv) hlen1).mono ?_; rintro e w2 ⟨v1, g1, rfl, hd1, hg1, hb1⟩; obtain ⟨g2, cap1, cur1, rfl, rfl, hx1⟩ := id hd1; have c1' := (hb1.cell (p := ⟨p, 1, none⟩) (by simpa using hpl)).trans c1; obtain ⟨w3, hst, hm3, hgr3, hsz3⟩ := (h.now.map.heap (w' := w2) (hb1.block mn (by simpa using h.now.map.lt))).store (Tm := 127) Try.underlying3 Try.underlying127 hcle hkb (.slice (some ⟨g2, 0, none⟩) b.length cap1)))
          all_goals
            go_wp2
            go_ret
            obtain ⟨h3', hc3⟩ := h.stored (undrew hb1) hd1 (by simpa using hg1) hm3 hgr3 hb64.out hk
            exact ⟨rfl, h3'.at_ (fun j hj => .inl (hd j hj)) (fun j hj => hj.imp (hs j) (fun e => ⟨by subst e; simpa using hg1, h3'.Flt j (.inr e)⟩)) (fun j hj => hj.elim (fun h9 => Nat.lt_of_lt_of_le (hl j h9) hc3.size) (·.2)), hc3.mono fun j _ e => by subst e; exact hs _ h.now.Fm⟩
    · rw [if_pos hb]
      have hb' : ((b.length : Int) != 64) = true := by simp; omega
      go_enter Try.func40, Try.ntmps40
      go_wp2_with (go_at_call 76; refine (wwrong_any h _).mono ?_; rw [hw]; rintro e w' ⟨rfl, rfl⟩)
      go_ret
      exact ⟨rfl, wat_ext hat, Chg.refl _ _⟩
  · rw [if_pos hw]
    have hb : (S.wrong i != 0) = true := by simpa using hw
    go_enter Try.func40, Try.ntmps40
    go_wp2_with (go_at_call 76; refine (wwrong_any h _).mono ?_; rintro e w' ⟨rfl, rfl⟩)
    go_ret
    exact ⟨rfl, wat_ext hat, Chg.refl _ _⟩
end
end Go.Proofs.Ytbnoebdpbpjbkaa
