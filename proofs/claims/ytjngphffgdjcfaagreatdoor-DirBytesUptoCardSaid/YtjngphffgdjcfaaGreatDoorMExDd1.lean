/-
  Package dir: a folder's bytes, plain; parse, walked.
-/
import Derived.Test.YtjngphffgdjcfaaGreatDoorMExDN
import Derived.Test.YtjngphffgdjcfaaGreatDoorME21
import Derived.Shelf.SlSorted.Search
import Derived.BigQuiet
import Derived.Deep.QuietTactic
import Derived.StillTailTactics
import Derived.BigRegion
import Derived.Maps.AppendAt
namespace Go.Lz
open Go.RowKit Go.Proofs.YtjngphffgdjcfaaGreatDoor
/-- A folder's entry: its name, its node. -/
abbrev Entry := Bytes × Nat
def bmk (l : Bytes) : ByteArray := ⟨l.toArray⟩
def goodE (x : Entry) : Bool := nameD (bmk x.1) && (decide (1 ≤ x.2) && decide (x.2 ≤ 64))
def riseE (out : List Entry) (x : Entry) : Bool := match out.getLast? with
  | none => true
  | some y => Op.bytesLess (bmk y.1).toList (bmk x.1).toList
def headE (n : Nat) (r : Bytes) : Entry := (r.take n, (r.getD n 0).toNat)
/-- A folder's bytes, read. -/
def parseF : Nat → Bytes → List Entry → Option (List Entry)
  | 0, _, out => some out
  | _ + 1, [], out => some out
  | k + 1, x :: r, out =>
    if r.length < x.toNat + 1 then none else
    if goodE (headE x.toNat r) && riseE out (headE x.toNat r) then parseF k (r.drop (x.toNat + 1)) (out ++ [headE x.toNat r]) else none
def entC (x : Entry) : List Value := [.string (bmk x.1), .int .i64 (x.2 : Int)]
/-- v is a slice of these entries. -/
def EntsAt (w : World) (F : Nat → Prop) (v : Value) (l : List Entry) : Prop :=
  ∃ a n c, v = .slice a n c ∧ l.length = n ∧ n ≤ 9223372036854775807 ∧ (n = 0 ∨ ∃ b off, a = some ⟨b, off, none⟩ ∧ F b ∧ b < w.heap.size ∧ ∀ j u, (l.flatMap entC)[j]? = some u → w.cell? ⟨b, off + j, none⟩ = some u)
/-- The same, the slice's block and capacity told. -/
def EntsC (w : World) (F : Nat → Prop) (v : Value) (l : List Entry) : Prop :=
  l.length ≤ 9223372036854775807 ∧ ((v = .slice none 0 0 ∧ l = []) ∨ ∃ b cur, v = .slice (some ⟨b, 0, none⟩) l.length l.length ∧ F b ∧ w.heap[b]? = some (.cells cur 41 (0, 0)) ∧ cur.toList.take (l.length * 2) = l.flatMap entC)
theorem EntsC.at_ {w : World} {F : Nat → Prop} {v : Value} {l : List Entry} (h : EntsC w F v l) : EntsAt w F v l := by
  obtain ⟨h0, ⟨rfl, rfl⟩ | ⟨b, cur, rfl, h1, h2, h3⟩⟩ := h
  · exact ⟨none, 0, 0, rfl, rfl, by omega, .inl rfl⟩
  · refine ⟨_, _, _, rfl, rfl, h0, .inr ⟨b, 0, rfl, h1, lt_of_heap h2, fun j u hu => ?_⟩⟩
    rw [Nat.zero_add, cell_of h2, ← Array.getElem?_toList]
    rw [← h3, List.getElem?_take] at hu
    split at hu
    · exact hu
    · cases hu
theorem entC_len : ∀ (l : List Entry), (l.flatMap entC).length = 2 * l.length
  | [] => rfl
  | x :: l => by rw [List.flatMap_cons, List.length_append, entC_len l, List.length_cons]; simp [entC]; omega
theorem entC_at : ∀ (l : List Entry) (j : Nat) (x : Entry), l[j]? = some x → (l.flatMap entC)[2 * j]? = some (.string (bmk x.1)) ∧ (l.flatMap entC)[2 * j + 1]? = some (.int .i64 (x.2 : Int))
  | [], j, x, h => by simp at h
  | y :: l, 0, x, h => by
    have : y = x := by simpa using h
    subst this
    exact ⟨rfl, rfl⟩
  | y :: l, j + 1, x, h => by
    have h2 : l[j]? = some x := by simpa using h
    have := entC_at l j x h2
    rw [List.flatMap_cons]
    have e : (entC y).length = 2 := rfl
    rw [List.getElem?_append_right (by omega), List.getElem?_append_right (by omega), e, show 2 * (j + 1) - 2 = 2 * j by omega, show 2 * (j + 1) + 1 - 2 = 2 * j + 1 by omega]
    exact this
/-- v is a slice of these bytes; its capacity is no less. -/
def EB (w : World) (v : Value) (l : Bytes) : Prop :=
  ∃ a c, v = .slice a l.length c ∧ l.length ≤ c ∧ c ≤ maxLen ∧ (l.length = 0 ∨ ∃ b off, a = some ⟨b, off, none⟩ ∧ b < w.heap.size ∧ ∀ j, j < l.length → w.cell? ⟨b, off + j, none⟩ = some (u8v (l.getD j 0)))
theorem EB.below {w w' : World} {v : Value} {l : Bytes} (h : EB w v l) (hB : Below w.heap.size w w') : EB w' v l := by
  obtain ⟨a, c, h1, h2, h3, h4⟩ := h
  refine ⟨a, c, h1, h2, h3, h4.imp id ?_⟩
  rintro ⟨b, off, h5, h6, h7⟩
  exact ⟨b, off, h5, Nat.lt_of_lt_of_le h6 hB.size, fun j hj => (hB.cell (p := ⟨b, off + j, none⟩) h6).trans (h7 j hj)⟩
theorem parseF_short {k : Nat} {x : UInt8} {r : Bytes} {out : List Entry} (h : r.length < x.toNat + 1) : parseF (k + 1) (x :: r) out = none := by
  unfold parseF
  rw [if_pos h]
theorem parseF_bad {k : Nat} {x : UInt8} {r : Bytes} {out : List Entry} (h : (goodE (headE x.toNat r) && riseE out (headE x.toNat r)) = false) : parseF (k + 1) (x :: r) out = none := by
  unfold parseF
  rw [h]
  simp
theorem parseF_step {k : Nat} {x : UInt8} {r : Bytes} {out : List Entry} (h1 : ¬ r.length < x.toNat + 1) (h : (goodE (headE x.toNat r) && riseE out (headE x.toNat r)) = true) : parseF (k + 1) (x :: r) out = parseF k (r.drop (x.toNat + 1)) (out ++ [headE x.toNat r]) := by
  conv => lhs; unfold parseF
  rw [if_neg h1, if_pos h]
theorem parseF_nil (k : Nat) (out : List Entry) : parseF k [] out = some out := by
  cases k <;> rfl
end Go.Lz
namespace Go.Proofs.YtjngphffgdjcfaaGreatDoor
open Go.RowKit Go.Lz
section
variable {w : World}
theorem bytes_str {w' : World} {g off n c : Nat} {l : Bytes} (hl : l.length = n) (h : ∀ j, j < n → w'.cell? ⟨g, off + j, none⟩ = some (u8v (l.getD j 0))) : (convert 23 9 (.slice (some ⟨g, off, none⟩) n c)).run Tryz.prog w' = .ok (.string (bmk l)) w' := by
  subst hl
  refine run_convert_bytes_back (P := Tryz.prog) w' 23 9 5 ⟨g, off, none⟩ c l Tryz.underlying23 Tryz.underlying5 Tryz.underlying9 (fun i hi => ?_)
  rw [show (⟨g, off, none⟩ : Addr).add i = ⟨g, off + i, none⟩ from by unfold Addr.add; split <;> simp_all, h i hi]
  simp [List.getD, hi, u8v]
theorem clipE_any (w : World) (a : Option Addr) (n c : Nat) (hn : n ≤ c) (ha : a = none → c = 0) :
    Calls Tryz.prog 76 #[.slice a n c] w fun e w' => e = .returned (.slice a n n) ∧ w = w' := by
  cases a with
  | none =>
    have := ha rfl
    obtain rfl : n = 0 := by omega
    go_enter Tryz.func76, Tryz.ntmps76
    go_wp2
    go_ret
    exact ⟨rfl, rfl⟩
  | some p =>
    go_enter Tryz.func76, Tryz.ntmps76
    go_wp2
    go_ret
    exact ⟨rfl, rfl⟩
theorem wpList_append_run {P : Program} {ops : Array Oper} {rest : List Oper} {o : Oper} {a : Act} {Q : Exit → Act → World → Prop} {w w' : World} (hgd : o.guard = none) (s x : Operand) (t : TypeId) (ho : o.op = .call { callee := .builtin .append, args := #[s, x], argTypes := #[t, t] }) {v vx v' : Value} (hs : a.eval s = v) (hx : a.eval x = vx)
    (hrun : (Builtin.append_ #[t, t] o.type #[v, vx]).run P w = .ok v' w') (h : wpList P ops Q rest (a.put o.dst v') w') : wpList P ops Q (o :: rest) a w := by
  refine wpList_plain hgd fun K hK' => ?_
  unfold Oper.wp
  simp [execOp, ho, resolve, invoke, builtin, hs, hx, hrun, Result.andThen]
  exact hK' _ _ h
/-- What parse tells. -/
def ParseRes (w : World) (r : Option (List Entry)) (e : Ending) (w' : World) : Prop :=
  Below w.heap.size w w' ∧ ∃ v' ok, e = .returned (.tuple #[v', .bool ok]) ∧ match r with
    | none => ok = false ∧ v' = .slice none 0 0
    | some l => ok = decide (l.length ≤ 32) ∧ EntsC w' (fun k => w.heap.size ≤ k) v' l
set_option maxRecDepth 100000 in
set_option maxHeartbeats 4000000 in
theorem parse_any {v : Value} {b : Bytes} (hb : EB w v b) (hbl : b.length ≤ 3000) (hT : ∀ w', Below w.heap.size w w' → Tabs w') :
    Calls Tryz.prog 38 #[v] w (ParseRes w (parseF b.length b [])) := by
  obtain ⟨R, hR⟩ : ∃ R, R = parseF b.length b [] := ⟨_, rfl⟩
  rw [← hR]
  have hRH : Hid _ := Lib.hid hR
  have hbH : Hid _ := Lib.hid hb
  have hTH : Hid _ := Lib.hid hT
  clear hR hb hT
  go_enter Tryz.func38, Tryz.ntmps38
  go_wp2_with fail
  go_loopg [0, 4, 2, 3, 5, 6, 7, 8, 9, 10, 11, 12, 13, 14, 15, 16, 17, 18, 19, 20, 21, 22, 23, 24, 25, 26, 27, 28, 29, 30, 31, 32, 33, 34, 35, 36, 37, 38, 39, 40, 41, 42, 43, 44, 45, 46, 47, 48, 49, 50, 51, 52, 53, 54, 55, 56, 57, 58, 59, 60, 61, 62, 63, 64, 65, 66, 67, 68, 69] b.length (fun g bv ov _ _ _ _ _ _ _ _ _ _ _ _ _ _ _ _ _ _ _ _ _ _ _ _ _ _ _ _ _ _ _ _ _ _ _ _ _ _ _ _ _ _ _ _ _ _ _ _ _ _ _ _ _ _ _ _ _ _ _ _ _ _ _ _ _ _ _ wr => ∃ (rest : Bytes) (out : List Entry), rest.length ≤ g ∧ rest.length ≤ 3000 ∧ out.length + rest.length ≤ 3000 ∧ EB w bv rest ∧ R = parseF g rest out ∧ wr.ownsRow w.heap.size 41 2 ov out.length (out.flatMap entC) ∧ Below w.heap.size w wr)
  case atStart => exact ⟨b, [], Nat.le_refl _, hbl, by simpa using hbl, hbH.out, hRH.out, ⟨rfl, .inl ⟨rfl, rfl⟩⟩, Below.refl _ _⟩
  case round =>
    obtain ⟨rest, out, hg, hr3, hor, ⟨ad, c, rfl, hnc, hcm, hcell⟩, hRf, hrow, hB⟩ := hrel
    rename World => wr
    have hrowH : Hid _ := Lib.hid hrow
    have hBH : Hid _ := Lib.hid hB
    have hRfH : Hid _ := Lib.hid hRf
    clear hrow hB hRf hRH hbH
    cases rest with
    | nil =>
      have hRs : R = some out := by rw [hRfH.out, parseF_nil]
      have hlo : out.length ≤ 3000 := by omega
      have hl0 : ([] : Bytes).length = 0 := rfl
      have hlo2 : out.length ≤ 9223372036854775807 := by omega
      have hrow := hrowH.out
      have hRsH : Hid _ := Lib.hid hRs
      clear hcell hRs
      rcases hrow.2 with ⟨rfl, h0⟩ | ⟨go, co, cur, rfl, r1, r2, r3, r4, r5, r6⟩
      · have hnil : out = [] := List.length_eq_zero_iff.1 h0
        have hnilH : Hid _ := Lib.hid hnil
        clear hrow hnil h0
        go_wp2_with (go_at_call 76; refine (clipE_any wr none 0 0 (Nat.le_refl _) (fun _ => rfl)).mono ?_; rintro e w8 ⟨rfl, rfl⟩)
        go_ret2
        refine ⟨hBH.out, _, _, rfl, ?_⟩
        rw [hRsH.out, hnilH.out]
        exact ⟨rfl, by simp, .inl ⟨rfl, rfl⟩⟩
      · have r6H : Hid _ := Lib.hid r6
        clear hrow r6
        go_wp2_with (go_at_call 76; refine (clipE_any wr (some ⟨go, 0, none⟩) out.length co r3 (fun h => by cases h)).mono ?_; rintro e w8 ⟨rfl, rfl⟩)
        go_ret2
        refine ⟨hBH.out, _, _, rfl, ?_⟩
        rw [hRsH.out]
        exact ⟨by first | rfl | exact decide_eq_decide.2 (by omega) | simp, hlo2, .inr ⟨go, cur, rfl, r1, r2, r6H.out⟩⟩
    | cons x r =>
      obtain ⟨k, rfl⟩ : ∃ k, gk = k + 1 := ⟨gk - 1, by rw [List.length_cons] at hg; omega⟩
      obtain ⟨g, off, rfl, hgl0, hcl0⟩ := hcell.resolve_left (by simp)
      have hgl := Nat.lt_of_lt_of_le hgl0 hBH.out.size
      have hcl : ∀ j, j < (x :: r).length → wr.cell? ⟨g, off + j, none⟩ = some (u8v ((x :: r).getD j 0)) := fun j hj => (hBH.out.cell (p := ⟨g, off + j, none⟩) hgl0).trans (hcl0 j hj)
      have hcl0H : Hid _ := Lib.hid hcl0
      clear hcl0
      rw [List.length_cons] at hg hr3 hor hnc hcl ⊢
      obtain ⟨m, hm⟩ : ∃ m, m = r.length + 1 := ⟨_, rfl⟩
      obtain ⟨nn, hnn⟩ : ∃ nn, nn = x.toNat := ⟨_, rfl⟩
      obtain ⟨nd, hnd⟩ : ∃ nd, nd = (r.getD nn 0).toNat := ⟨_, rfl⟩
      have hnd256 : nd < 256 := by rw [hnd]; exact (r.getD nn 0).toNat_lt
      have hn256 : nn < 256 := by rw [hnn]; exact x.toNat_lt
      rw [← hm] at hg hr3 hor hnc hcl ⊢
      have hm0 : 0 < m := by omega
      have hm0z : (0 : Int) < (m : Int) := by omega
      have q0 : wr.cell? ⟨g, off, none⟩ = some (.int .u8 (nn : Int)) := by
        have := hcl 0 (by omega)
        rw [hnn]
        exact this
      have hnnH : Hid _ := Lib.hid hnn
      have hmH : Hid _ := Lib.hid hm
      clear hcell
      by_cases hs : m < nn + 2
      · have hsz : (m : Int) < (nn : Int) + 2 := by omega
        have hn0 := parseF_short (k := k) (x := x) (r := r) (out := out) (by rw [← hnn]; omega)
        clear hnn hm hcl hnd
        go_wp2_with fail
        go_ret2
        exact ⟨hBH.out, _, _, rfl, by rw [hRfH.out, hn0]; exact ⟨rfl, rfl⟩⟩
      · have hsz : ¬ (m : Int) < (nn : Int) + 2 := by omega
        have hc1 : ¬ c = 1 := by omega
        have hnc1 : nn + 1 ≤ c := by omega
        have hnc1z : (nn : Int) + 1 ≤ (c : Int) := by omega
        have hix : nn + 1 < m := by omega
        have hixz : (nn : Int) + 1 < (m : Int) := by omega
        have hi0 : (0 : Int) ≤ (nn : Int) + 1 := by omega
        have hi1 : (1 : Int) ≤ (nn : Int) + 1 := by omega
        have e1 : ((nn : Int) + 1).toNat = nn + 1 := by omega
        have q1 : wr.cell? ⟨g, off + (nn + 1), none⟩ = some (.int .u8 (nd : Int)) := by
          have := hcl (nn + 1) (by omega)
          rw [hnd]
          exact this
        have hst : ∀ W, Below wr.heap.size wr W → ∀ cc, (convert 23 9 (.slice (some ⟨g, off + 1, none⟩) nn cc)).run Tryz.prog W = .ok (.string (bmk (r.take nn))) W := fun W hW cc => bytes_str (by rw [List.length_take]; omega) (fun j hj => by
          have h1 := hcl (1 + j) (by omega)
          rw [← Nat.add_assoc] at h1
          refine (hW.cell (p := ⟨g, off + 1 + j, none⟩) hgl).trans ?_
          rw [h1, show 1 + j = j + 1 by omega]
          have h2 : j < r.length := by omega
          simp [List.getD, h2, hj])
        have hst0 := hst ((wr.alloc (.cells #[.string ⟨#[]⟩, .int .i64 0] 41)).drew) ((Below.refl _ wr).alloc (Nat.le_refl _) _).drew (c - 1)
        have hst1 := hst wr.drew (Below.refl _ wr).drew (c - 1)
        have q1a : (wr.alloc (.cells #[.string ⟨#[]⟩, .int .i64 0] 41)).cell? ⟨g, off + (nn + 1), none⟩ = _ := (World.cell?_alloc_lt _ _ _ hgl).trans q1
        have hclH : Hid _ := Lib.hid hcl
        have hstH : Hid _ := Lib.hid hst
        have hndH : Hid _ := Lib.hid hnd
        clear hnn hm hcl hst hnd
        go_upto_region 6 with fail
        go_cut [6] from 19 to 30 (fun pv wx => pv = .pointer (some ⟨wr.heap.size, 0, none⟩) ∧ wx = (wr.alloc (.cells #[.string (bmk (r.take nn)), .int .i64 (nd : Int)] 41)).drew)
        case first =>
          go_big_region
          all_goals
            go_wp2_with fail
            go_meet
            case rel => exact ⟨rfl, rfl⟩
        case rest =>
        obtain ⟨rfl, hwx⟩ := hcut
        rw [hwx]
        clear hwx
        have hbo := heap_alloc_new wr (.cells #[.string (bmk (r.take nn)), .int .i64 (nd : Int)] 41)
        have hB1 : Below wr.heap.size wr (wr.alloc (.cells #[.string (bmk (r.take nn)), .int .i64 (nd : Int)] 41)).drew := ((Below.refl _ wr).alloc (Nat.le_refl _) _).drew
        have hbo1 : (wr.alloc (.cells #[.string (bmk (r.take nn)), .int .i64 (nd : Int)] 41)).drew.heap[wr.heap.size]? = _ := hbo
        clear hbo hst0 hst1 q1 q1a q0
        generalize (wr.alloc (.cells #[.string (bmk (r.take nn)), .int .i64 (nd : Int)] 41)).drew = W1 at *
        obtain ⟨bo, hboe⟩ : ∃ bo, bo = wr.heap.size := ⟨_, rfl⟩
        rw [← hboe] at hbo1 ⊢
        have hBw := hBH.out.trans (hB1.mono hBH.out.size)
        have hTw : ∀ w', Below W1.heap.size W1 w' → Tabs w' := fun w' h => hTH.out w' (hBw.trans (h.mono hBw.size))
        obtain ⟨nm, hnme⟩ : ∃ nm, nm = r.take nn := ⟨_, rfl⟩
        rw [← hnme] at hbo1
        have hsz : (bmk nm).size ≤ 9223372036854775807 := by
          show nm.length ≤ _
          rw [hnme, List.length_take]
          omega
        have cN : ∀ W : BelowOf W1, Calls Tryz.prog 21 #[.string (bmk nm)] W.val fun e w'' => e = .returned (.bool (nameD (bmk nm))) ∧ ∃ q : BelowOf W1, w'' = q.val := fun W => Calls.below_of (name_any (bmk nm) W.val hsz (fun w' h => hTw w' (W.prop.trans (h.mono W.prop.size))))
        have c0 : ∀ W : BelowOf W1, W.val.cell? ⟨bo, 0, none⟩ = some (.string (bmk nm)) := fun W => (W.prop.cell (p := ⟨bo, 0, none⟩) (lt_of_heap hbo1)).trans (cell_of hbo1 0)
        have c1 : ∀ W : BelowOf W1, W.val.cell? ⟨bo, 1, none⟩ = some (.int .i64 (nd : Int)) := fun W => (W.prop.cell (p := ⟨bo, 1, none⟩) (lt_of_heap hbo1)).trans (cell_of hbo1 1)
        obtain ⟨gd, hgd⟩ : ∃ gd, gd = (goodE (nm, nd) && riseE out (nm, nd)) := ⟨_, rfl⟩
        have hgdH : Hid _ := Lib.hid hgd
        have hnmH : Hid _ := Lib.hid hnme
        have hbo1H : Hid _ := Lib.hid hbo1
        have hBwH : Hid _ := Lib.hid hBw
        have hB1H : Hid _ := Lib.hid hB1
        clear hgd hnme hbo1 hBw hTw hsz hboe hB1
        go_upto_region 7 with fail
        go_cut [61] from 31 to 60 (fun v wx => v = .bool (!gd) ∧ Below W1.heap.size W1 wx)
        case first =>
          cases hn1 : nameD (bmk nm) with
          | false =>
            rw [hn1] at cN
            have hg0 : gd = false := by rw [hgdH.out]; unfold goodE; rw [show nameD (bmk (nm, nd).1) = false from hn1]; rfl
            refine wp_region_below (by kernel_rfl) (by kernel_rfl) ?_
            repeat (any_goals (first | go_big_quiet_skip | quiet_step (first
              | (go_at_call 21; with_reducible exact cN _))))
            refine wpQuiet_nil ?_
            rintro wq ⟨⟨_, hq⟩, rfl⟩
            go_wp2_with fail
            go_meet
            case rel => exact ⟨by rw [hg0]; rfl, hq⟩
          | true =>
            rw [hn1] at cN
            by_cases h1 : nd < 1
            · have b1 : decide ((nd : Int) < 1) = true := decide_eq_true (by omega)
              have hg0 : gd = false := by rw [hgdH.out]; unfold goodE; rw [decide_eq_false (show ¬ 1 ≤ (nm, nd).2 by show ¬ 1 ≤ nd; omega)]; simp
              refine wp_region_below (by kernel_rfl) (by kernel_rfl) ?_
              repeat (any_goals (first | go_big_quiet_skip | quiet_step (first
                | (go_at_call 21; with_reducible exact cN _))))
              refine wpQuiet_nil ?_
              rintro wq ⟨⟨_, hq⟩, rfl⟩
              go_wp2_with fail
              go_meet
              case rel => exact ⟨by rw [hg0]; rfl, hq⟩
            · have b1 : decide ((nd : Int) < 1) = false := decide_eq_false (by omega)
              by_cases h64 : 64 < nd
              · have b2 : decide ((64 : Int) < (nd : Int)) = true := decide_eq_true (by omega)
                have b2n : decide (64 < nd) = true := decide_eq_true h64
                have hg0 : gd = false := by rw [hgdH.out]; unfold goodE; rw [decide_eq_false (show ¬ (nm, nd).2 ≤ 64 by show ¬ nd ≤ 64; omega)]; simp
                refine wp_region_below (by kernel_rfl) (by kernel_rfl) ?_
                repeat (any_goals (first | go_big_quiet_skip | quiet_step (first
                  | (go_at_call 21; with_reducible exact cN _))))
                refine wpQuiet_nil ?_
                rintro wq ⟨⟨_, hq⟩, rfl⟩
                go_wp2_with fail
                go_meet
                case rel => exact ⟨by rw [hg0]; rfl, hq⟩
              · have b2 : decide ((64 : Int) < (nd : Int)) = false := decide_eq_false (by omega)
                have b2n : decide (64 < nd) = false := decide_eq_false h64
                have hgE : goodE (nm, nd) = true := by unfold goodE; rw [show nameD (bmk (nm, nd).1) = true from hn1, decide_eq_true (show 1 ≤ (nm, nd).2 by show 1 ≤ nd; omega), decide_eq_true (show (nm, nd).2 ≤ 64 by show nd ≤ 64; omega)]; rfl
                have hrow := hrowH.out
                rcases hrow.2 with ⟨rfl, hl0⟩ | ⟨go, co, cur, rfl, r1, r2, r3, r4, r5, r6⟩
                · have hnil : out = [] := List.length_eq_zero_iff.1 hl0
                  have hg1 : gd = true := by rw [hgdH.out, hgE, hnil]; rfl
                  clear hrow
                  refine wp_region_below (by kernel_rfl) (by kernel_rfl) ?_
                  repeat (any_goals (first | go_big_quiet_skip | quiet_step (first
                    | (go_at_call 21; with_reducible exact cN _))))
                  refine wpQuiet_nil ?_
                  rintro wq ⟨⟨_, hq⟩, rfl⟩
                  go_wp2_with fail
                  go_meet
                  case rel => exact ⟨by rw [hg1]; rfl, hq⟩
                · by_cases hl0 : out.length = 0
                  · have hnil : out = [] := List.length_eq_zero_iff.1 hl0
                    have hg1 : gd = true := by rw [hgdH.out, hgE, hnil]; rfl
                    have hl0z : (out.length : Int) = 0 := by omega
                    have b3 : decide ((0 : Int) < (out.length : Int)) = false := decide_eq_false (by omega)
                    have b3n : decide (0 < out.length) = false := decide_eq_false (by omega)
                    clear hrow hnil hl0 hl0z
                    refine wp_region_below (by kernel_rfl) (by kernel_rfl) ?_
                    repeat (any_goals (first | go_big_quiet_skip | quiet_step (first
                      | (go_at_call 21; with_reducible exact cN _))))
                    refine wpQuiet_nil ?_
                    rintro wq ⟨⟨_, hq⟩, rfl⟩
                    go_wp2_with fail
                    go_meet
                    case rel => exact ⟨by rw [hg1]; rfl, hq⟩
                  · obtain ⟨lo, hlo⟩ : ∃ lo, lo = out.length := ⟨_, rfl⟩
                    obtain ⟨y, hy⟩ : ∃ y, out.getLast? = some y := by
                      cases e : out.getLast? with
                      | none => rw [List.getLast?_eq_none_iff] at e; rw [e] at hl0; exact absurd rfl hl0
                      | some y => exact ⟨y, rfl⟩
                    have hyl : out[lo - 1]? = some y := by rw [List.getLast?_eq_getElem?] at hy; rw [hlo]; exact hy
                    have hcy := (entC_at out (lo - 1) y hyl).1
                    have cl : ∀ W : BelowOf W1, W.val.cell? ⟨go, (lo - 1) * 2, none⟩ = some (.string (bmk y.1)) := fun W => by
                      have hgo : go < wr.heap.size := lt_of_heap r2
                      refine ((hB1H.out.trans (W.prop.mono hB1H.out.size)).cell (p := ⟨go, (lo - 1) * 2, none⟩) hgo).trans ?_
                      rw [cell_of r2, Nat.mul_comm, ← Array.getElem?_toList]
                      rw [← r6, List.getElem?_take] at hcy
                      split at hcy
                      · exact hcy
                      · cases hcy
                    have hlp : 0 < lo := by omega
                    have b3 : decide ((0 : Int) < (lo : Int)) = true := decide_eq_true (by omega)
                    have b3n : decide (0 < lo) = true := decide_eq_true hlp
                    have hwl : IntKind.i64.wrap ((lo : Int) - 1) = ((lo - 1 : Nat) : Int) := by rw [IntKind.wrap_i64]; omega
                    have hl1 : (0 : Int) ≤ ((lo - 1 : Nat) : Int) := by omega
                    have hl2 : ((lo - 1 : Nat) : Int) < (lo : Int) := by omega
                    have hl3 : lo - 1 < lo := by omega
                    have hgr : gd = Op.bytesLess (bmk y.1).toList (bmk nm).toList := by rw [hgdH.out, hgE]; unfold riseE; rw [hy]; rfl
                    subst hlo
                    clear hrow hl0 hcy r3 r4 r5 r6
                    cases hbl2 : Op.bytesLess (bmk y.1).toList (bmk nm).toList with
                    | false =>
                      rw [hbl2] at hgr
                      refine wp_region_below (by kernel_rfl) (by kernel_rfl) ?_
                      repeat (any_goals (first | go_big_quiet_skip | quiet_step (first
                        | (go_at_call 21; with_reducible exact cN _))))
                      refine wpQuiet_nil ?_
                      rintro wq ⟨⟨_, hq⟩, rfl⟩
                      go_wp2_with fail
                      go_meet
                      case rel => exact ⟨by rw [hgr]; rfl, hq⟩
                    | true =>
                      rw [hbl2] at hgr
                      refine wp_region_below (by kernel_rfl) (by kernel_rfl) ?_
                      repeat (any_goals (first | go_big_quiet_skip | quiet_step (first
                        | (go_at_call 21; with_reducible exact cN _))))
                      refine wpQuiet_nil ?_
                      rintro wq ⟨⟨_, hq⟩, rfl⟩
                      go_wp2_with fail
                      go_meet
                      case rel => exact ⟨by rw [hgr]; rfl, hq⟩
        case rest =>
          obtain ⟨rfl, hq⟩ := hcut
          rename World => wx
          have hhd : headE x.toNat r = (nm, nd) := by
            unfold headE
            rw [← hnnH.out, ← hnmH.out, ← hndH.out]
          have hshort : ¬ r.length < x.toNat + 1 := by rw [← hnnH.out]; have := hmH.out; omega
          have hqH : Hid _ := Lib.hid hq
          clear cN c0 c1
          cases hgv : gd with
          | false =>
            have hbad := parseF_bad (k := k) (x := x) (r := r) (out := out) (by rw [hhd, ← hgdH.out, hgv])
            have hRn : R = none := by rw [hRfH.out, hbad]
            clear hbad hq
            go_wp2_with fail
            go_ret2
            exact ⟨hBwH.out.trans (hqH.out.mono hBwH.out.size), _, _, rfl, by first | exact ⟨rfl, rfl⟩ | (rw [hRn]; exact ⟨rfl, rfl⟩)⟩
          | true =>
            have hstep := parseF_step (k := k) (x := x) (r := r) (out := out) hshort (by rw [hhd, ← hgdH.out, hgv])
            rw [hhd] at hstep
            have hRn : R = parseF k (r.drop (nn + 1)) (out ++ [(nm, nd)]) := by rw [hRfH.out, hstep, ← hnnH.out]
            have hbx := (hq.block bo (lt_of_heap hbo1H.out)).trans hbo1H.out
            have c0 := cell_of hbx 0
            have c1 := cell_of hbx 1
            have hBx := hBwH.out.trans (hq.mono hBwH.out.size)
            obtain ⟨i0, hi0, hz0, hz1, hz2⟩ := info_parts (show (Tryz.prog.info? 41).map (fun i => (i.zero, i.size, i.bytes)) = some (some (.agg #[.string ⟨#[]⟩, .int .i64 0]), 2, 24) by kernel_rfl)
            have hBa : Below w.heap.size w (wx.alloc (.cells #[.string (bmk nm), .int .i64 (nd : Int)] 41)) := hBx.trans ((Below.refl w.heap.size wx).alloc hBx.size _)
            have hrowX := ownsRow_below (w' := wx.alloc (.cells #[.string (bmk nm), .int .i64 (nd : Int)] 41)) hrowH.out ((hB1H.out.trans (hq.mono hB1H.out.size)).trans ((Below.refl wr.heap.size wx).alloc (Nat.le_trans hB1H.out.size hq.size) _))
            have hnews : ∀ j u, (entC (nm, nd))[j]? = some u → (wx.alloc (.cells #[.string (bmk nm), .int .i64 (nd : Int)] 41)).cell? ((⟨wx.heap.size, 0, none⟩ : Addr).add j) = some u := fun j u hu => by
              have e : (⟨wx.heap.size, 0, none⟩ : Addr).add j = ⟨wx.heap.size, j, none⟩ := by unfold Addr.add; split <;> simp_all
              rw [e, cell_of (heap_alloc_new wx _)]
              unfold entC at hu
              match j with
              | 0 => exact hu
              | 1 => exact hu
              | j + 2 => simp at hu
            obtain ⟨v', w', hrun, hown, hgr, _, _⟩ := run_append_own_at (P := Tryz.prog) (wx.alloc (.cells #[.string (bmk nm), .int .i64 (nd : Int)] 41)) w.heap.size 37 37 41 i0 _ 2 24 Tryz.underlying37 hi0 hz0 hz1 hz2 rfl (by decide) _ out.length (out.flatMap entC) hrowX ⟨wx.heap.size, 0, none⟩ 1 1 (entC (nm, nd)) rfl hnews (by simp [entC, Value.oneCell']) (by unfold maxLen; omega) (by omega) hBa.size
            have hBn : Below w.heap.size w w' := hBa.grown hgr hBa.size (fun k hk => (hrowX.lt k hk).1)
            have hrown : w'.ownsRow w.heap.size 41 2 v' (out ++ [(nm, nd)]).length ((out ++ [(nm, nd)]).flatMap entC) := by
              rw [List.length_append, List.flatMap_append]
              simpa using hown
            have hBr : Below wr.heap.size wr w' → True := fun _ => trivial
            obtain ⟨rest', hrest⟩ : ∃ rest', rest' = r.drop (nn + 1) := ⟨_, rfl⟩
            have hrl : rest'.length = m - (nn + 2) := by rw [hrest, List.length_drop]; have := hmH.out; omega
            have hcells' : ∀ j, j < rest'.length → w.cell? ⟨g, off + (nn + 2) + j, none⟩ = some (u8v (rest'.getD j 0)) := fun j hj => by
              have h1 := hcl0H.out (nn + 2 + j) (by rw [List.length_cons]; have := hmH.out; omega)
              rw [← Nat.add_assoc] at h1
              rw [h1, hrest]
              have h2 : nn + 1 + j < r.length := by have := hmH.out; omega
              have e3 : (x :: r).getD (nn + 2 + j) 0 = r.getD (nn + 1 + j) 0 := by rw [show nn + 2 + j = (nn + 1 + j) + 1 by omega]; rfl
              rw [e3]
              simp [List.getD, List.getElem?_drop]
            have hBnH : Hid _ := Lib.hid hBn
            have hrownH : Hid _ := Lib.hid hrown
            have hrunH : Hid _ := Lib.hid hrun
            have hRnH : Hid _ := Lib.hid hRn
            have hcH : Hid _ := Lib.hid hcells'
            have hrlH : Hid _ := Lib.hid hrl
            have hrestH : Hid _ := Lib.hid hrest
            have hc2 : nn + 2 ≤ c := by omega
            have hc2z : (nn : Int) + 2 ≤ (c : Int) := by omega
            have hm2 : nn + 2 ≤ m := by omega
            have hm2z : (nn : Int) + 2 ≤ (m : Int) := by omega
            have hn2z : (0 : Int) ≤ (nn : Int) + 2 := by omega
            have e2 : ((nn : Int) + 2).toNat = nn + 2 := by omega
            clear hBn hrown hrun hRn hcells' hrl hrest hown hgr hrowX hnews hBa hBx hbx hq hstep hBr
            by_cases hcn : c = nn + 2
            case' pos =>
              have hcnH : Hid _ := Lib.hid hcn
              go_upto_region 9 with fail
            case' neg =>
              go_upto_region 9 with fail
            all_goals
              go_step
              go_step
              go_step
              go_step
              go_step
              go_step
              go_step
              go_step
              go_step
              go_step
              refine wpList_append_run rfl _ _ 37 rfl rfl rfl hrunH.out ?_
              go_frame
              go_wp2_with fail
              go_roundg k
            case' measure => omega
            all_goals first
              | (have h1 := hrlH.out; have h2 := hcnH.out; exact ⟨rest', out ++ [(nm, nd)], by omega, by omega, by rw [List.length_append]; simp; omega, ⟨some ⟨g, off, none⟩, 0, by rw [h1], by omega, by decide, .inl (by omega)⟩, by rw [hRnH.out, hrestH.out], hrownH.out, hBnH.out⟩)
              | (have h1 := hrlH.out; exact ⟨rest', out ++ [(nm, nd)], by omega, by omega, by rw [List.length_append]; simp; omega, ⟨some ⟨g, off + (nn + 2), none⟩, c - (nn + 2), by rw [h1], by omega, by omega, .inr ⟨g, off + (nn + 2), rfl, hgl0, hcH.out⟩⟩, by rw [hRnH.out, hrestH.out], hrownH.out, hBnH.out⟩)
              | omega
end
end Go.Proofs.YtjngphffgdjcfaaGreatDoor
