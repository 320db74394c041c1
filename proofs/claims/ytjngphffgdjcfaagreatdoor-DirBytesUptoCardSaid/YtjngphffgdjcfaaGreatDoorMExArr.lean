/-
  Arrays of ints, by a function: reading, writing, whole copies. Lists of ints: the first some of them.
-/
import Derived.Test.YtjngphffgdjcfaaGreatDoorME0
import Derived.Deep.WholeRow
namespace Go.Lz
open Go.RowKit

/-- n ints as cells. -/
def arrOf (n : Nat) (f : Nat → Int) : Array Value := ((List.range n).map fun (k : Nat) => Value.int .i64 (f k)).toArray

@[simp] theorem arrOf_size (n : Nat) (f : Nat → Int) : (arrOf n f).size = n := by simp [arrOf]

theorem arrOf_at {n k : Nat} (f : Nat → Int) (h : k < n) : (arrOf n f)[k]? = some (.int .i64 (f k)) := by
  simp [arrOf, h]

theorem arrOf_set (n : Nat) (f : Nat → Int) (k : Nat) (x : Int) : (arrOf n f).setIfInBounds k (.int .i64 x) = arrOf n (upd f k x) := by
  apply Array.ext_getElem?
  intro i
  rw [Array.getElem?_setIfInBounds]
  by_cases hi : i < n
  · rw [arrOf_at _ hi]
    by_cases e : k = i
    · subst e
      rw [arrOf_at _ hi]
      simp [hi]
    · rw [if_neg e, arrOf_at _ hi, upd_other _ (by omega)]
  · have h1 : (arrOf n f)[i]? = none := by simp [arrOf]; omega
    have h2 : (arrOf n (upd f k x))[i]? = none := by simp [arrOf]; omega
    rw [h1, h2]
    split
    · rw [if_neg (by simpa using (by omega : ¬ k < n))]
    · rfl

theorem arrOf_one (n : Nat) (f : Nat → Int) : (arrOf n f).all (·.oneCell') = true := by
  refine Array.all_eq_true_iff_forall_mem.2 fun v hv => ?_
  simp only [arrOf, List.mem_toArray, List.mem_map] at hv
  obtain ⟨_, _, rfl⟩ := hv
  rfl

/-- Block b is an array of the n ints of f. (T: the block's type) -/
def ArrAt (T : TypeId) (w : World) (b n : Nat) (f : Nat → Int) : Prop := w.heap[b]? = some (.cells (arrOf n f) T (0, 0))

section
variable {T : TypeId} {w w' : World} {b n : Nat} {f : Nat → Int}

theorem ArrAt.lt (h : ArrAt T w b n f) : b < w.heap.size := lt_of_heap h
theorem ArrAt.chg {M : Nat → Prop} (h : ArrAt T w b n f) (hc : Chg M w w') (hM : ¬ M b) : ArrAt T w' b n f := (hc.block b h.lt hM).trans h
theorem ArrAt.cell (h : ArrAt T w b n f) {k : Nat} (hk : k < n) : w.cell? ⟨b, k, none⟩ = some (.int .i64 (f k)) := by rw [cell_of h, arrOf_at f hk]
theorem ArrAt.frozen (h : ArrAt T w b n f) (k : Nat) : w.frozen? ⟨b, k, none⟩ = false := frozen_of h k
theorem ArrAt.set (h : ArrAt T w b n f) (k : Nat) (x : Int) : ArrAt T (w.setCell ⟨b, k, none⟩ (.int .i64 x)) b n (upd f k x) := by
  have := heap_set_same h k (.int .i64 x)
  rwa [arrOf_set] at this
theorem ArrAt.setRow (h : ArrAt T w b n f) (g : Nat → Int) : ArrAt T (w.setRow b (arrOf n g)) b n g := setRow_heap w b _ _ _ _ h
end

theorem Chg.setRow {M : Nat → Prop} {w w1 : World} (h : Chg M w w1) {b : Nat} (hb : b < w.heap.size → M b) (cs : Array Value) : Chg M w (w1.setRow b cs) :=
  h.trans (M' := fun k => k = b) ⟨rfl, rfl, rfl, by simp, fun k _ hn => setRow_other w1 b k cs hn⟩ (fun j hj e => by subst e; exact hb hj)

theorem Chg.ownRow {p : Nat} {w w1 : World} (h : Chg (· = p) w w1) (cs : Array Value) : Chg (· = p) w (w1.setRow p cs) := h.setRow (fun _ => rfl) cs

section
variable {P : Program} {T T' e : TypeId} {w : World} {b n : Nat} {f : Nat → Int}
theorem ArrAt.run_load (h : ArrAt T w b n f) (hu : P.underlying T' = some (.array n e)) (hi : (P.info? T').map (·.size) = some n) : (Instr.loadAt T' (.pointer (some ⟨b, 0, none⟩))).run P w = .ok (.agg (arrOf n f)) w := by
  simp only [Instr.loadAt, Instr.sureAddr, Sem.run_bind, Sem.run_pure, Result.andThen_ok]
  exact run_loadVar_row w b T T' (arrOf n f) (0, 0) _ h hu rfl (by rw [arrOf_size]; exact hi)
theorem ArrAt.run_store (h : ArrAt T w b n f) (g : Nat → Int) (hi : (P.info? T').map (·.size) = some n) : (Instr.storeAt T' (.pointer (some ⟨b, 0, none⟩)) (.agg (arrOf n g))).run P w = .ok () (w.setRow b (arrOf n g)) := by
  simp only [Instr.storeAt, Instr.sureAddr, Sem.run_bind, Sem.run_pure, Result.andThen_ok]
  exact run_storeVar_row w b T T' (arrOf n f) (arrOf n g) h (by rw [arrOf_size]; exact hi) (by rw [arrOf_size, arrOf_size]) (arrOf_one n g)
end

/-- One int of the list is the one sought, among the first some. -/
theorem mem_take_succ {l : List Int} {j : Nat} {x : Int} (hj : j < l.length) : (decide (x ∈ l.take (j + 1))) = (decide (x ∈ l.take j) || decide (l.getD j 0 = x)) := by
  rw [List.take_add_one]
  have : l[j]? = some (l.getD j 0) := by simp [List.getD, hj]
  rw [this]
  simp only [List.mem_append, Option.toList_some, List.mem_singleton]
  rw [Bool.decide_or]
  congr 1
  exact decide_eq_decide.2 eq_comm

theorem IntsAt.here {w : World} {F : Nat → Prop} {v : Value} {l : List Int} (h : IntsAt w F v l) : IntsAt w (fun k => k < w.heap.size) v l := by
  obtain ⟨a, n, c, h1, h2, h3, h4⟩ := h
  refine ⟨a, n, c, h1, h2, h3, h4.imp id ?_⟩
  rintro ⟨b, off, h5, h6, h7, h8⟩
  exact ⟨b, off, h5, h7, h7, h8⟩
end Go.Lz
