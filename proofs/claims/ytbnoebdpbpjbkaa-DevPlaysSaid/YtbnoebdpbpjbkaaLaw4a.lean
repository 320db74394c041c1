/-
  The statements' own small functions of layer 4: a store on a new device, a sector of a kind.
-/
import Derived.Test.YtbnoebdpbpjbkaaWalH
import Derived.Test.YtbnoebdpbpjbkaaWal9
import Derived.Test.YtbnoebdpbpjbkaaOwn
namespace Go.Proofs.Ytbnoebdpbpjbkaa
open Go.RowKit Go.Lz

/-- The thing is a store; a device. -/
def TStore (p q : Nat) (S : WalS) : World → (Nat → Prop) → Prop := fun w F => StoreAt Try.prog w p q S F
def TDev (q : Nat) (D : DevS) : World → (Nat → Prop) → Prop := fun w F => DevAt Try.prog w q D F
theorem keepsStore (p q : Nat) (S : WalS) : Keeps (TStore p q S) := fun _ _ _ _ h hc hM => StoreAt.chg h hc hM
theorem keepsDev (q : Nat) (D : DevS) : Keeps (TDev q D) := fun _ _ _ _ h hc hM => DevAt.chg h hc hM

/-- A store of a new device of n sectors. -/
def newS (n : Nat) : WalS := WalS.new (DevS.new n).opened.2

theorem new_rec {n : Nat} (hn : 300 < n) (hn2 : n ≤ 8192) (h : Nat → Nat → Bytes) (h0 : ∀ k, k < n - 300 → h 0 k = zero64) : (DevS.new n).opened.1 = 0 ∧ Rec (newS n) (n - 300) 0 0 h ∧ Well (newS n).dev ∧ (newS n).now = (fun _ => none) := by
  have hw : Well (DevS.new n) := ⟨rfl, rfl⟩
  rcases Rec.opened (D := DevS.new n) (h := h) (DevS.ok_new hn2) hn rfl (fun _ => rfl) (new_reads n _) h0 with ⟨h1, h2, h3⟩ | ⟨_, _, _, _, _, h6⟩
  · exact ⟨h1, h2, h3 hw, rfl⟩
  · exact absurd hw h6

def OpenLaw (w : World) (n : Nat) (e : Ending) (w' : World) : Prop := ∃ p q, e = .returned (.tuple #[Dptr q, Dptr p]) ∧ Own w w' (TStore p q (newS n)) noLocals

set_option maxRecDepth 100000 in
theorem lw4Open_any (w : World) (n : Nat) (hn : 300 < n) (hn2 : n ≤ 8192) : Calls Try.prog 36 #[.int .i64 (n : Int)] w (OpenLaw w n) := by
  obtain ⟨ho, _⟩ := new_rec hn hn2 (fun _ _ => zero64) (fun _ _ => rfl)
  have hoH : Hid _ := Lib.hid ho
  clear ho
  go_enter Try.func36, Try.ntmps36
  go_wp2_with fail
  refine (new_ok w n hn2).mono ?_
  rintro e w1 ⟨q, rfl, hD1, hB1⟩
  go_wp2_with fail
  refine (wopen_any hD1).mono ?_
  rintro e w2 h2
  rcases h2 with ⟨h0, p, rfl, hS, hC⟩ | ⟨h0, _⟩
  · have hs1 := hB1.size
    have hs2 := hC.size
    clear h0
    go_wp2_with fail
    go_ret2
    refine ⟨p, q, rfl, Own.start hS (fun k hk => ?_) (hB1.trans (hC.belowB hB1.size (fun j hj h => by have := h.1; omega)))⟩
    rcases hk with hk | hk
    · exact ⟨hk.1, by omega⟩
    · exact ⟨by omega, hk.2⟩
  · exact absurd hoH.out h0

/-- A sector of a kind, in a row of its own. -/
def SectorPost (w : World) (k : Int) (e : Ending) (w' : World) : Prop := ∃ v g, e = .returned v ∧ Buf 5 w' g v (bytesOf k 64) ∧ w.heap.size ≤ g ∧ Below w.heap.size w w'

set_option maxRecDepth 100000 in
theorem sector_any (w : World) (k : Int) : Calls Try.prog 41 #[.int .i64 k] w (SectorPost w k) := by
  have hcv := run_bytes
  go_enter Try.func41, Try.ntmps41
  go_wp2_with fail
  refine (bytes_any k 64 w (by omega) (by omega)).mono ?_
  rintro e w1 ⟨rfl, hB1⟩
  go_wp2_with fail
  go_ret
  exact ⟨_, _, rfl, bytes64 w1 k, hB1.size, hB1.trans ((((Below.refl _ w1).alloc (Nat.le_refl _) _).drew).mono hB1.size)⟩
end Go.Proofs.Ytbnoebdpbpjbkaa
