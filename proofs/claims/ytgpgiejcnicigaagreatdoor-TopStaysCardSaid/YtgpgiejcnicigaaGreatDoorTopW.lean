/- TopStays answers true, whatever n and both are. -/
import Derived.Test.YtgpgiejcnicigaaGreatDoorEv0t
import Derived.Test.YtgpgiejcnicigaaGreatDoorEv0f
import Derived.Test.YtgpgiejcnicigaaGreatDoorEv1t
import Derived.Test.YtgpgiejcnicigaaGreatDoorEv1f
import Derived.Test.YtgpgiejcnicigaaGreatDoorEv2t
import Derived.Test.YtgpgiejcnicigaaGreatDoorEv2f
import Derived.Test.YtgpgiejcnicigaaGreatDoorEv3t
import Derived.Test.YtgpgiejcnicigaaGreatDoorEv3f
import Derived.Test.YtgpgiejcnicigaaGreatDoorEv4t
import Derived.Test.YtgpgiejcnicigaaGreatDoorEv4f
import Derived.Test.YtgpgiejcnicigaaGreatDoorEv5t
import Derived.Test.YtgpgiejcnicigaaGreatDoorEv5f
import Derived.Test.YtgpgiejcnicigaaGreatDoorEv6t
import Derived.Test.YtgpgiejcnicigaaGreatDoorEv6f
import Derived.Test.YtgpgiejcnicigaaGreatDoorEv7t
import Derived.Test.YtgpgiejcnicigaaGreatDoorEv7f
namespace Go.Proofs.YtgpgiejcnicigaaGreatDoor.Sm
open Go.RowKit
open Go.Ev
theorem evs (X : Blk) (k : Nat) (hk : k < 8) (b : Bool) : isTrue (run X k b) = true :=
  match k, b with
  | 0, true => ev0t X
  | 0, false => ev0f X
  | 1, true => ev1t X
  | 1, false => ev1f X
  | 2, true => ev2t X
  | 2, false => ev2f X
  | 3, true => ev3t X
  | 3, false => ev3f X
  | 4, true => ev4t X
  | 4, false => ev4f X
  | 5, true => ev5t X
  | 5, false => ev5f X
  | 6, true => ev6t X
  | 6, false => ev6f X
  | 7, true => ev7t X
  | 7, false => ev7f X
  | n + 8, _ => absurd hk (by omega)
theorem top_law (a : Int) (b : Bool) (W : World) (ht : Lib.TabIs Tryz.prog W "internal/strconv.uint64pow10" .u64 Lib.pow10Tab) :
    Calls Tryz.prog 3 #[.int .i64 a, .bool b] W fun e w' => e = .returned (.bool true) ∧ Below W.heap.size W w' := by
  have hX : ((a.toNat : Nat) : Int) - ((-a).toNat : Nat) = a := by omega
  have hk : (a % 8).toNat < 8 := by omega
  have hk2 : a % 8 = ((a % 8).toNat : Nat) := by omega
  have := law_of (X := ⟨0, a.toNat, (-a).toNat⟩) (evs ⟨0, a.toNat, (-a).toNat⟩ _ hk b) (by show ((a.toNat : Nat) - ((-a).toNat : Nat) : Int) % 8 = _; rw [hX]; exact hk2) W ht
  rw [show ((⟨0, a.toNat, (-a).toNat⟩ : Blk).κ : Int) - (⟨0, a.toNat, (-a).toNat⟩ : Blk).δ = a from hX] at this
  exact this
end Go.Proofs.YtgpgiejcnicigaaGreatDoor.Sm
