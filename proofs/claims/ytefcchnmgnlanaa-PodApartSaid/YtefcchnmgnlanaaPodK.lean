/- The pod's example, as each law calls it first. -/
import Derived.Test.YtefcchnmgnlanaaPod
namespace Go.Proofs.Ytefcchnmgnlanaa
open Go.RowKit Go.Maps

theorem known_calls (w : World) : Calls Try.prog 9 #[] w fun e w' => e = .returned (.bool true) ∧ Below w.heap.size w w' := by
  go_enter Try.func9, Try.ntmps9
  go_wp2_with fail
  refine (new_calls _ _).mono ?_
  rintro e w1 ⟨p, mb, rfl, h1, hp, hm, hb⟩
  go_wp2_with fail
  refine (state_calls h1).mono ?_
  rintro e w2 ⟨rfl, rfl⟩
  go_wp2_with fail
  refine (load_calls h1).mono ?_
  rintro e w2 ⟨rfl, rfl⟩
  go_wp2_with fail
  have t := take_calls h1 1 (by decide) (by simp)
  rw [show PodM.take ⟨1, 1, []⟩ 1 = (9, ⟨1, 1, []⟩) from by simp [PodM.take]] at t
  refine t.mono ?_
  clear t
  rintro e w2 ⟨rfl, h2, hc2⟩
  have b2 := hc2.below_of hb (Nat.le_trans hb.size (Nat.le_refl _)) (fun k hk hF => by rcases hF with rfl | rfl <;> omega)
  clear hc2 h1 hb
  go_wp2_with fail
  have t := up_calls h2
  rw [show PodM.up ⟨1, 1, []⟩ = (0, ⟨2, 1, []⟩) from by simp [PodM.up]] at t
  refine t.mono ?_
  clear t
  rintro e w3 ⟨rfl, h3, hc3⟩
  have b3 := hc3.below_of b2 b2.size (fun k hk hF => by rcases hF with rfl | rfl <;> omega)
  clear hc3 h2 b2
  go_wp2_with fail
  have t := take_calls h3 1 (by decide) (by simp)
  rw [show PodM.take ⟨2, 1, []⟩ 1 = (0, ⟨2, 1, [1]⟩) from by simp [PodM.take]] at t
  refine t.mono ?_
  clear t
  rintro e w4 ⟨rfl, h4, hc4⟩
  have b4 := hc4.below_of b3 b3.size (fun k hk hF => by rcases hF with rfl | rfl <;> omega)
  clear hc4 h3 b3
  go_wp2_with fail
  refine (load_calls h4).mono ?_
  rintro e w5 ⟨rfl, rfl⟩
  go_wp2_with fail
  go_ret
  exact ⟨rfl, b4⟩

end Go.Proofs.Ytefcchnmgnlanaa
