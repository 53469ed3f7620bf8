/- PodWays: the walk. (Printed by gen_ways.py.) -/
import Derived.Test.YtefcchnmgnlanaaPodFills
import Derived.Test.YtefcchnmgnlanaaKill
import Derived.Deep.CutRange
namespace Go.Proofs.Ytefcchnmgnlanaa
open Go.RowKit Go.Maps

set_option maxRecDepth 100000 in
set_option maxHeartbeats 4000000 in
theorem ways0 (which n : Int) (w : World) (hk : Wi which 4 = 0) :
    Calls Try.prog 8 #[.int .i64 which, .int .i64 n] w fun e w' => e = .returned (.bool true) ∧ Below w.heap.size w w' := by
  have HK := Lib.hid hk
  clear hk
  go_enter Try.func8, Try.ntmps8
  go_wp2_with fail
  refine (known_calls _).mono ?_
  rintro e w1 ⟨rfl, hb1⟩
  go_wp2_with fail
  refine (new_calls _ _).mono ?_
  rintro e w2 ⟨p, mb, rfl, h2, hp, hm, hb2⟩
  have b2 : Below w.heap.size w w2 := hb1.trans (hb2.mono hb1.size)
  have hp' : w.heap.size ≤ p := Nat.le_trans hb1.size hp
  have hm' : w.heap.size ≤ mb := Nat.le_trans hb1.size hm
  clear hp hm hb1 hb2
  go_wp2_with fail
  refine (within_calls _ _ _ (by omega) (by omega)).mono ?_
  rintro e w3 ⟨rfl, rfl⟩
  rw [HK.out]
  clear HK
  go_upto_region 14 with fail
  go_cut [38] from 11 to 122 (fun s wx => s = .bool false ∧ PodAt wx p mb ⟨1, 2, []⟩ ∧ Below w.heap.size w wx)
  case first =>
    go_region_with (go_at_call 16; refine (state_calls (m := ⟨1, 2, []⟩) (mb := mb) ?_).mono ?_; (first | exact h2 | exact h2.chg (Chg.refl (fun _ => False) _).drew id id | exact h2.chg ((Chg.refl (fun _ => False) _).alloc _).drew id id); rintro e wz ⟨rfl, rfl⟩)
    all_goals (go_wp2_with fail; go_meet; exact ⟨rfl, h2.chg (by first | exact ((Chg.refl (fun _ => False) _).alloc _).drew) id id, by first | exact (b2.alloc b2.size _).drew⟩)
  case rest =>
    obtain ⟨rfl, hq, bq⟩ := hcut
    clear h2 b2
    have hi0 := Wi.lo (a := n) (n := 5) (by omega)
    have hi1 := Wi.hi (a := n) (n := 5) (by omega)
    go_wp2_with fail
    refine (within_calls _ _ _ (by omega) (by omega)).mono ?_
    rintro e wz ⟨rfl, rfl⟩
    rcases (show Wi n 5 = 0 ∨ Wi n 5 = 1 ∨ Wi n 5 = 2 ∨ Wi n 5 = 3 ∨ Wi n 5 = 4 by omega) with hs | hs | hs | hs | hs
    all_goals (rw [hs]; clear hs hi0 hi1)
    · go_wp2_with fail
      have t := up_calls hq
      rw [show PodM.up ⟨1, 2, []⟩ = (0, ⟨2, 2, []⟩) from by simp [PodM.up]] at t
      refine t.mono ?_
      clear t
      rintro e w8 ⟨rfl, h8, hc8⟩
      have b8 := hc8.below_of bq bq.size (fun k hk hF => by rcases hF with rfl | rfl <;> omega)
      clear hc8 hq bq
      go_wp2_with fail
      refine (state_calls h8).mono ?_
      rintro e wz ⟨rfl, rfl⟩
      go_wp2_with fail
      go_ret
      exact ⟨rfl, b8⟩
    · have t0 := drain_calls (hq.chg (Chg.refl (fun _ => False) _).drew id id)
      rw [show PodM.drain ⟨1, 2, []⟩ = (0, ⟨4, 2, []⟩) from by simp [PodM.drain, PodM.fin]] at t0
      go_upto_region 20 with fail
      go_region_with (first
        | (go_at_call 24; refine t0.mono ?_; rintro e w8 ⟨rfl, h8, hc8⟩)
        | (go_at_call 16; refine (state_calls (m := ⟨4, 2, []⟩) (mb := mb) ?_).mono ?_; (first | exact h8 | exact h8.chg ((Chg.refl (fun _ => False) _).alloc _) id id); rintro e wz ⟨rfl, rfl⟩))
      all_goals (
        have b8 := hc8.below_of bq.drew bq.size (fun k hk hF => by rcases hF with rfl | rfl <;> omega)
        go_wp2_with fail
        go_ret
        exact ⟨rfl, by first | exact b8 | exact b8.alloc b8.size _⟩)
    · go_wp2_with fail
      refine (kill_calls hq (by simp) (by simp)).mono ?_
      rintro e w8 ⟨v, rfl, hrow, h8, hc8⟩
      clear hrow
      have b8 := hc8.below_of bq bq.size (fun k hk hF => by rcases hF with rfl | rfl <;> omega)
      clear hc8 hq bq
      go_wp2_with fail
      refine (state_calls h8).mono ?_
      rintro e wz ⟨rfl, rfl⟩
      go_wp2_with fail
      go_ret
      exact ⟨rfl, b8⟩
    · go_wp2_with fail
      have t := take_calls hq 5 (by decide) (by simp)
      rw [show PodM.take ⟨1, 2, []⟩ 5 = (9, ⟨1, 2, []⟩) from by simp [PodM.take]] at t
      refine t.mono ?_
      clear t
      rintro e w8 ⟨rfl, h8, hc8⟩
      have b8 := hc8.below_of bq bq.size (fun k hk hF => by rcases hF with rfl | rfl <;> omega)
      clear hc8 hq bq
      go_wp2_with fail
      go_ret
      exact ⟨rfl, b8⟩
    · go_wp2_with fail
      have t := give_calls hq 1 (by decide)
      rw [show PodM.give ⟨1, 2, []⟩ 1 = (6, ⟨1, 2, []⟩) from by simp [PodM.give, PodM.fin]] at t
      refine t.mono ?_
      clear t
      rintro e w8 ⟨rfl, h8, hc8⟩
      have b8 := hc8.below_of bq bq.size (fun k hk hF => by rcases hF with rfl | rfl <;> omega)
      clear hc8 hq bq
      go_wp2_with fail
      refine (state_calls h8).mono ?_
      rintro e wz ⟨rfl, rfl⟩
      go_wp2_with fail
      go_ret
      exact ⟨rfl, b8⟩

set_option maxRecDepth 100000 in
set_option maxHeartbeats 4000000 in
theorem ways1 (which n : Int) (w : World) (hk : Wi which 4 = 1) :
    Calls Try.prog 8 #[.int .i64 which, .int .i64 n] w fun e w' => e = .returned (.bool true) ∧ Below w.heap.size w w' := by
  have HK := Lib.hid hk
  clear hk
  go_enter Try.func8, Try.ntmps8
  go_wp2_with fail
  refine (known_calls _).mono ?_
  rintro e w1 ⟨rfl, hb1⟩
  go_wp2_with fail
  refine (new_calls _ _).mono ?_
  rintro e w2 ⟨p, mb, rfl, h2, hp, hm, hb2⟩
  have b2 : Below w.heap.size w w2 := hb1.trans (hb2.mono hb1.size)
  have hp' : w.heap.size ≤ p := Nat.le_trans hb1.size hp
  have hm' : w.heap.size ≤ mb := Nat.le_trans hb1.size hm
  clear hp hm hb1 hb2
  go_wp2_with fail
  refine (within_calls _ _ _ (by omega) (by omega)).mono ?_
  rintro e w3 ⟨rfl, rfl⟩
  rw [HK.out]
  clear HK
  go_wp2_with fail
  have t := up_calls h2
  rw [show PodM.up ⟨1, 2, []⟩ = (0, ⟨2, 2, []⟩) from by simp [PodM.up]] at t
  refine t.mono ?_
  clear t
  rintro e w3 ⟨rfl, h3, hc3⟩
  have b3 := hc3.below_of b2 b2.size (fun k hk hF => by rcases hF with rfl | rfl <;> omega)
  clear hc3 h2 b2
  go_upto_region 14 with fail
  go_cut [38] from 11 to 122 (fun s wx => s = .bool false ∧ PodAt wx p mb ⟨2, 2, []⟩ ∧ Below w.heap.size w wx)
  case first =>
    go_region_with (go_at_call 16; refine (state_calls (m := ⟨2, 2, []⟩) (mb := mb) ?_).mono ?_; (first | exact h3 | exact h3.chg (Chg.refl (fun _ => False) _).drew id id | exact h3.chg ((Chg.refl (fun _ => False) _).alloc _).drew id id); rintro e wz ⟨rfl, rfl⟩)
    all_goals (go_wp2_with fail; go_meet; exact ⟨rfl, h3.chg (by first | exact ((Chg.refl (fun _ => False) _).alloc _).drew) id id, by first | exact (b3.alloc b3.size _).drew⟩)
  case rest =>
    obtain ⟨rfl, hq, bq⟩ := hcut
    clear h3 b3
    have hi0 := Wi.lo (a := n) (n := 5) (by omega)
    have hi1 := Wi.hi (a := n) (n := 5) (by omega)
    go_wp2_with fail
    refine (within_calls _ _ _ (by omega) (by omega)).mono ?_
    rintro e wz ⟨rfl, rfl⟩
    rcases (show Wi n 5 = 0 ∨ Wi n 5 = 1 ∨ Wi n 5 = 2 ∨ Wi n 5 = 3 ∨ Wi n 5 = 4 by omega) with hs | hs | hs | hs | hs
    all_goals (rw [hs]; clear hs hi0 hi1)
    · go_wp2_with fail
      have t := up_calls hq
      rw [show PodM.up ⟨2, 2, []⟩ = (9, ⟨2, 2, []⟩) from by simp [PodM.up]] at t
      refine t.mono ?_
      clear t
      rintro e w8 ⟨rfl, h8, hc8⟩
      have b8 := hc8.below_of bq bq.size (fun k hk hF => by rcases hF with rfl | rfl <;> omega)
      clear hc8 hq bq
      go_wp2_with fail
      refine (state_calls h8).mono ?_
      rintro e wz ⟨rfl, rfl⟩
      go_wp2_with fail
      go_ret
      exact ⟨rfl, b8⟩
    · have t0 := drain_calls (hq.chg (Chg.refl (fun _ => False) _).drew id id)
      rw [show PodM.drain ⟨2, 2, []⟩ = (0, ⟨4, 2, []⟩) from by simp [PodM.drain, PodM.fin]] at t0
      go_upto_region 20 with fail
      go_region_with (first
        | (go_at_call 24; refine t0.mono ?_; rintro e w8 ⟨rfl, h8, hc8⟩)
        | (go_at_call 16; refine (state_calls (m := ⟨4, 2, []⟩) (mb := mb) ?_).mono ?_; (first | exact h8 | exact h8.chg ((Chg.refl (fun _ => False) _).alloc _) id id); rintro e wz ⟨rfl, rfl⟩))
      all_goals (
        have b8 := hc8.below_of bq.drew bq.size (fun k hk hF => by rcases hF with rfl | rfl <;> omega)
        go_wp2_with fail
        go_ret
        exact ⟨rfl, by first | exact b8 | exact b8.alloc b8.size _⟩)
    · go_wp2_with fail
      refine (kill_calls hq (by simp) (by simp)).mono ?_
      rintro e w8 ⟨v, rfl, hrow, h8, hc8⟩
      clear hrow
      have b8 := hc8.below_of bq bq.size (fun k hk hF => by rcases hF with rfl | rfl <;> omega)
      clear hc8 hq bq
      go_wp2_with fail
      refine (state_calls h8).mono ?_
      rintro e wz ⟨rfl, rfl⟩
      go_wp2_with fail
      go_ret
      exact ⟨rfl, b8⟩
    · go_wp2_with fail
      have t := take_calls hq 5 (by decide) (by simp)
      rw [show PodM.take ⟨2, 2, []⟩ 5 = (0, ⟨2, 2, [5]⟩) from by simp [PodM.take]] at t
      refine t.mono ?_
      clear t
      rintro e w8 ⟨rfl, h8, hc8⟩
      have b8 := hc8.below_of bq bq.size (fun k hk hF => by rcases hF with rfl | rfl <;> omega)
      clear hc8 hq bq
      go_wp2_with fail
      go_ret
      exact ⟨rfl, b8⟩
    · go_wp2_with fail
      have t := give_calls hq 1 (by decide)
      rw [show PodM.give ⟨2, 2, []⟩ 1 = (6, ⟨2, 2, []⟩) from by simp [PodM.give, PodM.fin]] at t
      refine t.mono ?_
      clear t
      rintro e w8 ⟨rfl, h8, hc8⟩
      have b8 := hc8.below_of bq bq.size (fun k hk hF => by rcases hF with rfl | rfl <;> omega)
      clear hc8 hq bq
      go_wp2_with fail
      refine (state_calls h8).mono ?_
      rintro e wz ⟨rfl, rfl⟩
      go_wp2_with fail
      go_ret
      exact ⟨rfl, b8⟩

end Go.Proofs.Ytefcchnmgnlanaa
