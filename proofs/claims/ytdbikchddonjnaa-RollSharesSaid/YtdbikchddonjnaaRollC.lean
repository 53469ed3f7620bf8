/- roll.Shares, whatever the time. And what the print wants. -/
import Derived.Test.YtdbikchddonjnaaSound
namespace Go.Proofs.Ytdbikchddonjnaa.PA
open Go.RowKit Go.Shelf Go.Lib Go.Sort Go.Proofs.YtdbikchddonjnaaW.PrintWords Go.Proofs.YtdbikchddonjnaaW.PrintLast

theorem shares_calls (A0 : Option Addr) (c0 : Nat) (l0 : List S39) (A1 : Option Addr) (c1 : Nat) (l1 : List S39) (gone whole : Int) (w : World) (hr0 : Kd.C k39 w A0 l0.length l0) (hr1 : Kd.C k39 w A1 l1.length l1)
    (hf0 : Fine l0) (hf1 : Fine l1) (hw : whole ≤ 1000000000) :
    Calls Try.prog 16 #[.slice A0 l0.length c0, .slice A1 l1.length c1, .int .i64 gone, .int .i64 whole] w fun e w' => ∃ v, e = .returned v ∧ RowG el39 w' w.heap.size v (rollL l0 l1 gone whole) ∧ Below w.heap.size w w' := by
  by_cases e1 : whole ≤ 0
  · have hu : rollL l0 l1 gone whole = l1 := by unfold rollL; rw [if_pos (.inl e1)]
    rw [hu]; clear hu
    have HC := Lib.hid (clone_calls A1 c1 l1 w hr1 (by have := hf1.1; omega))
    clear hr0 hr1 hf0 hf1
    go_enter Try.func16, Try.ntmps16
    go_wp2_with fail
    refine HC.out.mono ?_
    rintro e w1 ⟨v, rfl, h1, h2⟩
    go_wp2_with fail
    go_ret
    exact ⟨_, rfl, h1, h2⟩
  · by_cases e2 : whole ≤ gone
    · have hu : rollL l0 l1 gone whole = l1 := by unfold rollL; rw [if_pos (.inr e2)]
      rw [hu]; clear hu
      have HC := Lib.hid (clone_calls A1 c1 l1 w hr1 (by have := hf1.1; omega))
      clear hr0 hr1 hf0 hf1
      go_enter Try.func16, Try.ntmps16
      go_wp2_with fail
      refine HC.out.mono ?_
      rintro e w1 ⟨v, rfl, h1, h2⟩
      go_wp2_with fail
      go_ret
      exact ⟨_, rfl, h1, h2⟩
    · by_cases e3 : gone ≤ 0
      · have hu : rollL l0 l1 gone whole = l0 := by unfold rollL; rw [if_neg (by omega), if_pos e3]
        rw [hu]; clear hu
        have HC := Lib.hid (clone_calls A0 c0 l0 w hr0 (by have := hf0.1; omega))
        clear hr0 hr1 hf0 hf1
        go_enter Try.func16, Try.ntmps16
        go_wp2_with fail
        refine HC.out.mono ?_
        rintro e w1 ⟨v, rfl, h1, h2⟩
        go_wp2_with fail
        go_ret
        exact ⟨_, rfl, h1, h2⟩
      · have hu : rollL l0 l1 gone whole = ((namesOf (l0 ++ l1)).foldl (stepR l0 l1 gone whole) ((gains l0 l1 gone whole (namesOf (l0 ++ l1))).sum, [])).2 := by unfold rollL; rw [if_neg (by omega), if_neg e3]
        rw [hu]
        exact shares_way A0 c0 l0 A1 c1 l1 gone whole w hr0 hr1 hf0 hf1 (by omega) (by omega) hw _ rfl _ rfl

def fineB (l : List S39) : Bool := decide (l.length ≤ 1000) && l.all (fun s => decide (0 ≤ s.f1) && decide (s.f1 ≤ 1000))
theorem fineB_iff {l : List S39} : fineB l = true ↔ Fine l := by
  unfold fineB Fine
  simp only [Bool.and_eq_true, decide_eq_true_eq, List.all_eq_true]

def soundB (l : List S39) : Bool := l.all (fun s => decide (1 ≤ s.f1) && decide (s.f1 ≤ 100)) && decide ((keys l).Pairwise (fun x y => Op.bytesLess x y = true)) && decide ((l.map (·.f1)).sum = 100)
theorem soundB_iff {l : List S39} : soundB l = true ↔ SoundL l := by
  unfold soundB
  simp only [Bool.and_eq_true, decide_eq_true_eq, List.all_eq_true]
  exact ⟨fun h => ⟨h.1.1, h.1.2, h.2⟩, fun h => ⟨⟨h.one, h.names⟩, h.sum⟩⟩

end Go.Proofs.Ytdbikchddonjnaa.PA
