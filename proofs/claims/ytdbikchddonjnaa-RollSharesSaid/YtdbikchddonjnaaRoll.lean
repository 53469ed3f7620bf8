/- roll.Shares, by its contract. -/
import Derived.Test.YtdbikchddonjnaaClone
import Derived.OwnWalk
import Derived.Deep.RegionHeld3
import Derived.Deep.CutRange
namespace Go.Proofs.Ytdbikchddonjnaa.PA
open Go.RowKit Go.Shelf Go.Lib Go.Sort Go.Proofs.YtdbikchddonjnaaW.PrintWords Go.Proofs.YtdbikchddonjnaaW.PrintLast

def bs (n : List UInt8) : ByteArray := ⟨n.toArray⟩

section
variable (l0 l1 : List S39) (gone whole : Int)
/-- How far one is to go. -/
def dOf (n : List UInt8) : Int := wt l1 (bs n) - wt l0 (bs n)
/-- What one has gained. -/
def gainI (n : List UInt8) : Int := if 0 < dOf l0 l1 n then (dOf l0 l1 n * gone) / whole else 0
/-- One more name: what has been given and not yet been taken, the Shares so far. -/
def stepR (s : Int × List S39) (n : List UInt8) : Int × List S39 :=
  if dOf l0 l1 n < 0 then
    let m := min (-dOf l0 l1 n) s.1
    (s.1 - m, if 0 < wt l0 (bs n) - m then s.2 ++ [⟨bs n, wt l0 (bs n) - m⟩] else s.2)
  else (s.1, if 0 < wt l0 (bs n) + gainI l0 l1 gone whole n then s.2 ++ [⟨bs n, wt l0 (bs n) + gainI l0 l1 gone whole n⟩] else s.2)
def gains (ns : List (List UInt8)) : List Int := ns.map (gainI l0 l1 gone whole)
/-- The Shares on the way. -/
def rollL : List S39 :=
  if whole ≤ 0 ∨ whole ≤ gone then l1
  else if gone ≤ 0 then l0
  else ((namesOf (l0 ++ l1)).foldl (stepR l0 l1 gone whole) ((gains l0 l1 gone whole (namesOf (l0 ++ l1))).sum, [])).2
end

/-- Weights that are no trouble. -/
def Fine (l : List S39) : Prop := l.length ≤ 1000 ∧ ∀ s ∈ l, 0 ≤ s.f1 ∧ s.f1 ≤ 1000

theorem wt_fine {l : List S39} (h : ∀ s ∈ l, 0 ≤ s.f1 ∧ s.f1 ≤ 1000) (r : ByteArray) : 0 ≤ wt l r ∧ wt l r ≤ 1000 := by
  induction l with
  | nil => simp [wt]
  | cons s t ih =>
    unfold wt
    split
    · exact h s List.mem_cons_self
    · exact ih (fun x hx => h x (List.mem_cons_of_mem _ hx))

theorem names_le (l : List S39) : (namesOf l).length ≤ l.length := by
  refine Nat.le_trans (compact_length_le _) ?_
  rw [List.length_mergeSort]
  simp [keys]

theorem gain_fine {l0 l1 : List S39} (h0 : Fine l0) (h1 : Fine l1) {gone whole : Int} (g0 : 0 < gone) (g1 : gone < whole) (n : List UInt8) : 0 ≤ gainI l0 l1 gone whole n ∧ gainI l0 l1 gone whole n ≤ 1000 ∧ (0 < dOf l0 l1 n → gainI l0 l1 gone whole n ≤ dOf l0 l1 n) := by
  have a := wt_fine h0.2 (bs n)
  have b := wt_fine h1.2 (bs n)
  unfold gainI
  split
  · rename_i h
    have hd : dOf l0 l1 n ≤ 1000 := by unfold dOf; omega
    have e1 : 0 ≤ dOf l0 l1 n * gone / whole := Int.ediv_nonneg (Int.mul_nonneg (by omega) (by omega)) (by omega)
    have e2 : dOf l0 l1 n * gone / whole ≤ dOf l0 l1 n := by
      refine Int.ediv_le_of_le_mul (by omega) ?_
      exact Int.mul_le_mul_of_nonneg_left (by omega) (by omega)
    exact ⟨e1, by omega, fun _ => e2⟩
  · exact ⟨by omega, by omega, fun h => absurd h (by assumption)⟩

theorem sum_fine {α : Type} (f : α → Int) (c : Int) (hc : 0 ≤ c) : ∀ l : List α, (∀ x ∈ l, 0 ≤ f x ∧ f x ≤ c) → 0 ≤ (l.map f).sum ∧ (l.map f).sum ≤ c * l.length
  | [], _ => by simp
  | x :: t, h => by
    have ih := sum_fine f c hc t (fun y hy => h y (List.mem_cons_of_mem _ hy))
    have hx := h x List.mem_cons_self
    rw [List.map_cons, List.sum_cons, List.length_cons]
    push_cast
    rw [Int.mul_add]
    omega

end Go.Proofs.Ytdbikchddonjnaa.PA
