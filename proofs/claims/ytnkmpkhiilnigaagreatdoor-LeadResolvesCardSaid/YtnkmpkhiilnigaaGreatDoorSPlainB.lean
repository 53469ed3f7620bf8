/- Books of one configuration: what Stamp, Prove, Latest do there, in plain words. -/
import Derived.Test.YtnkmpkhiilnigaaGreatDoorSLatestB
set_option linter.unusedSimpArgs false
set_option linter.unusedVariables false
namespace Go.Proofs.YtnkmpkhiilnigaaGreatDoor.PB
open Go.RowKit Go.Shelf Go.Lib Go.Sort Go.Maps Go.Proofs.YtnkmpkhiilnigaaGreatDoorW.PrintWords Go.Proofs.YtnkmpkhiilnigaaGreatDoorW.PrintLast

theorem stamp_callsE {w : World} {p b1 b2 : Nat} {L : List RevM} (h : BookAt w p b1 b2 L) (hL : OkL L) (c : CfgM) (hv : ValidN c.nm) (g : Int) (h0 : 1 ≤ g) (h1 : g ≤ 999999) (ht : ∀ w', Below w.heap.size w w' → Pow10 w') {v : Value} (hE : encC c = v) {nm : ByteArray} (hn : c.nm = nm) :
    Calls Tryz.prog 17 #[.pointer (some ⟨p, 0, none⟩), v, .int .i64 g] w fun e w' => e = .returned (.tuple #[.string (revN nm g), .bool (findR L (revN nm g).data.toList).isNone]) ∧ BookAt w' p b1 b2 (stampL L c g) ∧ Chg (fun k => k = b1 ∨ k = b2) w w' := by
  subst hE
  subst hn
  exact stamp_calls h hL c hv g h0 h1 ht

/-- All are of one configuration. -/
def AllOf (c : CfgM) (L : List RevM) : Prop := ∀ r ∈ L, r.c = c
theorem AllOf.nil (c : CfgM) : AllOf c [] := fun r hr => by simp at hr
theorem AllOf.stamp {c : CfgM} {L : List RevM} (h : AllOf c L) (g : Int) : AllOf c (stampL L c g) := fun r hr => by
  unfold stampL at hr
  split at hr
  · rcases List.mem_append.1 hr with hr | hr
    · exact h r hr
    · rw [List.mem_singleton.1 hr]
  · exact h r hr
theorem AllOf.prove {c : CfgM} {L : List RevM} (h : AllOf c L) (x : List UInt8) : AllOf c (proveL L x) := fun r hr => by
  unfold proveL at hr
  obtain ⟨s, hs, rfl⟩ := List.mem_map.1 hr
  split
  · exact h s hs
  · exact h s hs
/-- The greatest number of those that p asks; nought: there is none. -/
def Top (p : RevM → Bool) (L : List RevM) (m : Int) : Prop := (m = 0 ∧ ∀ r ∈ L, p r = false) ∨ (∃ r ∈ L, p r = true ∧ r.g = m) ∧ ∀ r ∈ L, p r = true → r.g ≤ m
theorem Top.nil (p : RevM → Bool) : Top p [] 0 := .inl ⟨rfl, fun r hr => by simp at hr⟩
theorem provedL_mem {L : List RevM} (hL : OkL L) {r : RevM} (hr : r ∈ L) : provedL L r.key = r.ok := by
  unfold provedL
  cases e : r.ok with
  | true => exact List.any_eq_true.2 ⟨r, hr, by simp [e]⟩
  | false =>
    rw [Bool.eq_false_iff]
    intro h
    obtain ⟨s, hs, h2⟩ := List.any_eq_true.1 h
    simp only [Bool.and_eq_true, beq_iff_eq] at h2
    have h1 := findR_mem hL.nodup hs
    rw [h2.1, findR_mem hL.nodup hr] at h1
    rw [← Option.some.inj h1, e] at h2
    cases h2.2
end Go.Proofs.YtnkmpkhiilnigaaGreatDoor.PB
