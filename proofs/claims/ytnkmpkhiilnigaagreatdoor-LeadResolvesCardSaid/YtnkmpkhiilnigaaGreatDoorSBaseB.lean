/- The stamp seat's ground: the library's contracts in short; names of configurations; label's functions; numerals. -/
import Derived.Test.YtnkmpkhiilnigaaGreatDoorLays
import Derived.Test.YtnkmpkhiilnigaaGreatDoorGGrnd
import Derived.Test.YtnkmpkhiilnigaaGreatDoorPBx1
import Derived.Lib.OthersKept
import Derived.Lib.ItoaLen
set_option linter.unusedSimpArgs false
set_option linter.unusedVariables false
namespace Go.Proofs.YtnkmpkhiilnigaaGreatDoor.PB
open Go.RowKit Go.Shelf Go.Lib Go.Sort Go.Maps Go.Proofs.YtnkmpkhiilnigaaGreatDoorW.PrintWords Go.Proofs.YtnkmpkhiilnigaaGreatDoorW.PrintLast

theorem below_step {w0 w1 w2 : World} (h : Below w0.heap.size w0 w1) (k : Below w1.heap.size w1 w2) : Below w0.heap.size w0 w2 := h.trans (k.mono h.size)
/-- The number in a slot, for a loop's measure. -/
def vI : Value → Int
  | .int _ q => q
  | _ => 0
def leS (x y : List UInt8) : Bool := decide (x ≤ y)
theorem fmS : ∀ L : List (List UInt8), L.flatMap elS.enc = L.map encStr
  | [] => rfl
  | x :: t => by rw [List.flatMap_cons, fmS t]; rfl
theorem sort_perm {L M : List (List UInt8)} (h : L.Perm M) : L.mergeSort leS = M.mergeSort leS := by
  have hs : ∀ l : List (List UInt8), (l.mergeSort leS).Pairwise (fun x y => x ≤ y) := fun l =>
    (List.pairwise_mergeSort (le := leS) (fun a b c h1 h2 => by simp only [leS, decide_eq_true_eq] at *; exact List.le_trans h1 h2) (fun a b => by simp only [leS, Bool.or_eq_true, decide_eq_true_eq]; exact List.le_total a b) l).imp (fun h => by simpa [leS] using h)
  exact List.Perm.eq_of_pairwise (le := fun x y => x ≤ y) (fun a b _ _ h1 h2 => List.le_antisymm h1 h2) (hs L) (hs M) (((List.mergeSort_perm L leS).trans h).trans (List.mergeSort_perm M leS).symm)

/-! #### slices.Sorted(maps.Keys(m)) -/
theorem sorts_ (m : Nat) : AnyZ.SortsIn Tryz.prog Tryz.sortedA_ren Fence.wide m :=
  ⟨fun blk off cap ss W hH hblk hsz => callsIn_wide.2 (AnyM.slices_Sort_string Tryz.sortA blk off cap ss W hH hblk hsz),
   fun p cap W => callsIn_wide.2 (AnyM.slices_Sort_string_none Tryz.sortA p cap W)⟩
theorem keys_calls (mb : Option Nat) (W : World) : CallsIn Fence.wide 5 Tryz.prog 76 #[.map mb] W fun e w' => e = .returned (.func (.func 92) #[] #[.pointer (some ⟨W.heap.size, 0, none⟩)]) ∧ w' = W.alloc (.cells #[.map mb] 103) :=
  AnyZ.keys_in Tryz.keysA Fence.wide 5 trivial rfl mb W
set_option maxHeartbeats 1000000 in
theorem sorted_calls {H : Type} (b nn : Nat) (D0 : DataW H) (R : Value → Option (DataW H × List MemPlace)) (w : World) (hown : w.ownsMap Tryz.prog 9 R b nn D0) (hmax : Maps.size D0 ≤ maxLen) (hbytes : Maps.size D0 * 16 ≤ 140737488355328) :
    CallsIn Fence.wide 5 Tryz.prog 45 #[.func (.func 92) #[] #[.pointer (some ⟨w.heap.size, 0, none⟩)]] (w.alloc (.cells #[.map (some b)] 103)) fun e w' => ∃ (v : Value) (ss : List (List UInt8)), e = .returned v ∧ ss.Perm (strKeys D0) ∧
      w'.ownsRow (w.alloc (.cells #[.map (some b)] 103)).heap.size 9 1 v ss.length ((ss.mergeSort (fun x y => decide (x ≤ y))).map encStr) ∧ (v = .slice none 0 0 ↔ ss = []) ∧ Below (w.alloc (.cells #[.map (some b)] 103)).heap.size (w.alloc (.cells #[.map (some b)] 103)) w' := by
  have hbl := hown.lt
  have hseq : SeqGives Fence.wide 2 Tryz.prog 92 #[.pointer (some ⟨w.heap.size, 0, none⟩)] encStr (fun ss => ss.Perm (strKeys D0)) (Maps.size D0) (w.alloc (.cells #[.map (some b)] 103)) :=
    AnyZ.keys_gives (ρ := Tryz.keysA_ren) { Tryz.keysA with } Fence.wide _ trivial rfl (by omega) w.heap.size b nn D0 _ (by simp) (by simp) (by
      obtain ⟨es, clock, hb, Ft, hs, hD⟩ := hown
      exact ⟨es, clock, (Below.heap_alloc _ _ b hbl).trans hb, Ft, hs, hD⟩)
  exact AnyZ.sorted_in Tryz.sortedA Fence.wide 5 trivial trivial trivial trivial rfl (by omega) (sorts_ _) (enters_of Tryz.func61 (by kernel_rfl) rfl) 92 #[.pointer (some ⟨w.heap.size, 0, none⟩)] trivial (enters_of Tryz.func92 (by kernel_rfl) rfl) _ _ hmax hbytes _ hseq

set_option maxHeartbeats 1000000 in
/-- A shelf's names, in order. -/
theorem names_calls {b : Nat} {S : List (List UInt8)} {f : List UInt8 → Value} (w : World) (h : OwnsM w Tryz.prog 9 b S f) (hl : S.length ≤ 1000000) :
    Calls Tryz.prog 69 #[.map (some b)] w fun e w' => ∃ v, e = .returned v ∧ RowG elS w' w.heap.size v (S.mergeSort leS) ∧ Below w.heap.size w w' := by
  obtain ⟨D, hown, hs⟩ := h
  have hsz : Maps.size D = S.length := hs.size_
  have hp := hs.perm hown Tryz.underlying9
  have hmax : Maps.size D ≤ maxLen := by rw [hsz]; unfold maxLen; omega
  have hbytes : Maps.size D * 16 ≤ 140737488355328 := by rw [hsz]; omega
  refine (callsIn_wide (n := 6)).1 ?_
  have hfK : Fence.wide.fn 76 := trivial
  have hfS : Fence.wide.fn 45 := trivial
  refine callsIn_of_wp Tryz.func69 rfl trivial ?_ rfl
  simp only [Tryz.ntmps69, List.size_toArray, List.length_cons, List.length_nil, Nat.reduceAdd, Nat.reduceSub, Array.replicate_succ, Array.replicate_zero, List.push_toArray, List.append_toArray, List.nil_append, List.cons_append]
  gi_wp2_with (first
    | (gi_at_call 76; refine (keys_calls _ _).mono ?_; rintro e w' ⟨rfl, rfl⟩)
    | (gi_at_call 45; refine (sorted_calls b S.length D anyElem w hown hmax hbytes).mono ?_; rintro e w' ⟨v, ss, rfl, hS, hrow, hnil, hb⟩))
  go_ret
  have hpp : ss.Perm S := hS.trans hp.symm
  refine ⟨v, rfl, ?_, ((Below.refl _ w).alloc (Nat.le_refl _) _).trans (hb.mono (by simp))⟩
  unfold RowG
  rw [fmS, ← sort_perm hpp, List.length_mergeSort]
  exact ownsRow_base_a hrow (by simp)

/-! #### slices.Clone at strings -/
theorem RowG.toS {w : World} {base : Nat} {v : Value} {xs : List (List UInt8)} (h : RowG elS w base v xs) : ∃ A c, v = .slice A xs.length c ∧ xs.length ≤ c ∧ SrcG elS w A xs := by
  obtain ⟨A, c, rfl, hc, _⟩ := h.shape
  refine ⟨A, c, rfl, hc, fun hp => ?_⟩
  obtain ⟨g, c', e, _, _, _, hg, hcs⟩ := h.cells hp
  cases e
  refine ⟨_, rfl, fun j u hu => ?_⟩
  have hj : j < xs.length := by
    have := (List.getElem?_eq_some_iff.1 hu).1
    rwa [El.len elS xs, show elS.size = 1 from rfl, Nat.mul_one] at this
  have h1 := hcs j hj 0 (by decide)
  have h2 := El.at_ elS xs j hj 0 (by decide)
  rw [show elS.size = 1 from rfl, Nat.mul_one, Nat.add_zero] at h1 h2
  rw [add_at, Nat.zero_add, h1, ← h2, hu]
/-! #### strconv.Itoa -/
def Pow10 (w : World) : Prop := Lib.TabIs Tryz.prog w "internal/strconv.uint64pow10" .u64 Lib.pow10Tab
theorem itoa_calls (n : Int) (h0 : -9223372036854775808 ≤ n) (h1 : n ≤ 9223372036854775807) (w : World) (ht : Pow10 w) :
    Calls Tryz.prog 56 #[.int .i64 n] w fun e w' => e = .returned (.string ⟨(Lib.itoa n).toArray⟩) ∧ Below w.heap.size w w' :=
  (Any.strconv_Itoa Tryz.itoaA n h0 h1 w ht).mono fun e w' ⟨he, k, os, hw⟩ => ⟨he, by
    subst hw
    exact ⟨rfl, rfl, rfl, by simp [Sort.grow], fun j hj => by show (w.heap ++ os)[j]? = _; rw [Array.getElem?_append_left hj]⟩⟩

end Go.Proofs.YtnkmpkhiilnigaaGreatDoor.PB
