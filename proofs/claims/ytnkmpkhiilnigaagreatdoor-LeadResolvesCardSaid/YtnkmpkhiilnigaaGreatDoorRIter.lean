/- lead.inOrder: what it hands out, round by round. (Printed by riter.py.) -/
import Derived.Test.YtnkmpkhiilnigaaGreatDoorRTgt
import Derived.RangeFuncNested
import Derived.RangeFuncBound
import Derived.RangeFuncCalls
import Derived.RangeFuncLeaves
import Derived.RangeFuncWrites
import Derived.Shelf.Abstract
import Derived.Shelf.RegionOpen
import Derived.WalkKit
import Derived.OwnWalkIn
import Derived.TacticsInMore
import Derived.LoopNIn
import Derived.LoopIn
import Derived.Maps.OwnIn
set_option linter.unusedSimpArgs false
set_option linter.unusedVariables false
namespace Go.Proofs.YtnkmpkhiilnigaaGreatDoor.PR
open Go.RowKit Go.Shelf Go.Lib Go.Sort Go.Maps Go.Proofs.YtnkmpkhiilnigaaGreatDoor.PA Go.Proofs.YtnkmpkhiilnigaaGreatDoorW.PrintWords Go.Proofs.YtnkmpkhiilnigaaGreatDoorW.PrintLast
attribute [local go_sem] Oper.semAt_some

/-- Below B nothing is turned; cells of other types than two stay. -/
def KpS (B : Nat) (tb te : TypeId) (W W' : World) : Prop := Below B W W' ∧ ∀ k cs t, t ≠ tb → t ≠ te → Blk W k cs t → Blk W' k cs t
theorem KpS.refl (B : Nat) (tb te : TypeId) (W : World) : KpS B tb te W W := ⟨Below.refl _ _, fun _ _ _ _ _ h => h⟩
theorem KpS.trans {B : Nat} {tb te : TypeId} {A C D : World} (h : KpS B tb te A C) (k : KpS B tb te C D) : KpS B tb te A D := ⟨h.1.trans k.1, fun i cs t h1 h2 hb => k.2 i cs t h1 h2 (h.2 i cs t h1 h2 hb)⟩
theorem KpS.put {B : Nat} {tb te : TypeId} {w : World} (hB : B ≤ w.heap.size) (W : World) (l : Nat) (o o' : Obj) (hl : w.heap.size ≤ l) (h : W.heap[l]? = some o) (h1 : o.isCells = false) (h2 : o.isWalk = false) : KpS B tb te W (W.putObj l o') :=
  ⟨belowK_b hB W l o o' hl h h1 h2, fun k cs t _ _ hb => by
    have hne : k ≠ l := fun e => by
      subst e
      unfold Blk at hb
      rw [hb] at h
      cases h
      simp [Obj.isCells] at h1
    have hg := grownBy_putObj' W l o'
    exact (hg.block k hb.lt (fun e => hne (Option.some.inj e))).trans hb⟩
theorem grown_of_below {w w' : World} (h : Below w.heap.size w w') : w.grownBy w' none := ⟨h.os, h.tape, h.output, h.size, fun k hk _ => h.block k hk⟩
theorem zeroI_ (w : World) : (zeroValue 3).run Tryz.prog w = .ok (.int .i64 0) w := by kernel_rfl
theorem zeroT_ (w : World) : (zeroValue 9).run Tryz.prog w = .ok (.string ⟨#[]⟩) w := by kernel_rfl
theorem prep_ {S : List (List UInt8)} {D : DataW Value} {W2 : World} {B B' : Nat} {v : Value} {ss : List (List UInt8)} (hS : ss.Perm (strKeys D)) (hp : S.Perm (strKeys D)) (hrow : W2.ownsRow B 9 1 v ss.length ((ss.mergeSort (fun x y => decide (x ≤ y))).map encStr)) (hB : B' ≤ B := by simp) : RowG elS W2 B' v (S.mergeSort PB.leS) := by
  have hpp : ss.Perm S := hS.trans hp.symm
  unfold RowG
  rw [PB.fmS, ← PB.sort_perm hpp, List.length_mergeSort]
  exact ownsRow_base_a hrow hB
theorem strG_blk {w : World} {base : Nat} {v : Value} {xs : List (List UInt8)} (h : RowG elS w base v xs) (hp : 0 < xs.length) : ∃ g c cur, v = .slice (some ⟨g, 0, none⟩) xs.length c ∧ xs.length ≤ c ∧ Blk w g cur 9 ∧ ∀ j (hj : j < xs.length), w.cell? ⟨g, j, none⟩ = some (.string ⟨xs[j].toArray⟩) := by
  obtain ⟨A, c, e, hc, hs⟩ := h.shape
  obtain ⟨g, cur, rfl, _, _, hk, _⟩ := hs hp
  obtain ⟨g', c', e', _, _, _, _, hcs⟩ := h.cells hp
  rw [e] at e'
  cases e'
  refine ⟨g, c, cur, e, hc, hk, fun j hj => ?_⟩
  have := hcs j hj 0 (by decide)
  rw [show elS.size = 1 from rfl, Nat.mul_one, Nat.add_zero] at this
  exact this

/-! #### I -/
theorem keysI_calls (m : Nat) (mb : Option Nat) (W : World) : CallsIn Fence.wide m Tryz.prog 46 #[.map mb] W fun e w' => e = .returned (.func (.func 62) #[] #[.pointer (some ⟨W.heap.size, 0, none⟩)]) ∧ w' = W.alloc (.cells #[.map mb] 72) :=
  callsIn_wide.2 (callsIn_wide.1 (AnyZ.keys_in Tryz.keysI Fence.wide 5 trivial rfl mb W))
set_option maxHeartbeats 1000000 in
theorem sortedI_calls (m : Nat) {H : Type} (b nn : Nat) (D0 : DataW H) (R : Value → Option (DataW H × List MemPlace)) (w : World) (hown : w.ownsMap Tryz.prog 9 R b nn D0) (hmax : Maps.size D0 ≤ maxLen) (hbytes : Maps.size D0 * 16 ≤ 140737488355328) :
    CallsIn Fence.wide m Tryz.prog 45 #[.func (.func 62) #[] #[.pointer (some ⟨w.heap.size, 0, none⟩)]] (w.alloc (.cells #[.map (some b)] 72)) fun e w' => ∃ (v : Value) (ss : List (List UInt8)), e = .returned v ∧ ss.Perm (strKeys D0) ∧
      w'.ownsRow (w.alloc (.cells #[.map (some b)] 72)).heap.size 9 1 v ss.length ((ss.mergeSort (fun x y => decide (x ≤ y))).map encStr) ∧ (v = .slice none 0 0 ↔ ss = []) ∧ Below (w.alloc (.cells #[.map (some b)] 72)).heap.size (w.alloc (.cells #[.map (some b)] 72)) w' := by
  have hbl := hown.lt
  have hseq : SeqGives Fence.wide 2 Tryz.prog 62 #[.pointer (some ⟨w.heap.size, 0, none⟩)] encStr (fun ss => ss.Perm (strKeys D0)) (Maps.size D0) (w.alloc (.cells #[.map (some b)] 72)) :=
    AnyZ.keys_gives (ρ := Tryz.keysI_ren) { Tryz.keysI with } Fence.wide _ trivial rfl (by omega) w.heap.size b nn D0 _ (by simp) (by simp) (by
      obtain ⟨es, clock, hb, Ft, hs, hD⟩ := hown
      exact ⟨es, clock, (Below.heap_alloc _ _ b hbl).trans hb, Ft, hs, hD⟩)
  exact callsIn_wide.2 (callsIn_wide.1 (AnyZ.sorted_in Tryz.sortedA Fence.wide 5 trivial trivial trivial trivial rfl (by omega) (PB.sorts_ _) (enters_of Tryz.func61 (by kernel_rfl) rfl) 62 #[.pointer (some ⟨w.heap.size, 0, none⟩)] trivial (enters_of Tryz.func62 (by kernel_rfl) rfl) _ _ hmax hbytes _ hseq))
/-- What is handed out. -/
def prsI (S : List (List UInt8)) (wf : List UInt8 → Int) : List (ByteArray × Int) := (S.mergeSort PB.leS).map fun k => (⟨k.toArray⟩, wf k)
theorem prsI_len (S : List (List UInt8)) (wf : List UInt8 → Int) : (prsI S wf).length = S.length := by unfold prsI; rw [List.length_map, List.length_mergeSort]
theorem prsI_get (S : List (List UInt8)) (wf : List UInt8 → Int) (k : Nat) (h : k < (prsI S wf).length) (h' : k < (S.mergeSort PB.leS).length) : (prsI S wf)[k] = (⟨((S.mergeSort PB.leS)[k]).toArray⟩, wf ((S.mergeSort PB.leS)[k])) :=
  List.getElem_map _

set_option maxRecDepth 100000 in
set_option maxHeartbeats 4000000 in
theorem inI_stops (n : Nat) (hn : 1 ≤ n) {b : Nat} {S : List (List UInt8)} {f : List UInt8 → Value} {wf : List UInt8 → Int} (Bm n₀ : Nat) (w : World) (hn0 : n₀ ≤ w.heap.size) (hb : b < n₀) (hbox : Blk w Bm #[.map (some b)] 72) (hm : OwnsM w Tryz.prog 9 b S f) (hf : ∀ k ∈ S, f k = .int .i64 (wf k)) (hl : S.length ≤ 1000) (hk : ∀ k ∈ S, k.length ≤ 1000)
    {tb te : TypeId} (ht1 : 72 ≠ tb) (ht2 : 72 ≠ te) (ht3 : 9 ≠ tb) (ht4 : 9 ≠ te) :
    SeqStopsK Fence.wide n Tryz.prog 44 #[.pointer (some ⟨Bm, 0, none⟩)] (fun x : ByteArray × Int => #[.string x.1, .int .i64 x.2]) (KpS n₀ tb te) (fun ys => ys = prsI S wf) (fun _ => True) S.length w := by
  intro l J Jx W hW hJ hJx hY h0
  have kb := hbox.below hW hbox.lt
  have hmW : OwnsM W Tryz.prog 9 b S f := hm.same (hW.block b (by omega))
  have hn1 : n₀ ≤ W.heap.size := Nat.le_trans hn0 hW.size
  obtain ⟨D, hown, hs⟩ := hmW
  have hsz : Maps.size D = S.length := hs.size_
  have hp := hs.perm hown Tryz.underlying9
  have hmax : Maps.size D ≤ maxLen := by rw [hsz]; unfold maxLen; omega
  have hbytes : Maps.size D * 16 ≤ 140737488355328 := by rw [hsz]; omega
  have hcb := kb.cell 0
  simp only [List.getElem?_toArray, List.getElem?_cons_zero] at hcb
  have hfK : Fence.wide.fn 46 := trivial
  have hfS : Fence.wide.fn 45 := trivial
  refine callsIn_of_wp Tryz.func44 rfl trivial ?_ rfl
  simp only [Tryz.ntmps44, List.size_toArray, List.length_append, List.length_cons, List.length_nil, Nat.reduceAdd, Nat.reduceSub, Array.replicate_succ, Array.replicate_zero, List.push_toArray, List.append_toArray, List.nil_append, List.cons_append]
  gi_wp2_with (first
    | (gi_at_call 46; refine (keysI_calls _ _ _).mono ?_; rintro e w' ⟨rfl, rfl⟩)
    | (gi_at_call 45; refine (sortedI_calls _ b S.length D anyElem W hown hmax hbytes).mono ?_; rintro e W2 ⟨v, ss, rfl, hS, hrow, hnil, hb2⟩; have hrG := prep_ (B' := W.heap.size) hS hp hrow; have bW2 := ((Below.refl W.heap.size W).alloc (Nat.le_refl _) (.cells #[.map (some b)] 72)).trans (hb2.mono (by simp)); clear hS hrow hnil hb2 ss; obtain ⟨A, c, rfl, hc, _⟩ := PB.RowG.toS hrG; rw [List.length_mergeSort] at hc ⊢))
  have hJ2 := hJ [] W W2 none h0 (grown_of_below bW2) (fun r e => by cases e)
  have kb2 := kb.below bW2 kb.lt
  have hm2 : OwnsM W2 Tryz.prog 9 b S f := (hm.same (hW.block b (by omega))).same (bW2.block b (by omega))
  clear h0 hcb hown hs hp hsz hmax hbytes hJ hJx hW kb bW2 hfK hfS
  gi_loopw [9] (fun i wr => ∃ k : Nat, k ≤ S.length ∧ i = .int .i64 k ∧ J ((prsI S wf).take k) wr ∧ Hid (KpS n₀ tb te W2 wr)) (fun i _ => S.length - (intOf i).toNat)
  case atStart => exact ⟨0, Nat.zero_le _, rfl, hJ2, Lib.hid (KpS.refl _ _ _ _)⟩
  case round =>
    obtain ⟨k, hk', rfl, hJs, hkp⟩ := hrel
    by_cases hlt : k < S.length
    · have hml : (S.mergeSort PB.leS).length = S.length := List.length_mergeSort _
      obtain ⟨g, c', cur, e1, _, hbg, hcs⟩ := strG_blk hrG (by omega)
      cases e1
      obtain ⟨kl, hkl⟩ : ∃ kl, kl = (S.mergeSort PB.leS)[k]'(by omega) := ⟨_, rfl⟩
      have hmem : kl ∈ S := by rw [hkl]; exact (List.mergeSort_perm S PB.leS).mem_iff.1 (List.getElem_mem _)
      have hpl : k < (prsI S wf).length := by rw [prsI_len]; exact hlt
      have hx : (prsI S wf)[k] = (⟨kl.toArray⟩, wf kl) := by rw [hkl]; exact prsI_get S wf k hpl (by omega)
      have hc1 : wr.cell? ⟨g, k, none⟩ = some (.string ⟨kl.toArray⟩) := by
        have h1 := hcs k (by omega)
        rw [← hkl] at h1
        have h2 := hkp.out.2 g cur _ ht3 ht4 hbg
        rw [h2.cell, ← hbg.cell, h1]
      have hc2 : wr.cell? ⟨Bm, 0, none⟩ = some (.map (some b)) := (hkp.out.2 Bm _ _ ht1 ht2 kb2).cell 0
      have hmr : OwnsM wr Tryz.prog 9 b S f := hm2.same (hkp.out.1.block b hb)
      have hlk := PB.look_run Tryz.underlying72 (zeroI_ wr) hmr ⟨kl.toArray⟩ (by have := hk kl hmem; show kl.toArray.size ≤ _; rw [List.size_toArray]; unfold maxLen; omega) (c := .int .i64 (wf kl)) (by rw [if_pos hmem, hf kl hmem])
      obtain ⟨fn, tmps, assign, body, hy, hR⟩ := hY _ ((prsI S wf)[k]) wr hJs (by rw [List.length_take]; omega)
      rw [hx] at hy hR
      dsimp only at hy
      have htk : (prsI S wf).take k ++ [(⟨kl.toArray⟩, wf kl)] = (prsI S wf).take (k + 1) := by rw [List.take_succ_eq_append_getElem hpl, hx]
      rw [htk] at hR
      have hlt' : (k : Int) < (S.length : Int) := by omega
      clear hx htk hmr hcs hbg hY hkl
      gi_wp2
      refine hR.mono ?_
      rintro e W3 (⟨rfl, hJ3, hk3⟩ | ⟨rfl, hJx3⟩)
      · gi_wp2
        go_roundw
        case rel => exact ⟨k + 1, by omega, by simp, hJ3, Lib.hid (hkp.out.trans hk3)⟩
        case measure => simp [intOf]; omega
      · gi_wp2
        refine bodyPost_ret (results_none rfl _ _ _) rfl ?_
        exact ⟨⟨_, rfl⟩, .inr ⟨_, trivial, hJx3⟩⟩
    · obtain rfl : k = S.length := by omega
      gi_wp2
      go_end0
      refine ⟨⟨_, rfl⟩, .inl ⟨_, rfl, ?_⟩⟩
      rw [List.take_of_length_le (by rw [prsI_len]; omega)] at hJs
      exact hJs

/-! #### T -/
theorem keysT_calls (m : Nat) (mb : Option Nat) (W : World) : CallsIn Fence.wide m Tryz.prog 48 #[.map mb] W fun e w' => e = .returned (.func (.func 63) #[] #[.pointer (some ⟨W.heap.size, 0, none⟩)]) ∧ w' = W.alloc (.cells #[.map mb] 73) :=
  callsIn_wide.2 (callsIn_wide.1 (AnyZ.keys_in Tryz.keysT Fence.wide 5 trivial rfl mb W))
set_option maxHeartbeats 1000000 in
theorem sortedT_calls (m : Nat) {H : Type} (b nn : Nat) (D0 : DataW H) (R : Value → Option (DataW H × List MemPlace)) (w : World) (hown : w.ownsMap Tryz.prog 9 R b nn D0) (hmax : Maps.size D0 ≤ maxLen) (hbytes : Maps.size D0 * 16 ≤ 140737488355328) :
    CallsIn Fence.wide m Tryz.prog 45 #[.func (.func 63) #[] #[.pointer (some ⟨w.heap.size, 0, none⟩)]] (w.alloc (.cells #[.map (some b)] 73)) fun e w' => ∃ (v : Value) (ss : List (List UInt8)), e = .returned v ∧ ss.Perm (strKeys D0) ∧
      w'.ownsRow (w.alloc (.cells #[.map (some b)] 73)).heap.size 9 1 v ss.length ((ss.mergeSort (fun x y => decide (x ≤ y))).map encStr) ∧ (v = .slice none 0 0 ↔ ss = []) ∧ Below (w.alloc (.cells #[.map (some b)] 73)).heap.size (w.alloc (.cells #[.map (some b)] 73)) w' := by
  have hbl := hown.lt
  have hseq : SeqGives Fence.wide 2 Tryz.prog 63 #[.pointer (some ⟨w.heap.size, 0, none⟩)] encStr (fun ss => ss.Perm (strKeys D0)) (Maps.size D0) (w.alloc (.cells #[.map (some b)] 73)) :=
    AnyZ.keys_gives (ρ := Tryz.keysT_ren) { Tryz.keysT with } Fence.wide _ trivial rfl (by omega) w.heap.size b nn D0 _ (by simp) (by simp) (by
      obtain ⟨es, clock, hb, Ft, hs, hD⟩ := hown
      exact ⟨es, clock, (Below.heap_alloc _ _ b hbl).trans hb, Ft, hs, hD⟩)
  exact callsIn_wide.2 (callsIn_wide.1 (AnyZ.sorted_in Tryz.sortedA Fence.wide 5 trivial trivial trivial trivial rfl (by omega) (PB.sorts_ _) (enters_of Tryz.func61 (by kernel_rfl) rfl) 63 #[.pointer (some ⟨w.heap.size, 0, none⟩)] trivial (enters_of Tryz.func63 (by kernel_rfl) rfl) _ _ hmax hbytes _ hseq))
/-- What is handed out. -/
def prsT (S : List (List UInt8)) (wf : List UInt8 → ByteArray) : List (ByteArray × ByteArray) := (S.mergeSort PB.leS).map fun k => (⟨k.toArray⟩, wf k)
theorem prsT_len (S : List (List UInt8)) (wf : List UInt8 → ByteArray) : (prsT S wf).length = S.length := by unfold prsT; rw [List.length_map, List.length_mergeSort]
theorem prsT_get (S : List (List UInt8)) (wf : List UInt8 → ByteArray) (k : Nat) (h : k < (prsT S wf).length) (h' : k < (S.mergeSort PB.leS).length) : (prsT S wf)[k] = (⟨((S.mergeSort PB.leS)[k]).toArray⟩, wf ((S.mergeSort PB.leS)[k])) :=
  List.getElem_map _

set_option maxRecDepth 100000 in
set_option maxHeartbeats 4000000 in
theorem inT_stops (n : Nat) (hn : 1 ≤ n) {b : Nat} {S : List (List UInt8)} {f : List UInt8 → Value} {wf : List UInt8 → ByteArray} (Bm n₀ : Nat) (w : World) (hn0 : n₀ ≤ w.heap.size) (hb : b < n₀) (hbox : Blk w Bm #[.map (some b)] 73) (hm : OwnsM w Tryz.prog 9 b S f) (hf : ∀ k ∈ S, f k = .string (wf k)) (hl : S.length ≤ 1000) (hk : ∀ k ∈ S, k.length ≤ 1000)
    {tb te : TypeId} (ht1 : 73 ≠ tb) (ht2 : 73 ≠ te) (ht3 : 9 ≠ tb) (ht4 : 9 ≠ te) :
    SeqStopsK Fence.wide n Tryz.prog 47 #[.pointer (some ⟨Bm, 0, none⟩)] (fun x : ByteArray × ByteArray => #[.string x.1, .string x.2]) (KpS n₀ tb te) (fun ys => ys = prsT S wf) (fun _ => True) S.length w := by
  intro l J Jx W hW hJ hJx hY h0
  have kb := hbox.below hW hbox.lt
  have hmW : OwnsM W Tryz.prog 9 b S f := hm.same (hW.block b (by omega))
  have hn1 : n₀ ≤ W.heap.size := Nat.le_trans hn0 hW.size
  obtain ⟨D, hown, hs⟩ := hmW
  have hsz : Maps.size D = S.length := hs.size_
  have hp := hs.perm hown Tryz.underlying9
  have hmax : Maps.size D ≤ maxLen := by rw [hsz]; unfold maxLen; omega
  have hbytes : Maps.size D * 16 ≤ 140737488355328 := by rw [hsz]; omega
  have hcb := kb.cell 0
  simp only [List.getElem?_toArray, List.getElem?_cons_zero] at hcb
  have hfK : Fence.wide.fn 48 := trivial
  have hfS : Fence.wide.fn 45 := trivial
  refine callsIn_of_wp Tryz.func47 rfl trivial ?_ rfl
  simp only [Tryz.ntmps47, List.size_toArray, List.length_append, List.length_cons, List.length_nil, Nat.reduceAdd, Nat.reduceSub, Array.replicate_succ, Array.replicate_zero, List.push_toArray, List.append_toArray, List.nil_append, List.cons_append]
  gi_wp2_with (first
    | (gi_at_call 48; refine (keysT_calls _ _ _).mono ?_; rintro e w' ⟨rfl, rfl⟩)
    | (gi_at_call 45; refine (sortedT_calls _ b S.length D anyElem W hown hmax hbytes).mono ?_; rintro e W2 ⟨v, ss, rfl, hS, hrow, hnil, hb2⟩; have hrG := prep_ (B' := W.heap.size) hS hp hrow; have bW2 := ((Below.refl W.heap.size W).alloc (Nat.le_refl _) (.cells #[.map (some b)] 73)).trans (hb2.mono (by simp)); clear hS hrow hnil hb2 ss; obtain ⟨A, c, rfl, hc, _⟩ := PB.RowG.toS hrG; rw [List.length_mergeSort] at hc ⊢))
  have hJ2 := hJ [] W W2 none h0 (grown_of_below bW2) (fun r e => by cases e)
  have kb2 := kb.below bW2 kb.lt
  have hm2 : OwnsM W2 Tryz.prog 9 b S f := (hm.same (hW.block b (by omega))).same (bW2.block b (by omega))
  clear h0 hcb hown hs hp hsz hmax hbytes hJ hJx hW kb bW2 hfK hfS
  gi_loopw [9] (fun i wr => ∃ k : Nat, k ≤ S.length ∧ i = .int .i64 k ∧ J ((prsT S wf).take k) wr ∧ Hid (KpS n₀ tb te W2 wr)) (fun i _ => S.length - (intOf i).toNat)
  case atStart => exact ⟨0, Nat.zero_le _, rfl, hJ2, Lib.hid (KpS.refl _ _ _ _)⟩
  case round =>
    obtain ⟨k, hk', rfl, hJs, hkp⟩ := hrel
    by_cases hlt : k < S.length
    · have hml : (S.mergeSort PB.leS).length = S.length := List.length_mergeSort _
      obtain ⟨g, c', cur, e1, _, hbg, hcs⟩ := strG_blk hrG (by omega)
      cases e1
      obtain ⟨kl, hkl⟩ : ∃ kl, kl = (S.mergeSort PB.leS)[k]'(by omega) := ⟨_, rfl⟩
      have hmem : kl ∈ S := by rw [hkl]; exact (List.mergeSort_perm S PB.leS).mem_iff.1 (List.getElem_mem _)
      have hpl : k < (prsT S wf).length := by rw [prsT_len]; exact hlt
      have hx : (prsT S wf)[k] = (⟨kl.toArray⟩, wf kl) := by rw [hkl]; exact prsT_get S wf k hpl (by omega)
      have hc1 : wr.cell? ⟨g, k, none⟩ = some (.string ⟨kl.toArray⟩) := by
        have h1 := hcs k (by omega)
        rw [← hkl] at h1
        have h2 := hkp.out.2 g cur _ ht3 ht4 hbg
        rw [h2.cell, ← hbg.cell, h1]
      have hc2 : wr.cell? ⟨Bm, 0, none⟩ = some (.map (some b)) := (hkp.out.2 Bm _ _ ht1 ht2 kb2).cell 0
      have hmr : OwnsM wr Tryz.prog 9 b S f := hm2.same (hkp.out.1.block b hb)
      have hlk := PB.look_run Tryz.underlying73 (zeroT_ wr) hmr ⟨kl.toArray⟩ (by have := hk kl hmem; show kl.toArray.size ≤ _; rw [List.size_toArray]; unfold maxLen; omega) (c := .string (wf kl)) (by rw [if_pos hmem, hf kl hmem])
      obtain ⟨fn, tmps, assign, body, hy, hR⟩ := hY _ ((prsT S wf)[k]) wr hJs (by rw [List.length_take]; omega)
      rw [hx] at hy hR
      dsimp only at hy
      have htk : (prsT S wf).take k ++ [(⟨kl.toArray⟩, wf kl)] = (prsT S wf).take (k + 1) := by rw [List.take_succ_eq_append_getElem hpl, hx]
      rw [htk] at hR
      have hlt' : (k : Int) < (S.length : Int) := by omega
      clear hx htk hmr hcs hbg hY hkl
      gi_wp2
      refine hR.mono ?_
      rintro e W3 (⟨rfl, hJ3, hk3⟩ | ⟨rfl, hJx3⟩)
      · gi_wp2
        go_roundw
        case rel => exact ⟨k + 1, by omega, by simp, hJ3, Lib.hid (hkp.out.trans hk3)⟩
        case measure => simp [intOf]; omega
      · gi_wp2
        refine bodyPost_ret (results_none rfl _ _ _) rfl ?_
        exact ⟨⟨_, rfl⟩, .inr ⟨_, trivial, hJx3⟩⟩
    · obtain rfl : k = S.length := by omega
      gi_wp2
      go_end0
      refine ⟨⟨_, rfl⟩, .inl ⟨_, rfl, ?_⟩⟩
      rw [List.take_of_length_le (by rw [prsT_len]; omega)] at hJs
      exact hJs

end Go.Proofs.YtnkmpkhiilnigaaGreatDoor.PR
