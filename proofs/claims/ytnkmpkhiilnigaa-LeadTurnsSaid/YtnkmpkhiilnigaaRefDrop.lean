/- The document's Roller: Drop. (Printed by genx.py from refdrop.src.) -/
import Derived.Test.YtnkmpkhiilnigaaRefTurnW
namespace Go.Proofs.Ytnkmpkhiilnigaa.PA
open Go.RowKit Go.Shelf Go.Lib Go.Sort Go.Proofs.YtnkmpkhiilnigaaW.PrintWords Go.Proofs.YtnkmpkhiilnigaaW.PrintLast

theorem take_keep {α : Type} (p : α → Bool) (l : List α) (i : Nat) (h : i < l.length) : (l.take (i + 1)).filter p = (l.take i).filter p ++ (if p l[i] = true then [l[i]] else []) := by
  rw [List.take_succ_eq_append_getElem h, List.filter_append]
  congr 1
  by_cases e : p l[i] = true
  · rw [if_pos e, List.filter_cons_of_pos e]; rfl
  · rw [if_neg e, List.filter_cons_of_neg e]; rfl

/-- What is left. -/
def dropW (l : List DW) (nm : ByteArray) : List DW := l.filter (fun x => !(x.nm.toList == nm.toList))
theorem find_drop (l : List DW) (nm nm' : ByteArray) : findM (dropW l nm) nm' = if nm'.toList = nm.toList then none else findM l nm' := by
  unfold findM findW dropW
  induction l with
  | nil => simp
  | cons x t ih =>
    by_cases e : x.nm.toList = nm.toList
    · rw [List.filter_cons_of_neg (by simp [e]), ih]
      by_cases e' : nm'.toList = nm.toList
      · rw [if_pos e', if_pos e']
      · rw [if_neg e', if_neg e', List.find?_cons_of_neg (by rw [e]; simpa using fun h => e' h.symm)]
    · rw [List.filter_cons_of_pos (by simpa using e)]
      by_cases e2 : x.nm.toList = nm'.toList
      · rw [List.find?_cons_of_pos (by simpa using e2), List.find?_cons_of_pos (by simpa using e2), if_neg (fun h => e (e2.trans h))]
      · rw [List.find?_cons_of_neg (by simpa using e2), List.find?_cons_of_neg (by simpa using e2), ih]

set_option maxHeartbeats 4000000 in
theorem ddrop_calls {w : World} {p : Nat} {ok : Nat → Prop} {l : List DW} (h : DocAt w p ok l) (hok : ∀ k, w.heap.size ≤ k → ok k) (nm : ByteArray) (hl : l.length ≤ 1000) :
    Calls Try.prog 24 #[.pointer (some ⟨p, 0, none⟩), .string nm] w fun e w' => e = .returned (.tuple #[]) ∧ ∃ ok', DocAt w' p ok' (dropW l nm) ∧ (∀ k, w'.heap.size ≤ k → ok' k) ∧ (∀ k, k < w.heap.size → ok k → ok' k) ∧ Chg (fun k => ¬ ok k) w w' := by
  have H := Lib.hid h
  have HOK := Lib.hid hok
  obtain ⟨⟨base, A, c, h1, h2, _⟩, h4, _, _, _⟩ := h
  have K1 := Lib.hid h1
  have H2 := Lib.hid h2
  have H4 := Lib.hid h4
  have hpw : p < w.heap.size := h1.lt
  clear h1 h2 h4 hok
  go_enter Try.func24, Try.ntmps24
  go_wp2_with fail
  go_loopw [4, 5] (fun v4 v5 wr => ∃ i : Nat, i ≤ l.length ∧ v5 = .int .i64 i ∧ Hid (RowG elW wr w.heap.size v4 ((dropW (l.take i) nm).map (·.g))) ∧ Hid (Below w.heap.size w wr)) (fun _ v5 _ => l.length - (vI v5).toNat)
  case atStart => exact ⟨0, by omega, rfl, Lib.hid (by exact RowG.nil _ _ _), Lib.hid (Below.refl _ _)⟩
  case round =>
    obtain ⟨i, hi, rfl, hR, hB⟩ := hrel
    have c0 := (K1.out.below hB.out hpw).cell 0
    simp only [List.getElem?_toArray, List.getElem?_cons_zero] at c0
    have zB := hB.out.size
    by_cases hlt : i < l.length
    · have hlt' : (i : Int) < (l.length : Int) := by omega
      obtain ⟨ga, ca, he, _, _, _, hgw, hcs⟩ := RowG.cells H2.out (by rw [List.length_map]; omega)
      have hA : A = some ⟨ga, 0, none⟩ := (Value.slice.inj he).1
      subst hA
      have hce := hcs i (by rw [List.length_map]; omega) 0 (by decide)
      simp only [List.getElem_map] at hce
      have hce : w.cell? ⟨ga, i, none⟩ = some (.pointer (some ⟨l[i].g, 0, none⟩)) := by
        have e1 : (elW.size : Nat) = 1 := rfl
        rw [e1, Nat.mul_one, Nat.add_zero] at hce
        exact hce
      have hce := (hB.out.cell (p := ⟨ga, i, none⟩) hgw).trans hce
      obtain ⟨A0, d0, A1, d1, A2, d2, A3, d3, hk, _⟩ := H4.out _ (List.getElem_mem hlt)
      have hn := (hk.below hB.out hk.lt).cell 0
      simp only [List.getElem?_toArray, List.getElem?_cons_zero] at hn
      have htk := take_keep (fun x : DW => !(x.nm.toList == nm.toList)) l i hlt
      obtain ⟨x, hx⟩ : ∃ x, x = l[i] := ⟨_, rfl⟩
      rw [← hx] at hce hn htk
      have HTK := Lib.hid htk
      clear hcs he hk hx htk
      obtain ⟨A7, c7, hv7, hc7, _⟩ := hR.out.shape
      have hlen : ((dropW (l.take i) nm).map (·.g)).length ≤ 1000 := by rw [List.length_map]; unfold dropW; exact Nat.le_trans (List.length_filter_le _ _) (by rw [List.length_take]; omega)
      subst hv7
      by_cases heq : x.nm.toList = nm.toList
      · have hneq : (x.nm.toList != nm.toList) = false := by simp [heq]
        have heq' : (x.nm.toList == nm.toList) = true := by simpa using heq
        have hE := Lib.hid (show dropW (l.take (i + 1)) nm = dropW (l.take i) nm from by unfold dropW; rw [HTK.out, if_neg (by simp [heq]), List.append_nil])
        go_wp2_with fail
        go_roundw
        case rel => exact ⟨i + 1, by omega, by go_num, Lib.hid (by rw [hE.out]; exact hR.out), hB⟩
        case measure => simp [vI]; omega
      · have hneq : (x.nm.toList != nm.toList) = true := by simpa using heq
        have heq' : (x.nm.toList == nm.toList) = false := by simpa using heq
        have hE := Lib.hid (show dropW (l.take (i + 1)) nm = dropW (l.take i) nm ++ [x] from by unfold dropW; rw [HTK.out, if_pos (by simpa using heq)])
        have HL := Lib.hid hlen
        clear hlen heq
        have b5 : Below wr.heap.size wr (wr.alloc (.cells #[.pointer (some ⟨x.g, 0, none⟩)] 73)) := (Below.refl _ _).alloc (Nat.le_refl _) _
        have RR := Lib.hid (hR.out.below b5 (Nat.le_refl _))
        have SS := Lib.hid (SrcG.one (E := elW) (x := x.g) (new_at wr (.cells #[.pointer (some ⟨x.g, 0, none⟩)] 73)))
        have B5 := Lib.hid (below_step hB.out b5)
        clear b5
        go_wp2_with (at_builtin; refine list_appO elW _ rfl (.tmp 27) (.tmp 35) rfl w.heap.size _ _ (by rfl) RR.out (some ⟨wr.heap.size, 0, none⟩) 1 1 [x.g] (by rfl) rfl SS.out (by have := HL.out; omega) (by omega) (by simp; omega) ?_; intro v' w6 r6 c6 o6)
        go_roundw
        case rel => exact ⟨i + 1, by omega, by go_num, Lib.hid (by rw [hE.out, List.map_append]; exact r6), Lib.hid (c6.below_of B5.out B5.out.size (fun k hk e => by have := own_base RR.out k e; omega))⟩
        case measure => simp [vI]; omega
    · obtain rfl : i = l.length := by omega
      rw [List.take_length] at hR
      obtain ⟨A7, c7, hv7, hc7, _⟩ := hR.out.shape
      subst hv7
      have f0 := (K1.out.below hB.out hpw).frozen 0
      go_wp2_with fail
      rw [List.length_map] at *
      have k1 := (K1.out.below hB.out hpw).set 0 (.slice A7 (dropW l nm).length c7) rfl
      have cp : Chg (fun k => k = p) wr (wr.setCell ⟨p, 0, none⟩ (.slice A7 (dropW l nm).length c7)) := (Chg.refl (fun k => k = p) wr).setCell (fun _ => rfl) _
      have hR2 : RowG elW wr w.heap.size (.slice A7 (dropW l nm).length c7) ((dropW l nm).map (·.g)) := by simpa using hR.out
      have hown : ∀ k, (Value.slice A7 (dropW l nm).length c7).ownBlock = some k → w.heap.size ≤ k ∧ k < wr.heap.size := fun k e => ⟨own_base hR2 k e, own_lt hR2 k e⟩
      go_end0
      refine ⟨rfl, fun k => ok k ∧ (Value.slice A7 (dropW l nm).length c7).ownBlock ≠ some k, ⟨⟨w.heap.size, A7, c7, k1, ?_, fun k hk => hk.2⟩, fun x hx => ?_, ?_, fun k hk => H.out.notp k hk.1, fun k hk x hx => H.out.notg k hk.1 x (List.mem_filter.1 hx).1⟩, fun k hk => ⟨HOK.out k (Nat.le_trans zB (Nat.le_trans cp.size hk)), fun e => by have := hown k e; have := cp.size; omega⟩, fun k hk ho => ⟨ho, fun e => by have := hown k e; omega⟩, ?_⟩
      · refine RowG.moved hR2 (fun k hk hk' => cp.block k hk' (by omega))
      · have hx0 := (H.out.ways x (List.mem_filter.1 hx).1).okm (ok' := fun k => ok k ∧ (Value.slice A7 (dropW l nm).length c7).ownBlock ≠ some k) (fun k hk hlt => ⟨hk, fun e => by have := hown k e; omega⟩)
        obtain ⟨cs, hb⟩ := hx0.blk
        exact (hx0.chg (Chg.of_below hB.out (F := fun _ => False) (fun k h1 h2 => by omega)) id (fun _ _ _ => id)).chg cp (fun e => blk_neT hb K1.out (by decide) e) (fun k hk _ e => H.out.notp k hk.1 e)
      · exact H.out.nodup.sublist (List.filter_sublist.map _)
      · exact (Chg.of_below hB.out (F := fun k => ¬ ok k) (fun k h1 h2 => by omega)).trans cp (fun k _ e ho => H.out.notp k ho e)

end Go.Proofs.Ytnkmpkhiilnigaa.PA
