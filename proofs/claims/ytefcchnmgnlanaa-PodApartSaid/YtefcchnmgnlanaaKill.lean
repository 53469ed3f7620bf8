/- The pod's Kill: its requests, rising; it has none behind it. And a comparison of two rows of numbers. -/
import Derived.Test.YtefcchnmgnlanaaPod
import Derived.Test.YtefcchnmgnlanaaInts
import Derived.Test.YtefcchnmgnlanaaLays
import Derived.Sort.EveryDepth
import Derived.Shelf.AbstractIn
import Derived.CallsIn
namespace Go.Proofs.Ytefcchnmgnlanaa
open Go.RowKit Go.Maps Go.Sort Go.Shelf

theorem sortsA (m : Nat) : AnyZI.SortsIn Try.prog Try.sortedA_ren Fence.wide m :=
  ⟨fun blk off cap ss W hH hblk hsz => callsIn_wide.2 (AnyM.slices_Sort_int Try.sortA blk off cap ss W hH hblk hsz),
   fun p cap W => callsIn_wide.2 (AnyM.slices_Sort_int_none Try.sortA p cap W)⟩

theorem keys_calls (mb : Option Nat) (W : World) : Calls Try.prog 33 #[.map mb] W fun e w' => e = .returned (.func (.func 37) #[] #[.pointer (some ⟨W.heap.size, 0, none⟩)]) ∧ w' = W.alloc (.cells #[.map mb] 43) :=
  (callsIn_wide (n := 5)).1 (AnyZI.keys_in Try.keysA Fence.wide 5 trivial rfl mb W)

/-- A new row of numbers, or nil. -/
def Row (w : World) (base : Nat) (v : Value) (xs : List Int) : Prop := w.ownsRow base 3 1 v xs.length (xs.map encZ)

theorem Row.chg {F : Nat → Prop} {w w' : World} {base : Nat} {v : Value} {xs : List Int} (h : Row w base v xs) (hc : Chg F w w') (hF : ∀ k, base ≤ k → ¬ F k) : Row w' base v xs := by
  obtain ⟨h1, h2⟩ := h
  refine ⟨h1, ?_⟩
  rcases h2 with h2 | ⟨g, cap, cur, hv, hg, hh, r⟩
  · exact .inl h2
  · exact .inr ⟨g, cap, cur, hv, hg, (hc.block g (Array.getElem?_eq_some_iff.1 hh).1 (hF g hg)).trans hh, r⟩

theorem Row.base {w : World} {b b' : Nat} {v : Value} {xs : List Int} (h : Row w b v xs) (hb : b' ≤ b) : Row w b' v xs := ownsRow_base_a h hb

/-- Its shape, and its cells. -/
theorem Row.shape {w : World} {base : Nat} {v : Value} {xs : List Int} (h : Row w base v xs) : ∃ A c, v = .slice A xs.length c ∧ (0 < xs.length → ∃ g, A = some ⟨g, 0, none⟩ ∧ base ≤ g ∧ g < w.heap.size ∧ ∀ j, j < xs.length → w.cell? ⟨g, j, none⟩ = some (.int .i64 (xs.getD j 0))) := by
  rcases h.2 with ⟨rfl, h0⟩ | ⟨g, cap, cur, rfl, hb, hh, _⟩
  · exact ⟨none, 0, by rw [h0], fun hp => by omega⟩
  · refine ⟨_, _, rfl, fun _ => ⟨g, rfl, hb, (Array.getElem?_eq_some_iff.1 hh).1, fun j hj => ?_⟩⟩
    have h' : w.ownsRow base 3 1 (.slice (some ⟨g, 0, none⟩) xs.length cap) xs.length (xs.map encZ) := h
    rw [h'.cellAt j (by omega)]
    simp [List.getElem?_eq_getElem hj, List.getD_eq_getElem?_getD]

set_option maxHeartbeats 1000000 in
theorem sorted_calls (b : Nat) (S : List Int) (Bm : Nat) (W : World) (hB : Bm < W.heap.size) (hm : W.cell? ⟨Bm, 0, none⟩ = some (.map (some b))) (hown : OwnsSet W Try.prog 3 4 b S) (hr : S.length ≤ 1000) :
    Calls Try.prog 32 #[.func (.func 37) #[] #[.pointer (some ⟨Bm, 0, none⟩)]] W fun e w' => ∃ v, e = .returned v ∧ Row w' W.heap.size v (S.mergeSort leI) ∧ (v = .slice none 0 0 ↔ S = []) ∧ Below W.heap.size W w' := by
  obtain ⟨D, hD, hs⟩ := hown
  have hp := hs.perm hD Try.underlying3
  have hsz := hs.size_
  have hseq : SeqGives Fence.wide 2 Try.prog 37 #[.pointer (some ⟨Bm, 0, none⟩)] encZ (fun ss => ss.Perm (intKeys D)) (Maps.size D) W :=
    AnyZI.keys_gives (ρ := Try.keysA_ren) { Try.keysA with } Fence.wide _ trivial rfl (by omega) Bm b _ D W hB hm hD
  have cS := AnyZI.sorted_in Try.sortedA Fence.wide 5 trivial trivial trivial trivial rfl (by omega) (sortsA _) (enters_of Try.func36 (by kernel_rfl) rfl) 37 #[.pointer (some ⟨Bm, 0, none⟩)] trivial (enters_of Try.func37 (by kernel_rfl) rfl) _ _ (by unfold maxLen; omega) (by omega) W hseq
  change CallsIn _ _ Try.prog 32 _ _ _ at cS
  refine ((callsIn_wide (n := 5)).1 cS).mono ?_
  rintro e w' ⟨v, ss, rfl, hS, hrow, hnil, hb⟩
  have hpp : ss.Perm S := hS.trans hp.symm
  have hms : ss.mergeSort leI = S.mergeSort leI := mergeSort_of_perm_i hpp
  have hl : ss.length = (S.mergeSort leI).length := by rw [List.length_mergeSort]; exact hpp.length_eq
  refine ⟨v, rfl, ?_, ?_, hb⟩
  · unfold Row
    rw [← hms, List.length_mergeSort]
    exact hrow
  · rw [hnil]
    exact ⟨fun e => by subst e; exact hpp.nil_eq.symm ▸ rfl, fun e => by subst e; exact hpp.eq_nil⟩

theorem info3 : (Try.prog.info? 3).map (fun i => (i.zero, i.size, i.bytes)) = some (some (.int .i64 0), 1, 8) := by kernel_rfl

theorem clone_calls (v : Value) (base : Nat) (xs : List Int) (W : World) (h : Row W base v xs) (hn : v = .slice none 0 0 ↔ xs = []) (hr : xs.length ≤ 1000) :
    Calls Try.prog 31 #[v] W fun e w' => ∃ v', e = .returned v' ∧ Row w' W.heap.size v' xs ∧ Below W.heap.size W w' := by
  obtain ⟨i0, hi, hz0, hz1, hz2⟩ := info_parts info3
  by_cases he : xs = []
  · obtain rfl := hn.2 he
    subst he
    refine (AnyE.slices_Clone_nil Try.cloneA 0 0 W).mono ?_
    rintro e w' ⟨rfl, rfl⟩
    exact ⟨_, rfl, World.ownsRow_nil _ _ _ _, Below.refl _ _⟩
  · obtain ⟨A, c, rfl, hc⟩ := h.shape
    obtain ⟨g, rfl, hg, hgl, hcell⟩ := hc (List.length_pos_iff.2 he)
    refine (AnyE.slices_Clone Try.cloneA i0 (.int .i64 0) 1 8 hi hz0 hz1 hz2 rfl (by omega) Try.sizeOf3 g 0 xs.length c (xs.map encZ) W (by simp) (by unfold maxLen; omega) (by omega) (fun j u hj => ?_) (fun u hu => ?_)).mono ?_
    · obtain ⟨x, hx, rfl⟩ := List.getElem?_map .. ▸ hj |> Option.map_eq_some_iff.1
      have hlt : j < xs.length := (List.getElem?_eq_some_iff.1 hx).1
      rw [Nat.zero_add, hcell j hlt]
      simp [List.getD_eq_getElem?_getD, hx]
    · obtain ⟨x, _, rfl⟩ := List.mem_map.1 hu; rfl
    · rintro e w' ⟨v', rfl, hrow, _, hb⟩
      exact ⟨v', rfl, hrow, hb⟩

theorem pf_no {p mb base : Nat} (hp : p < base) (hm : mb < base) (k : Nat) (hk : base ≤ k) : ¬ PF p mb k := fun hF => by rcases hF with rfl | rfl <;> omega

theorem kill_dead {w : World} {p mb : Nat} {m : PodM} (h : PodAt w p mb m) (e : m.st = 4) :
    Calls Try.prog 17 #[.pointer (some ⟨p, 0, none⟩)] w fun e w' => e = .returned (.tuple #[.slice none 0 0, .int .i64 9]) ∧ w = w' := by
  have c0 := h.blk.cell 0
  simp at c0
  have e1 : (m.st == 4) = true := by simp [e]
  clear e
  go_enter Try.func17, Try.ntmps17
  go_wp2_with fail
  go_ret2
  exact ⟨rfl, rfl⟩

set_option maxHeartbeats 1000000 in
theorem kill_calls {w : World} {p mb : Nat} {m : PodM} (h : PodAt w p mb m) (e : m.st ≠ 4) (hr : m.S.length ≤ 1000) :
    Calls Try.prog 17 #[.pointer (some ⟨p, 0, none⟩)] w fun e w' => ∃ v, e = .returned (.tuple #[v, .int .i64 0]) ∧ Row w' w.heap.size v (m.S.mergeSort leI) ∧ PodAt w' p mb { m with st := 4, S := [] } ∧ Chg (PF p mb) w w' := by
  have c0 := h.blk.cell 0
  have c1 := h.blk.cell 1
  have hpl := h.blk.lt
  have hml := h.set.lt
  have hwf := h.set.wf Try.underlying3
  simp at c0 c1
  have e1 : (m.st == 4) = false := by simp [e]
  clear e
  go_enter Try.func17, Try.ntmps17
  go_wp2_with fail
  refine (keys_calls _ _).mono ?_
  rintro e w1 ⟨rfl, rfl⟩
  go_wp2_with fail
  have hb1 := (Below.refl w.heap.size w).alloc (Nat.le_refl _) (.cells #[.map (some mb)] 43)
  refine (sorted_calls mb m.S w.heap.size _ (by simp) (by simp) (h.set.same (Below.heap_alloc _ _ _ hml)) hr).mono ?_
  rintro e w2 ⟨v, rfl, hrow, hnil, hb2⟩
  have b2 := hb1.trans (hb2.mono hb1.size)
  have hlen : (m.S.mergeSort leI).length ≤ 1000 := by rw [List.length_mergeSort]; exact hr
  have hn2 : v = .slice none 0 0 ↔ m.S.mergeSort leI = [] := by
    rw [hnil]
    exact ⟨fun e => by rw [e, List.mergeSort_nil], fun e => List.eq_nil_of_length_eq_zero (by rw [← List.length_mergeSort (le := leI), e]; rfl)⟩
  have hpm : (m.S.mergeSort leI).Perm m.S := List.mergeSort_perm _ _
  clear hb1 hb2 hnil c0 c1 e1
  obtain ⟨L, hL⟩ : ∃ L, L = m.S.mergeSort leI := ⟨_, rfl⟩
  rw [← hL] at hrow hn2 hlen hpm
  have HN := Lib.hid hn2
  have HL := Lib.hid hL
  clear hn2 hL
  go_wp2_with fail
  refine (clone_calls v _ L w2 hrow HN.out hlen).mono ?_
  rintro e w3 ⟨v', rfl, hrow3, hb3⟩
  have b3 := b2.trans (hb3.mono b2.size)
  have hp3 : PodAt w3 p mb m := h.chg (Chg.of_below b3 (F := fun _ => False) (fun k hk hk' => by omega)) id id
  have hrow' := hrow3.base b2.size
  clear hrow3 hb3 hrow b2 HN
  have hc3 : Chg (PF p mb) w w3 := Chg.of_below b3 (fun k hk hk' => by omega)
  clear b3
  obtain ⟨A, c, rfl, hsh⟩ := hrow'.shape
  clear hsh
  have HP := Lib.hid hpm
  clear hpm
  go_wp2_with fail
  go_loopw [21] (fun v wr => ∃ (i : Nat) (S : List Int), i ≤ L.length ∧ v = .int .i64 i ∧ Hid (S.Perm (L.drop i)) ∧ PodAt wr p mb ⟨m.st, m.room, S⟩ ∧ Chg (PF p mb) w wr ∧ Row wr w.heap.size (.slice A L.length c) L) (fun v _ => L.length - (vInt v).toNat)
  case atStart => exact ⟨0, m.S, by omega, rfl, HP.out.symm, hp3, hc3, hrow'⟩
  case round =>
    obtain ⟨i, S, hi, rfl, hS, hpi, hci, hrow⟩ := hrel
    by_cases hlt : i < L.length
    · obtain ⟨A', c', he, hsh⟩ := hrow.shape
      obtain ⟨g, rfl, hg, hgl, hcell⟩ := hsh (by omega)
      obtain ⟨rfl, rfl⟩ : some (⟨g, 0, none⟩ : Addr) = A ∧ c' = c := by simpa [eq_comm] using he
      clear he
      have hce := hcell i hlt
      clear hcell
      have hd : L.drop i = L.getD i 0 :: L.drop (i + 1) := by
        rw [List.drop_eq_getElem_cons hlt]
        simp [List.getD_eq_getElem?_getD, hlt]
      have hmem : L.getD i 0 ∈ S := hS.out.mem_iff.2 (by rw [hd]; exact List.mem_cons_self)
      have hmem0 : L.getD i 0 ∈ m.S := HP.out.subset (List.mem_of_mem_drop (hS.out.subset hmem))
      have hS2 := Lib.hid (show (S.erase (L.getD i 0)).Perm (L.drop (i + 1)) from by
        have := hS.out.erase (L.getD i 0)
        rw [hd, List.erase_cons_head] at this
        exact this)
      have hw := hwf _ hmem0
      have HM := Lib.hid hmem
      clear hd hmem hmem0 hS
      generalize hq : L.getD i 0 = q at hce hS2 hw HM
      clear hq
      go_wp2_with fail
      refine (bagtake_one hpi q hw HM.out).mono ?_
      rintro e w4 ⟨rfl, h4, hc4⟩
      have r4 := hrow.chg hc4 (pf_no hpl hml)
      have c4 := hci.trans hc4 (fun _ _ h => h)
      clear hc4 hpi hci hrow
      go_wp2_with fail
      go_roundw
      case rel => exact ⟨i + 1, _, by omega, by go_num, hS2, h4, c4, r4⟩
      case measure => simp [vInt]; omega
    · obtain rfl : L.length = i := by omega
      have hn : S = [] := (hS.out.trans (by simp)).eq_nil
      subst hn
      have cc0 := hpi.blk.cell 0
      have f0 := hpi.blk.frozen 0
      simp at cc0
      go_wp2_with fail
      go_ret2
      exact ⟨_, rfl, HL.out ▸ hrow.chg (F := PF p mb) ((Chg.refl _ _).setCell (a := ⟨p, 0, none⟩) (fun _ => .inl rfl) _) (pf_no hpl hml), ⟨hpi.blk.set 0 _ rfl, hpi.set.same (Below.heap_setCell _ _ _ _ h.ne.symm), h.ne⟩, hci.setCell (fun _ => .inl rfl) _⟩

end Go.Proofs.Ytefcchnmgnlanaa
