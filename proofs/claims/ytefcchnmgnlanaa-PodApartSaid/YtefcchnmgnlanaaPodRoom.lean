/- PodRoom: the walk. (Printed by gen_room.py.) -/
import Derived.Test.YtefcchnmgnlanaaPodFills
import Derived.Test.YtefcchnmgnlanaaIntsEq
import Derived.Test.YtefcchnmgnlanaaIns
namespace Go.Proofs.Ytefcchnmgnlanaa
open Go.RowKit Go.Maps Go.Sort Go.Proofs.YtefcchnmgnlanaaW.PrintLast

theorem ins_sorted {L : List Int} {a : Nat} {id : Int} (hs : L.Pairwise (· < ·)) (h1 : ∀ y ∈ L.take a, y ≤ id) (h2 : ∀ y ∈ L.drop a, id < y) (hn : id ∉ L) : (([] ++ L.take a) ++ [id] ++ L.drop a).Pairwise (· < ·) := by
  rw [List.nil_append]
  have e : L = L.take a ++ L.drop a := (List.take_append_drop a L).symm
  have hs' := hs
  rw [e, List.pairwise_append] at hs'
  have h3 : ∀ y ∈ L.take a, y < id := fun y hy => by
    have := h1 y hy
    have : y ≠ id := fun h => hn (h ▸ List.mem_of_mem_take hy)
    omega
  rw [List.pairwise_append, List.pairwise_append]
  refine ⟨⟨hs'.1, by simp, fun y hy z hz => by simp at hz; subst hz; exact h3 y hy⟩, hs'.2.1, fun y hy z hz => ?_⟩
  rcases List.mem_append.1 hy with hy | hy
  · exact hs'.2.2 y hy z hz
  · simp at hy; subst hy; exact h2 z hz

theorem ins_perm {L S : List Int} {a : Nat} {id : Int} (hp : S.Perm L) : (id :: S).Perm (([] ++ L.take a) ++ [id] ++ L.drop a) := by
  rw [List.nil_append]
  have h1 : (L.take a ++ [id] ++ L.drop a).Perm (id :: (L.take a ++ L.drop a)) := by
    rw [List.append_assoc]
    exact List.perm_middle
  rw [List.take_append_drop] at h1
  exact (hp.cons id).trans h1.symm

theorem sort_same {L S : List Int} (hp : S.Perm L) (hs : L.Pairwise (· < ·)) : S.mergeSort leI = L := by
  rw [mergeSort_of_perm_i hp]
  exact List.mergeSort_of_pairwise (hs.imp fun h => by simp [leI]; omega)

theorem Row.of_ins {w : World} {B : Nat} {v : Value} {m : Nat} {xs : List Int} (h : w.ownsRow B 3 1 v m (xs.map encZ)) (e : m = xs.length) : Row w B v xs := by subst e; exact h

theorem take_sorted {L : List Int} {a : Nat} {id : Int} (hs : L.Pairwise (· < ·)) (ha : a < L.length) (hq : L.getD a 0 ≤ id) : id ∉ L.take a := fun hm => by
  have e : L = L.take a ++ L.drop a := (List.take_append_drop a L).symm
  rw [e, List.pairwise_append] at hs
  have := hs.2.2 id hm (L.getD a 0) (by rw [show L.getD a 0 = L[a] by simp [List.getD_eq_getElem?_getD, ha], List.drop_eq_getElem_cons ha]; exact List.mem_cons_self)
  omega

theorem drop_sorted {L : List Int} {a : Nat} {id : Int} (hs : L.Pairwise (· < ·)) (ha : a < L.length) (hq : id < L.getD a 0) : ∀ y ∈ L.drop a, id < y := fun y hy => by
  have h2 := hs.sublist (List.drop_sublist a L)
  rw [List.drop_eq_getElem_cons ha] at hy h2
  have e : L.getD a 0 = L[a] := by simp [List.getD_eq_getElem?_getD, ha]
  rcases List.mem_cons.1 hy with h | h
  · subst h; omega
  · have := (List.pairwise_cons.1 h2).1 y h; omega

theorem has_eq {L : List Int} {a : Nat} {id : Int} {c : Bool} (hc : c = decide (id ∈ L.take a)) (h2 : ∀ y ∈ L.drop a, id < y) : c = decide (id ∈ L) := by
  subst hc
  congr 1
  refine propext ⟨List.mem_of_mem_take, fun h => ?_⟩
  rw [← List.take_append_drop a L] at h
  rcases List.mem_append.1 h with h | h
  · exact h
  · have := h2 id h; omega

theorem take_step {L : List Int} {a : Nat} (ha : a < L.length) : L.take (a + 1) = L.take a ++ [L.getD a 0] := by
  rw [List.take_succ_eq_append_getElem ha]
  simp [List.getD_eq_getElem?_getD, ha]

theorem Row.shape3 {w : World} {base : Nat} {v : Value} {xs : List Int} (h : Row w base v xs) (hn : 0 < xs.length) : ∃ g c, v = .slice (some ⟨g, 0, none⟩) xs.length c ∧ xs.length ≤ c ∧ c ≤ maxLen ∧ base ≤ g ∧ g < w.heap.size ∧ ∀ j, j < xs.length → w.cell? ⟨g, j, none⟩ = some (.int .i64 (xs.getD j 0)) := by
  obtain ⟨A, c, rfl, hs⟩ := h.shape
  obtain ⟨g, rfl, h1, h2, h3⟩ := hs hn
  refine ⟨g, c, rfl, ?_, ?_, h1, h2, h3⟩ <;> rcases h.2 with ⟨e, h0⟩ | ⟨g, cap, cur, e, hb, hh, h4, h5, _⟩
  · omega
  · simp at e; omega
  · omega
  · simp at e; omega

set_option maxRecDepth 100000 in
set_option maxHeartbeats 4000000 in
theorem room_walk (conc : Int) (A : Option Addr) (n cap : Nat) (xs : List Int) (w : World) (hx : Ints w A n xs) :
    Calls Try.prog 4 #[.int .i64 conc, .slice A n cap] w fun e w' => e = .returned (.bool true) ∧ Below w.heap.size w w' := by
  have hroom := hx.room
  go_enter Try.func4, Try.ntmps4
  go_wp2_with fail
  refine (known_calls _).mono ?_
  rintro e w1 ⟨rfl, hb1⟩
  go_wp2_with fail
  refine (within_calls _ _ _ (by omega) (by omega)).mono ?_
  rintro e w2 ⟨rfl, rfl⟩
  have hk0 := Wi.lo (a := conc) (n := 8) (by omega)
  have hk1 := Wi.hi (a := conc) (n := 8) (by omega)
  obtain ⟨Rm, hK⟩ : ∃ Rm : Nat, 1 + Wi conc 8 = Rm := ⟨(1 + Wi conc 8).toNat, by omega⟩
  have hK8 : Rm ≤ 8 := by omega
  have hK1 : 1 ≤ Rm := by omega
  have HK := Lib.hid hK
  clear hK
  go_wp2_with fail
  rw [HK.out]
  clear HK hk0 hk1
  refine (new_calls _ _).mono ?_
  rintro e w2 ⟨p, mb, rfl, h2, hp, hm, hb2⟩
  have b2 : Below w.heap.size w w2 := hb1.trans (hb2.mono hb1.size)
  have hp' : w.heap.size ≤ p := Nat.le_trans hb1.size hp
  have hm' : w.heap.size ≤ mb := Nat.le_trans hb1.size hm
  clear hp hm hb1 hb2
  go_wp2_with fail
  have t := up_calls h2
  rw [show PodM.up ⟨1, (Rm : Int), []⟩ = (0, ⟨2, (Rm : Int), []⟩) from by simp [PodM.up]] at t
  refine t.mono ?_
  clear t
  rintro e w3 ⟨rfl, h3, hc3⟩
  have b3 := hc3.below_of b2 b2.size (fun k hk hF => by rcases hF with rfl | rfl <;> omega)
  clear hc3 h2 b2
  obtain ⟨B, hBe⟩ : ∃ B, B = w3.heap.size := ⟨_, rfl⟩
  have hpB : p < B := hBe ▸ h3.blk.lt
  have hmB : mb < B := hBe ▸ h3.set.lt
  have hBw : w.heap.size ≤ B := hBe ▸ b3.size
  have hB3 : B ≤ w3.heap.size := by omega
  clear hBe
  go_wp2_with fail
  go_loopw [7, 8] (fun v7 v8 wr => ∃ (j : Nat) (L S : List Int), j ≤ n ∧ v8 = .int .i64 j ∧ Hid (v7 = .slice none 0 0 ↔ L = []) ∧ Hid (S.Perm L) ∧ Hid (L.Pairwise (· < ·)) ∧ L.length ≤ Rm ∧ S.length ≤ Rm ∧ PodAt wr p mb ⟨2, (Rm : Int), S⟩ ∧ Below w.heap.size w wr ∧ Row wr B v7 L ∧ B ≤ wr.heap.size) (fun _ v8 _ => n - (vInt v8).toNat)
  case atStart => exact ⟨0, [], [], by omega, rfl, Lib.hid (by simp), Lib.hid (.refl _), Lib.hid .nil, by simp, by simp, h3, b3, World.ownsRow_nil _ _ _ _, hB3⟩
  case round =>
    clear h3 b3 hB3
    obtain ⟨j, L, S, hj, rfl, hnil, hSP, hSO, hLK, hSK, hp1, hb, hrow, hBr⟩ := hrel
    have hSL := hSP.out.length_eq
    have HSL := Lib.hid hSL
    have hSL1 : S.length ≤ L.length := by omega
    have hSL2 : L.length ≤ S.length := by omega
    clear hSL
    by_cases hlt : j < n
    · by_cases h40 : j < 40
      · obtain ⟨b, o, rfl, hbl, hcell⟩ := hx.at_ (by omega)
        have hc := (hb.cell (p := ⟨b, o + j, none⟩) hbl).trans (hcell j hlt)
        clear hcell
        by_cases hL : L = []
        · subst hL
          obtain rfl := hnil.out.2 rfl
          obtain rfl : S = [] := List.eq_nil_of_length_eq_zero (by have : ([] : List Int).length = 0 := rfl; omega)
          go_wp2_with fail
          refine (within_calls _ _ _ (by omega) (by omega)).mono ?_
          rintro e w4 ⟨rfl, rfl⟩
          have hi0 := Wi.lo (a := xs[j]?.getD 0) (n := 30) (by omega)
          have hi1 := Wi.hi (a := xs[j]?.getD 0) (n := 30) (by omega)
          generalize Wi (xs[j]?.getD 0) 30 = q at hi0 hi1 ⊢
          go_wp2_with fail
          clear hc
          obtain ⟨id, hid⟩ : ∃ id : Int, id = 1 + q := ⟨_, rfl⟩
          have hid0 : 0 ≤ id := by omega
          have hid1 : id ≤ 31 := by omega
          rw [← hid]
          clear hid hi0 hi1
          go_loop [10, 11] (fun v10 v11 => v10 = .int .i64 0 ∧ v11 = .bool false) (fun _ _ => 0)
          case atStart => exact ⟨rfl, rfl⟩
          case round =>
            obtain ⟨rfl, rfl⟩ := hrel
            have HM := Lib.hid (show id ∉ ([] : List Int) from by simp)
            go_wp2_with fail
            obtain ⟨B1, hB1⟩ : ∃ B1, wr.heap.size = B1 := ⟨_, rfl⟩
            have hB1' : B ≤ B1 := by omega
            have hs1 : SrcI wr none [] := SrcI.nil _ _
            have hold1 : ∀ a', (none : Option Addr) = some a' → a'.block < B1 := fun a' e => by cases e
            have hs2 := hs1
            have hold2 := hold1
            refine start_ (n := 13) (S := fun w' => True) (ds := []) #[false, false, false, false, false, false, false, false, false, false, false, false, false] (by kernel_rfl) rfl rfl trivial (fun hHeld => ?_)
            refine pure_ (i := 1) (N := some 69) (v := ?_) (a' := ?_) #[false, true, false, false, false, false, false, false, false, false, false, false, false] rfl rfl (by kernel_rfl) (fun _ _ _ h => h) (Or.inl ⟨by rfl, ?_⟩) ?_ ?_
            rotate_left
            · intro w'
              go_simp
              with_reducible rfl
            rotate_left
            · simp only [Act.put, List.setIfInBounds_toArray, List.set_cons_zero, List.set_cons_succ]
              rfl
            refine pure_ (i := 2) (N := some 70) (v := ?_) (a' := ?_) #[false, true, true, false, false, false, false, false, false, false, false, false, false] rfl rfl (by kernel_rfl) (fun _ _ _ h => h) (Or.inl ⟨by rfl, ?_⟩) ?_ ?_
            rotate_left
            · intro w'
              go_simp
              with_reducible rfl
            rotate_left
            · simp only [Act.put, List.setIfInBounds_toArray, List.set_cons_zero, List.set_cons_succ]
              rfl
            refine pure_ (i := 3) (N := some 71) (v := ?_) (a' := ?_) #[false, true, true, true, false, false, false, false, false, false, false, false, false] rfl rfl (by kernel_rfl) (fun _ _ _ h => h) (Or.inl ⟨by rfl, ?_⟩) ?_ ?_
            rotate_left
            · intro w'
              go_simp
              with_reducible rfl
            rotate_left
            · simp only [Act.put, List.setIfInBounds_toArray, List.set_cons_zero, List.set_cons_succ]
              rfl
            refine pure_ (i := 5) (N := some 73) (v := ?_) (a' := ?_) #[false, true, true, true, false, true, false, false, false, false, false, false, false] rfl rfl (by kernel_rfl) (fun _ _ _ h => h) (Or.inl ⟨by rfl, ?_⟩) ?_ ?_
            rotate_left
            · intro w'
              go_simp
              with_reducible rfl
            rotate_left
            · simp only [Act.put, List.setIfInBounds_toArray, List.set_cons_zero, List.set_cons_succ]
              rfl
            refine pure_ (i := 8) (N := some 76) (v := ?_) (a' := ?_) #[false, true, true, true, false, true, false, false, true, false, false, false, false] rfl rfl (by kernel_rfl) (fun _ _ _ h => h) (Or.inl ⟨by rfl, ?_⟩) ?_ ?_
            rotate_left
            · intro w'
              go_simp
              with_reducible rfl
            rotate_left
            · simp only [Act.put, List.setIfInBounds_toArray, List.set_cons_zero, List.set_cons_succ]
              rfl
            refine pure_ (i := 9) (N := some 77) (v := ?_) (a' := ?_) #[false, true, true, true, false, true, false, false, true, true, false, false, false] rfl rfl (by kernel_rfl) (fun _ _ _ h => h) (Or.inl ⟨by rfl, ?_⟩) ?_ ?_
            rotate_left
            · intro w'
              go_simp
              with_reducible rfl
            rotate_left
            · simp only [Act.put, List.setIfInBounds_toArray, List.set_cons_zero, List.set_cons_succ]
              rfl
            refine pure_ (i := 10) (N := some 78) (v := ?_) (a' := ?_) #[false, true, true, true, false, true, false, false, true, true, true, false, false] rfl rfl (by kernel_rfl) (fun _ _ _ h => h) (Or.inl ⟨by rfl, ?_⟩) ?_ ?_
            rotate_left
            · intro w'
              go_simp
              with_reducible rfl
            rotate_left
            · simp only [Act.put, List.setIfInBounds_toArray, List.set_cons_zero, List.set_cons_succ]
              rfl
            refine join_ (σ := Nat × Nat × Value) 3 #[true, true, true, true, true, true, true, false, true, true, true, false, false] (fun s => [(68, .slice (some ⟨s.1, 0, none⟩) 0 0), (74, .slice (some ⟨s.2.1, 0, none⟩) 1 1), (72, s.2.2)]) (fun s w' => w'.ownsRow B1 3 1 s.2.2 (0 + 0) (([] ++ []).map encZ) ∧ w'.heap[s.2.1]? = some (.cells #[.int .i64 id] 3 (0, 0)) ∧ Below B1 wr w' ∧ B1 ≤ w'.heap.size) ?_ ?_
            rotate_left
            · intro hCont
              refine two_ (i := 0) (j := 6) (Ni := some 68) (Nj := some 74) #[true, true, true, true, false, true, false, false, true, true, true, false, false] #[false, true, true, true, false, true, true, false, true, true, true, false, false] rfl rfl rfl rfl (by kernel_rfl) (by decide) (by decide) (fun K hK => ?_) (fun K hK => ?_)
              · skip
                obtain ⟨N1, hN1⟩ : ∃ N, wr.drew.heap.size = N := ⟨_, rfl⟩
                have hNB1 : B1 ≤ N1 := by have := (Below.refl B1 wr).drew.size; omega
                refine step_build0 wr.drew rfl rfl N1 hN1 ?_
                intro w1 k1 l1 e1
                have b1 : Below B1 wr w1 := (Below.refl B1 wr).drew.trans (e1.mono hNB1)
                have s1 := b1.size
                refine hK.out _ _ trivial (fun hHeld => ?_)
                clear hK K
                refine norm_ (a' := ?_) ?_ ?_
                rotate_left
                · show Act.put _ (some 68) _ = _
                  simp only [Act.put, List.setIfInBounds_toArray, List.set_cons_zero, List.set_cons_succ]
                  rfl
                refine two_ (i := 4) (j := 6) (Ni := some 72) (Nj := some 74) #[true, true, true, true, true, true, false, false, true, true, true, false, false] #[true, true, true, true, false, true, true, false, true, true, true, false, false] rfl rfl rfl rfl (by kernel_rfl) (by decide) (by decide) (fun K hK => ?_) (fun K hK => ?_)
                · skip
                  refine step_app w1 rfl (.tmp 68) (.tmp 71) rfl B1 (.slice (some ⟨N1, 0, none⟩) 0 0) 0 [] (by rfl) (owns_empty hNB1 k1) none 0 0 [] (by rfl) (by simp) ((hs1).below b1 (hold1)) (by omega) (by omega) (by omega) ?_
                  intro v1 w2 o1 g1 e2 z1
                  have b2 : Below B1 wr w2 := b1.trans e2
                  have s2 := b2.size
                  refine hK.out _ _ trivial (fun hHeld => ?_)
                  clear hK K
                  refine norm_ (a' := ?_) ?_ ?_
                  rotate_left
                  · show Act.put _ (some 72) _ = _
                    simp only [Act.put, List.setIfInBounds_toArray, List.set_cons_zero, List.set_cons_succ]
                    rfl
                  refine one_ (i := 6) (N := some 74) #[true, true, true, true, true, true, true, false, true, true, true, false, false] rfl rfl (by kernel_rfl) (by decide) (fun K hK => ?_)
                  obtain ⟨N2, hN2⟩ : ∃ N, w2.heap.size = N := ⟨_, rfl⟩
                  have hNB2 : B1 ≤ N2 := by have := b2.size; omega
                  refine step_build1 w2 rfl 73 rfl id (by rfl) N2 hN2 ?_
                  intro w3 k2 l2 e3
                  have b3 : Below B1 wr w3 := b2.trans (e3.mono hNB2)
                  have o1 := owns_below o1 e3 (by omega)
                  have s3 := b3.size
                  refine hK.out _ _ trivial (fun hHeld => ?_)
                  clear hK K
                  refine norm_ (a' := ?_) ?_ ?_
                  rotate_left
                  · show Act.put _ (some 74) _ = _
                    simp only [Act.put, List.setIfInBounds_toArray, List.set_cons_zero, List.set_cons_succ]
                    rfl
                  exact norm_ (by simp only [putAll, Act.put, List.setIfInBounds_toArray, List.set_cons_zero, List.set_cons_succ]) (hCont (N1, N2, v1) _ ⟨o1, k2, b3, by omega⟩)
                · skip
                  obtain ⟨N2, hN2⟩ : ∃ N, w1.heap.size = N := ⟨_, rfl⟩
                  have hNB2 : B1 ≤ N2 := by have := b1.size; omega
                  refine step_build1 w1 rfl 73 rfl id (by rfl) N2 hN2 ?_
                  intro w2 k2 l2 e2
                  have b2 : Below B1 wr w2 := b1.trans (e2.mono hNB2)
                  have k1 := (e2.block N1 (by omega)).trans k1
                  have s2 := b2.size
                  refine hK.out _ _ trivial (fun hHeld => ?_)
                  clear hK K
                  refine norm_ (a' := ?_) ?_ ?_
                  rotate_left
                  · show Act.put _ (some 74) _ = _
                    simp only [Act.put, List.setIfInBounds_toArray, List.set_cons_zero, List.set_cons_succ]
                    rfl
                  refine one_ (i := 4) (N := some 72) #[true, true, true, true, true, true, true, false, true, true, true, false, false] rfl rfl (by kernel_rfl) (by decide) (fun K hK => ?_)
                  refine step_app w2 rfl (.tmp 68) (.tmp 71) rfl B1 (.slice (some ⟨N1, 0, none⟩) 0 0) 0 [] (by rfl) (owns_empty hNB1 k1) none 0 0 [] (by rfl) (by simp) ((hs1).below b2 (hold1)) (by omega) (by omega) (by omega) ?_
                  intro v1 w3 o1 g1 e3 z1
                  have b3 : Below B1 wr w3 := b2.trans e3
                  have k2 := (g1.block N2 (by omega) (by simp [Value.ownBlock]; omega)).trans k2
                  have s3 := b3.size
                  refine hK.out _ _ trivial (fun hHeld => ?_)
                  clear hK K
                  refine norm_ (a' := ?_) ?_ ?_
                  rotate_left
                  · show Act.put _ (some 72) _ = _
                    simp only [Act.put, List.setIfInBounds_toArray, List.set_cons_zero, List.set_cons_succ]
                    rfl
                  exact norm_ (by simp only [putAll, Act.put, List.setIfInBounds_toArray, List.set_cons_zero, List.set_cons_succ]) (hCont (N1, N2, v1) _ ⟨o1, k2, b3, by omega⟩)
              · skip
                obtain ⟨N2, hN2⟩ : ∃ N, wr.drew.heap.size = N := ⟨_, rfl⟩
                have hNB2 : B1 ≤ N2 := by have := (Below.refl B1 wr).drew.size; omega
                refine step_build1 wr.drew rfl 73 rfl id (by rfl) N2 hN2 ?_
                intro w1 k2 l2 e1
                have b1 : Below B1 wr w1 := (Below.refl B1 wr).drew.trans (e1.mono hNB2)
                have s1 := b1.size
                refine hK.out _ _ trivial (fun hHeld => ?_)
                clear hK K
                refine norm_ (a' := ?_) ?_ ?_
                rotate_left
                · show Act.put _ (some 74) _ = _
                  simp only [Act.put, List.setIfInBounds_toArray, List.set_cons_zero, List.set_cons_succ]
                  rfl
                refine one_ (i := 0) (N := some 68) #[true, true, true, true, false, true, true, false, true, true, true, false, false] rfl rfl (by kernel_rfl) (by decide) (fun K hK => ?_)
                obtain ⟨N1, hN1⟩ : ∃ N, w1.heap.size = N := ⟨_, rfl⟩
                have hNB1 : B1 ≤ N1 := by have := b1.size; omega
                refine step_build0 w1 rfl rfl N1 hN1 ?_
                intro w2 k1 l1 e2
                have b2 : Below B1 wr w2 := b1.trans (e2.mono hNB1)
                have k2 := (e2.block N2 (by omega)).trans k2
                have s2 := b2.size
                refine hK.out _ _ trivial (fun hHeld => ?_)
                clear hK K
                refine norm_ (a' := ?_) ?_ ?_
                rotate_left
                · show Act.put _ (some 68) _ = _
                  simp only [Act.put, List.setIfInBounds_toArray, List.set_cons_zero, List.set_cons_succ]
                  rfl
                refine one_ (i := 4) (N := some 72) #[true, true, true, true, true, true, true, false, true, true, true, false, false] rfl rfl (by kernel_rfl) (by decide) (fun K hK => ?_)
                refine step_app w2 rfl (.tmp 68) (.tmp 71) rfl B1 (.slice (some ⟨N1, 0, none⟩) 0 0) 0 [] (by rfl) (owns_empty hNB1 k1) none 0 0 [] (by rfl) (by simp) ((hs1).below b2 (hold1)) (by omega) (by omega) (by omega) ?_
                intro v1 w3 o1 g1 e3 z1
                have b3 : Below B1 wr w3 := b2.trans e3
                have k2 := (g1.block N2 (by omega) (by simp [Value.ownBlock]; omega)).trans k2
                have s3 := b3.size
                refine hK.out _ _ trivial (fun hHeld => ?_)
                clear hK K
                refine norm_ (a' := ?_) ?_ ?_
                rotate_left
                · show Act.put _ (some 72) _ = _
                  simp only [Act.put, List.setIfInBounds_toArray, List.set_cons_zero, List.set_cons_succ]
                  rfl
                exact norm_ (by simp only [putAll, Act.put, List.setIfInBounds_toArray, List.set_cons_zero, List.set_cons_succ]) (hCont (N1, N2, v1) _ ⟨o1, k2, b3, by omega⟩)
            rintro ⟨N1, N2, v1⟩ w4 ⟨o1, k2, b4, s4⟩
            have hHeld : True := trivial
            refine norm_ (a' := ?_) ?_ ?_
            rotate_left
            · simp only [putAll, Act.put, List.setIfInBounds_toArray, List.set_cons_zero, List.set_cons_succ]
              rfl
            refine one_ (i := 7) (N := some 75) #[true, true, true, true, true, true, true, true, true, true, true, false, false] rfl rfl (by kernel_rfl) (by decide) (fun K hK => ?_)
            refine step_app w4 rfl (.tmp 72) (.tmp 74) rfl B1 v1 (0 + 0) ([] ++ []) (by rfl) o1 (some ⟨N2, 0, none⟩) 1 1 [id] (by rfl) rfl (SrcI.one k2) (by omega) (by omega) (by omega) ?_
            intro v2 w5 o2 g2 e5 z2
            have b5 : Below B1 wr w5 := b4.trans e5
            have s5 := b5.size
            refine hK.out _ _ trivial (fun hHeld => ?_)
            clear hK K
            refine norm_ (a' := ?_) ?_ ?_
            rotate_left
            · show Act.put _ (some 75) _ = _
              simp only [Act.put, List.setIfInBounds_toArray, List.set_cons_zero, List.set_cons_succ]
              rfl
            refine one_ (i := 11) (N := some 79) #[true, true, true, true, true, true, true, true, true, true, true, true, false] rfl rfl (by kernel_rfl) (by decide) (fun K hK => ?_)
            refine step_app w5 rfl (.tmp 75) (.tmp 78) rfl B1 v2 (0 + 0 + 1) ([] ++ [] ++ [id]) (by rfl) o2 none 0 0 [] (by rfl) (by simp) ((hs2).below b5 (hold2)) (by omega) (by omega) (by omega) ?_
            intro v3 w6 o3 g3 e6 z3
            have b6 : Below B1 wr w6 := b5.trans e6
            have s6 := b6.size
            refine hK.out _ _ trivial (fun hHeld => ?_)
            clear hK K
            refine norm_ (a' := ?_) ?_ ?_
            rotate_left
            · show Act.put _ (some 79) _ = _
              simp only [Act.put, List.setIfInBounds_toArray, List.set_cons_zero, List.set_cons_succ]
              rfl
            refine pure_ (i := 12) (N := some 7) (v := ?_) (a' := ?_) #[true, true, true, true, true, true, true, true, true, true, true, true, true] rfl rfl (by kernel_rfl) (fun _ _ _ h => h) (Or.inl ⟨by rfl, ?_⟩) ?_ ?_
            rotate_left
            · intro w'
              go_simp
              with_reducible rfl
            rotate_left
            · simp only [Act.put, List.setIfInBounds_toArray, List.set_cons_zero, List.set_cons_succ]
              rfl
            refine done_ (by kernel_rfl) ?_
            clear hs1 hs2 hold1 hold2 g2 g3 z2 z3 o1 o2 k2 b4 b5 e5 e6 s4 s5
            have hrow := (Row.of_ins (xs := [id]) o3 rfl).base hB1'
            have hb := hb.trans (b6.mono (by omega))
            have hp1 := hp1.chg (Chg.of_below b6 (F := fun _ => False) (fun k hk hk' => by omega)) (fun h => h) (fun h => h)
            clear o3 b6 hHeld
            obtain ⟨g', cp', rfl, hcp', hcm', hg0', hg1', hcells'⟩ := hrow.shape3 (by simp)
            clear hcells'
            go_wp2_with fail
            have t := take_calls hp1 id (wf_small _ (by omega) (by omega)) (by show (([] : List Int)).length ≤ 1000; simp)
            rw [take_yes rfl HM.out (by show ((List.length ([] : List Int) : Nat) : Int) < Rm; simp; omega)] at t
            refine t.mono ?_
            clear t
            rintro e w4 ⟨rfl, h4, hc4⟩
            have b4 := hc4.below_of hb hb.size (fun k hk hF => by rcases hF with rfl | rfl <;> omega)
            have z4 := hc4.size
            have r4 := hrow.chg hc4 (pf_no hpB hmB)
            clear hc4 hp1 hb hrow
            go_wp2_with fail
            refine (load_calls h4).mono ?_
            rintro e w5 ⟨rfl, rfl⟩
            rw [show ((id :: []).length : Int) = ([id].length : Nat) from by simp]
            go_wp2_with fail
            go_roundw
            case rel => exact ⟨j + 1, [id], (id :: []), by omega, by go_num, Lib.hid ⟨(fun h => by cases h), (fun h => by cases h)⟩, (Lib.hid (.refl _)), (Lib.hid (by simp)), by (simp; omega), by (simp; omega), h4, b4, r4, by omega⟩
            case measure => simp [vInt]; omega
        · have hpos : 0 < L.length := List.length_pos_iff.2 hL
          clear hL
          obtain ⟨g, cp, rfl, hcp, hcm, hg0, hg1, hcells⟩ := hrow.shape3 hpos
          have HC := Lib.hid hcells
          clear hcells
          go_wp2_with fail
          refine (within_calls _ _ _ (by omega) (by omega)).mono ?_
          rintro e w4 ⟨rfl, rfl⟩
          have hi0 := Wi.lo (a := xs[j]?.getD 0) (n := 30) (by omega)
          have hi1 := Wi.hi (a := xs[j]?.getD 0) (n := 30) (by omega)
          generalize Wi (xs[j]?.getD 0) 30 = q at hi0 hi1 ⊢
          go_wp2_with fail
          clear hc
          obtain ⟨id, hid⟩ : ∃ id : Int, id = 1 + q := ⟨_, rfl⟩
          have hid0 : 0 ≤ id := by omega
          have hid1 : id ≤ 31 := by omega
          rw [← hid]
          clear hid hi0 hi1
          go_loop [10, 11] (fun v10 v11 => ∃ (a : Nat) (c : Bool), a ≤ L.length ∧ v10 = .int .i64 a ∧ v11 = .bool c ∧ Hid (∀ y ∈ L.take a, y ≤ id) ∧ Hid (c = decide (id ∈ L.take a))) (fun v10 _ => L.length - (vInt v10).toNat)
          case atStart => exact ⟨0, false, by omega, rfl, rfl, Lib.hid (by simp), Lib.hid (by simp)⟩
          case round =>
            obtain ⟨a, c, ha, rfl, rfl, hf1, hC⟩ := hrel
            by_cases hlt2 : a < L.length
            · have hce := HC.out a hlt2
              by_cases hq : L.getD a 0 ≤ id
              · obtain rfl : c = false := by rw [hC.out]; exact decide_eq_false (take_sorted hSO.out hlt2 hq)
                have HT := Lib.hid (take_step hlt2)
                have hf1' := Lib.hid (show ∀ y ∈ L.take (a + 1), y ≤ id from by
                  rw [HT.out]
                  intro y hy
                  rcases List.mem_append.1 hy with hy | hy
                  · exact hf1.out y hy
                  · simp only [List.mem_singleton] at hy; omega)
                have hC2 := Lib.hid (show decide (L.getD a 0 = id) = decide (id ∈ L.take (a + 1)) from by
                  rw [HT.out]
                  congr 1
                  refine propext ⟨fun h => List.mem_append.2 (.inr (by simp only [List.mem_singleton]; exact h.symm)), fun h => ?_⟩
                  rcases List.mem_append.1 h with h | h
                  · exact absurd h (of_decide_eq_false hC.out.symm)
                  · simp only [List.mem_singleton] at h; exact h.symm)
                clear hC hf1 HT
                generalize L.getD a 0 = z at hce hq hC2
                by_cases hz : z = id
                · have hz1 : (z == id) = true := by simp [hz]
                  have HC2 := Lib.hid (show true = decide (id ∈ L.take (a + 1)) from by rw [← hC2.out]; exact (decide_eq_true hz).symm)
                  clear hz hC2
                  go_wp2_with fail
                  go_round
                  case rel => exact ⟨a + 1, true, by omega, by go_num, rfl, hf1', HC2⟩
                  case measure => simp [vInt]; omega
                · have hz1 : (z == id) = false := by simp [hz]
                  have HC2 := Lib.hid (show false = decide (id ∈ L.take (a + 1)) from by rw [← hC2.out]; exact (decide_eq_false hz).symm)
                  clear hz hC2
                  go_wp2_with fail
                  go_round
                  case rel => exact ⟨a + 1, false, by omega, by go_num, rfl, hf1', HC2⟩
                  case measure => simp [vInt]; omega
              · have hf2 := Lib.hid (drop_sorted hSO.out hlt2 (by omega : id < L.getD a 0))
                have hC := Lib.hid (has_eq hC.out hf2.out)
                have hq' : ¬ (L.getD a 0 ≤ id) := hq
                clear hq
                generalize L.getD a 0 = z at hce hq'
                cases c with
                | true =>
                  have HM := Lib.hid (hSP.out.mem_iff.2 (of_decide_eq_true hC.out.symm))
                  go_wp2_with fail
                  have t := take_calls hp1 id (wf_small _ (by omega) (by omega)) (by show (S).length ≤ 1000; omega)
                  rw [take_twice rfl HM.out] at t
                  refine t.mono ?_
                  clear t
                  rintro e w4 ⟨rfl, h4, hc4⟩
                  have b4 := hc4.below_of hb hb.size (fun k hk hF => by rcases hF with rfl | rfl <;> omega)
                  have z4 := hc4.size
                  have r4 := hrow.chg hc4 (pf_no hpB hmB)
                  clear hc4 hp1 hb hrow
                  go_wp2_with fail
                  refine (load_calls h4).mono ?_
                  rintro e w5 ⟨rfl, rfl⟩
                  rw [show (S.length : Int) = (L.length : Nat) from by omega]
                  go_wp2_with fail
                  go_roundw
                  case rel => exact ⟨j + 1, L, S, by omega, by go_num, hnil, hSP, hSO, by omega, by omega, h4, b4, r4, by omega⟩
                  case measure => simp [vInt]; omega
                | false =>
                  have HM := Lib.hid (fun h => of_decide_eq_false hC.out.symm (hSP.out.mem_iff.1 h))
                  by_cases hKL : Rm ≤ L.length
                  · go_wp2_with fail
                    have t := take_calls hp1 id (wf_small _ (by omega) (by omega)) (by show (S).length ≤ 1000; omega)
                    rw [take_full rfl HM.out (by show (Rm : Int) ≤ S.length; omega)] at t
                    refine t.mono ?_
                    clear t
                    rintro e w4 ⟨rfl, h4, hc4⟩
                    have b4 := hc4.below_of hb hb.size (fun k hk hF => by rcases hF with rfl | rfl <;> omega)
                    have z4 := hc4.size
                    have r4 := hrow.chg hc4 (pf_no hpB hmB)
                    clear hc4 hp1 hb hrow
                    go_wp2_with fail
                    refine (load_calls h4).mono ?_
                    rintro e w5 ⟨rfl, rfl⟩
                    rw [show (S.length : Int) = (L.length : Nat) from by omega]
                    go_wp2_with fail
                    go_roundw
                    case rel => exact ⟨j + 1, L, S, by omega, by go_num, hnil, hSP, hSO, by omega, by omega, h4, b4, r4, by omega⟩
                    case measure => simp [vInt]; omega
                  · have hKL' : L.length < Rm := by omega
                    clear hKL
                    go_wp2_with fail
                    obtain ⟨B1, hB1⟩ : ∃ B1, wr.heap.size = B1 := ⟨_, rfl⟩
                    have hB1' : B ≤ B1 := by omega
                    have hs1 := SrcI.firsts HC.out a
                    have hold1 : ∀ a', some (⟨g, 0, none⟩ : Addr) = some a' → a'.block < B1 := fun a' e => by cases e; exact hB1 ▸ hg1
                    have hs2 := SrcI.rest HC.out a cp hcp ha
                    have hold2 := old_block g a cp B1 (by omega)
                    have hi0 : (0 : Int) ≤ (a : Int) := Int.natCast_nonneg _
                    have hi1 : (a : Int) ≤ (L.length : Int) := by omega
                    have hi2 : (a : Int) ≤ (cp : Int) := by omega
                    refine start_ (n := 13) (S := fun w' => True) (ds := []) #[false, false, false, false, false, false, false, false, false, false, false, false, false] (by kernel_rfl) rfl rfl trivial (fun hHeld => ?_)
                    refine pure_ (i := 1) (N := some 69) (v := ?_) (a' := ?_) #[false, true, false, false, false, false, false, false, false, false, false, false, false] rfl rfl (by kernel_rfl) (fun _ _ _ h => h) (Or.inl ⟨by rfl, ?_⟩) ?_ ?_
                    rotate_left
                    · intro w'
                      go_simp
                      with_reducible rfl
                    rotate_left
                    · simp only [Act.put, List.setIfInBounds_toArray, List.set_cons_zero, List.set_cons_succ]
                      rfl
                    refine pure_ (i := 2) (N := some 70) (v := ?_) (a' := ?_) #[false, true, true, false, false, false, false, false, false, false, false, false, false] rfl rfl (by kernel_rfl) (fun _ _ _ h => h) (Or.inl ⟨by rfl, ?_⟩) ?_ ?_
                    rotate_left
                    · intro w'
                      go_simp
                      with_reducible rfl
                    rotate_left
                    · simp only [Act.put, List.setIfInBounds_toArray, List.set_cons_zero, List.set_cons_succ]
                      rfl
                    refine pure_ (i := 3) (N := some 71) (v := ?_) (a' := ?_) #[false, true, true, true, false, false, false, false, false, false, false, false, false] rfl rfl (by kernel_rfl) (fun _ _ _ h => h) (Or.inl ⟨by rfl, ?_⟩) ?_ ?_
                    rotate_left
                    · intro w'
                      go_simp
                      with_reducible rfl
                    rotate_left
                    · simp only [Act.put, List.setIfInBounds_toArray, List.set_cons_zero, List.set_cons_succ]
                      rfl
                    refine pure_ (i := 5) (N := some 73) (v := ?_) (a' := ?_) #[false, true, true, true, false, true, false, false, false, false, false, false, false] rfl rfl (by kernel_rfl) (fun _ _ _ h => h) (Or.inl ⟨by rfl, ?_⟩) ?_ ?_
                    rotate_left
                    · intro w'
                      go_simp
                      with_reducible rfl
                    rotate_left
                    · simp only [Act.put, List.setIfInBounds_toArray, List.set_cons_zero, List.set_cons_succ]
                      rfl
                    refine pure_ (i := 8) (N := some 76) (v := ?_) (a' := ?_) #[false, true, true, true, false, true, false, false, true, false, false, false, false] rfl rfl (by kernel_rfl) (fun _ _ _ h => h) (Or.inl ⟨by rfl, ?_⟩) ?_ ?_
                    rotate_left
                    · intro w'
                      go_simp
                      with_reducible rfl
                    rotate_left
                    · simp only [Act.put, List.setIfInBounds_toArray, List.set_cons_zero, List.set_cons_succ]
                      rfl
                    refine pure_ (i := 9) (N := some 77) (v := ?_) (a' := ?_) #[false, true, true, true, false, true, false, false, true, true, false, false, false] rfl rfl (by kernel_rfl) (fun _ _ _ h => h) (Or.inl ⟨by rfl, ?_⟩) ?_ ?_
                    rotate_left
                    · intro w'
                      go_simp
                      with_reducible rfl
                    rotate_left
                    · simp only [Act.put, List.setIfInBounds_toArray, List.set_cons_zero, List.set_cons_succ]
                      rfl
                    refine pure_ (i := 10) (N := some 78) (v := ?_) (a' := ?_) #[false, true, true, true, false, true, false, false, true, true, true, false, false] rfl rfl (by kernel_rfl) (fun _ _ _ h => h) (Or.inl ⟨by rfl, ?_⟩) ?_ ?_
                    rotate_left
                    · intro w'
                      go_simp
                      with_reducible rfl
                    rotate_left
                    · simp only [Act.put, List.setIfInBounds_toArray, List.set_cons_zero, List.set_cons_succ]
                      rfl
                    refine join_ (σ := Nat × Nat × Value) 3 #[true, true, true, true, true, true, true, false, true, true, true, false, false] (fun s => [(68, .slice (some ⟨s.1, 0, none⟩) 0 0), (74, .slice (some ⟨s.2.1, 0, none⟩) 1 1), (72, s.2.2)]) (fun s w' => w'.ownsRow B1 3 1 s.2.2 (0 + a) (([] ++ (L.take a)).map encZ) ∧ w'.heap[s.2.1]? = some (.cells #[.int .i64 id] 3 (0, 0)) ∧ Below B1 wr w' ∧ B1 ≤ w'.heap.size) ?_ ?_
                    rotate_left
                    · intro hCont
                      refine two_ (i := 0) (j := 6) (Ni := some 68) (Nj := some 74) #[true, true, true, true, false, true, false, false, true, true, true, false, false] #[false, true, true, true, false, true, true, false, true, true, true, false, false] rfl rfl rfl rfl (by kernel_rfl) (by decide) (by decide) (fun K hK => ?_) (fun K hK => ?_)
                      · skip
                        obtain ⟨N1, hN1⟩ : ∃ N, wr.drew.heap.size = N := ⟨_, rfl⟩
                        have hNB1 : B1 ≤ N1 := by have := (Below.refl B1 wr).drew.size; omega
                        refine step_build0 wr.drew rfl rfl N1 hN1 ?_
                        intro w1 k1 l1 e1
                        have b1 : Below B1 wr w1 := (Below.refl B1 wr).drew.trans (e1.mono hNB1)
                        have s1 := b1.size
                        refine hK.out _ _ trivial (fun hHeld => ?_)
                        clear hK K
                        refine norm_ (a' := ?_) ?_ ?_
                        rotate_left
                        · show Act.put _ (some 68) _ = _
                          simp only [Act.put, List.setIfInBounds_toArray, List.set_cons_zero, List.set_cons_succ]
                          rfl
                        refine two_ (i := 4) (j := 6) (Ni := some 72) (Nj := some 74) #[true, true, true, true, true, true, false, false, true, true, true, false, false] #[true, true, true, true, false, true, true, false, true, true, true, false, false] rfl rfl rfl rfl (by kernel_rfl) (by decide) (by decide) (fun K hK => ?_) (fun K hK => ?_)
                        · skip
                          refine step_app w1 rfl (.tmp 68) (.tmp 71) rfl B1 (.slice (some ⟨N1, 0, none⟩) 0 0) 0 [] (by rfl) (owns_empty hNB1 k1) (some ⟨g, 0, none⟩) a cp (L.take a) (by rfl) (by simp; omega) ((hs1).below b1 (hold1)) (by omega) (by omega) (by omega) ?_
                          intro v1 w2 o1 g1 e2 z1
                          have b2 : Below B1 wr w2 := b1.trans e2
                          have s2 := b2.size
                          refine hK.out _ _ trivial (fun hHeld => ?_)
                          clear hK K
                          refine norm_ (a' := ?_) ?_ ?_
                          rotate_left
                          · show Act.put _ (some 72) _ = _
                            simp only [Act.put, List.setIfInBounds_toArray, List.set_cons_zero, List.set_cons_succ]
                            rfl
                          refine one_ (i := 6) (N := some 74) #[true, true, true, true, true, true, true, false, true, true, true, false, false] rfl rfl (by kernel_rfl) (by decide) (fun K hK => ?_)
                          obtain ⟨N2, hN2⟩ : ∃ N, w2.heap.size = N := ⟨_, rfl⟩
                          have hNB2 : B1 ≤ N2 := by have := b2.size; omega
                          refine step_build1 w2 rfl 73 rfl id (by rfl) N2 hN2 ?_
                          intro w3 k2 l2 e3
                          have b3 : Below B1 wr w3 := b2.trans (e3.mono hNB2)
                          have o1 := owns_below o1 e3 (by omega)
                          have s3 := b3.size
                          refine hK.out _ _ trivial (fun hHeld => ?_)
                          clear hK K
                          refine norm_ (a' := ?_) ?_ ?_
                          rotate_left
                          · show Act.put _ (some 74) _ = _
                            simp only [Act.put, List.setIfInBounds_toArray, List.set_cons_zero, List.set_cons_succ]
                            rfl
                          exact norm_ (by simp only [putAll, Act.put, List.setIfInBounds_toArray, List.set_cons_zero, List.set_cons_succ]) (hCont (N1, N2, v1) _ ⟨o1, k2, b3, by omega⟩)
                        · skip
                          obtain ⟨N2, hN2⟩ : ∃ N, w1.heap.size = N := ⟨_, rfl⟩
                          have hNB2 : B1 ≤ N2 := by have := b1.size; omega
                          refine step_build1 w1 rfl 73 rfl id (by rfl) N2 hN2 ?_
                          intro w2 k2 l2 e2
                          have b2 : Below B1 wr w2 := b1.trans (e2.mono hNB2)
                          have k1 := (e2.block N1 (by omega)).trans k1
                          have s2 := b2.size
                          refine hK.out _ _ trivial (fun hHeld => ?_)
                          clear hK K
                          refine norm_ (a' := ?_) ?_ ?_
                          rotate_left
                          · show Act.put _ (some 74) _ = _
                            simp only [Act.put, List.setIfInBounds_toArray, List.set_cons_zero, List.set_cons_succ]
                            rfl
                          refine one_ (i := 4) (N := some 72) #[true, true, true, true, true, true, true, false, true, true, true, false, false] rfl rfl (by kernel_rfl) (by decide) (fun K hK => ?_)
                          refine step_app w2 rfl (.tmp 68) (.tmp 71) rfl B1 (.slice (some ⟨N1, 0, none⟩) 0 0) 0 [] (by rfl) (owns_empty hNB1 k1) (some ⟨g, 0, none⟩) a cp (L.take a) (by rfl) (by simp; omega) ((hs1).below b2 (hold1)) (by omega) (by omega) (by omega) ?_
                          intro v1 w3 o1 g1 e3 z1
                          have b3 : Below B1 wr w3 := b2.trans e3
                          have k2 := (g1.block N2 (by omega) (by simp [Value.ownBlock]; omega)).trans k2
                          have s3 := b3.size
                          refine hK.out _ _ trivial (fun hHeld => ?_)
                          clear hK K
                          refine norm_ (a' := ?_) ?_ ?_
                          rotate_left
                          · show Act.put _ (some 72) _ = _
                            simp only [Act.put, List.setIfInBounds_toArray, List.set_cons_zero, List.set_cons_succ]
                            rfl
                          exact norm_ (by simp only [putAll, Act.put, List.setIfInBounds_toArray, List.set_cons_zero, List.set_cons_succ]) (hCont (N1, N2, v1) _ ⟨o1, k2, b3, by omega⟩)
                      · skip
                        obtain ⟨N2, hN2⟩ : ∃ N, wr.drew.heap.size = N := ⟨_, rfl⟩
                        have hNB2 : B1 ≤ N2 := by have := (Below.refl B1 wr).drew.size; omega
                        refine step_build1 wr.drew rfl 73 rfl id (by rfl) N2 hN2 ?_
                        intro w1 k2 l2 e1
                        have b1 : Below B1 wr w1 := (Below.refl B1 wr).drew.trans (e1.mono hNB2)
                        have s1 := b1.size
                        refine hK.out _ _ trivial (fun hHeld => ?_)
                        clear hK K
                        refine norm_ (a' := ?_) ?_ ?_
                        rotate_left
                        · show Act.put _ (some 74) _ = _
                          simp only [Act.put, List.setIfInBounds_toArray, List.set_cons_zero, List.set_cons_succ]
                          rfl
                        refine one_ (i := 0) (N := some 68) #[true, true, true, true, false, true, true, false, true, true, true, false, false] rfl rfl (by kernel_rfl) (by decide) (fun K hK => ?_)
                        obtain ⟨N1, hN1⟩ : ∃ N, w1.heap.size = N := ⟨_, rfl⟩
                        have hNB1 : B1 ≤ N1 := by have := b1.size; omega
                        refine step_build0 w1 rfl rfl N1 hN1 ?_
                        intro w2 k1 l1 e2
                        have b2 : Below B1 wr w2 := b1.trans (e2.mono hNB1)
                        have k2 := (e2.block N2 (by omega)).trans k2
                        have s2 := b2.size
                        refine hK.out _ _ trivial (fun hHeld => ?_)
                        clear hK K
                        refine norm_ (a' := ?_) ?_ ?_
                        rotate_left
                        · show Act.put _ (some 68) _ = _
                          simp only [Act.put, List.setIfInBounds_toArray, List.set_cons_zero, List.set_cons_succ]
                          rfl
                        refine one_ (i := 4) (N := some 72) #[true, true, true, true, true, true, true, false, true, true, true, false, false] rfl rfl (by kernel_rfl) (by decide) (fun K hK => ?_)
                        refine step_app w2 rfl (.tmp 68) (.tmp 71) rfl B1 (.slice (some ⟨N1, 0, none⟩) 0 0) 0 [] (by rfl) (owns_empty hNB1 k1) (some ⟨g, 0, none⟩) a cp (L.take a) (by rfl) (by simp; omega) ((hs1).below b2 (hold1)) (by omega) (by omega) (by omega) ?_
                        intro v1 w3 o1 g1 e3 z1
                        have b3 : Below B1 wr w3 := b2.trans e3
                        have k2 := (g1.block N2 (by omega) (by simp [Value.ownBlock]; omega)).trans k2
                        have s3 := b3.size
                        refine hK.out _ _ trivial (fun hHeld => ?_)
                        clear hK K
                        refine norm_ (a' := ?_) ?_ ?_
                        rotate_left
                        · show Act.put _ (some 72) _ = _
                          simp only [Act.put, List.setIfInBounds_toArray, List.set_cons_zero, List.set_cons_succ]
                          rfl
                        exact norm_ (by simp only [putAll, Act.put, List.setIfInBounds_toArray, List.set_cons_zero, List.set_cons_succ]) (hCont (N1, N2, v1) _ ⟨o1, k2, b3, by omega⟩)
                    rintro ⟨N1, N2, v1⟩ w4 ⟨o1, k2, b4, s4⟩
                    have hHeld : True := trivial
                    refine norm_ (a' := ?_) ?_ ?_
                    rotate_left
                    · simp only [putAll, Act.put, List.setIfInBounds_toArray, List.set_cons_zero, List.set_cons_succ]
                      rfl
                    refine one_ (i := 7) (N := some 75) #[true, true, true, true, true, true, true, true, true, true, true, false, false] rfl rfl (by kernel_rfl) (by decide) (fun K hK => ?_)
                    refine step_app w4 rfl (.tmp 72) (.tmp 74) rfl B1 v1 (0 + a) ([] ++ (L.take a)) (by rfl) o1 (some ⟨N2, 0, none⟩) 1 1 [id] (by rfl) rfl (SrcI.one k2) (by omega) (by omega) (by omega) ?_
                    intro v2 w5 o2 g2 e5 z2
                    have b5 : Below B1 wr w5 := b4.trans e5
                    have s5 := b5.size
                    refine hK.out _ _ trivial (fun hHeld => ?_)
                    clear hK K
                    refine norm_ (a' := ?_) ?_ ?_
                    rotate_left
                    · show Act.put _ (some 75) _ = _
                      simp only [Act.put, List.setIfInBounds_toArray, List.set_cons_zero, List.set_cons_succ]
                      rfl
                    refine one_ (i := 11) (N := some 79) #[true, true, true, true, true, true, true, true, true, true, true, true, false] rfl rfl (by kernel_rfl) (by decide) (fun K hK => ?_)
                    refine step_app w5 rfl (.tmp 75) (.tmp 78) rfl B1 v2 (0 + a + 1) ([] ++ (L.take a) ++ [id]) (by rfl) o2 (if cp = a then some ⟨g, 0, none⟩ else some ⟨g, a, none⟩) (L.length - a) (cp - a) (L.drop a) (by rfl) (by simp) ((hs2).below b5 (hold2)) (by omega) (by omega) (by omega) ?_
                    intro v3 w6 o3 g3 e6 z3
                    have b6 : Below B1 wr w6 := b5.trans e6
                    have s6 := b6.size
                    refine hK.out _ _ trivial (fun hHeld => ?_)
                    clear hK K
                    refine norm_ (a' := ?_) ?_ ?_
                    rotate_left
                    · show Act.put _ (some 79) _ = _
                      simp only [Act.put, List.setIfInBounds_toArray, List.set_cons_zero, List.set_cons_succ]
                      rfl
                    refine pure_ (i := 12) (N := some 7) (v := ?_) (a' := ?_) #[true, true, true, true, true, true, true, true, true, true, true, true, true] rfl rfl (by kernel_rfl) (fun _ _ _ h => h) (Or.inl ⟨by rfl, ?_⟩) ?_ ?_
                    rotate_left
                    · intro w'
                      go_simp
                      with_reducible rfl
                    rotate_left
                    · simp only [Act.put, List.setIfInBounds_toArray, List.set_cons_zero, List.set_cons_succ]
                      rfl
                    refine done_ (by kernel_rfl) ?_
                    generalize (if cp = a then (some ⟨g, 0, none⟩ : Option Addr) else some ⟨g, a, none⟩) = A2
                    clear hs1 hs2 hold1 hold2 hi0 hi1 hi2 g2 g3 z2 z3 o1 o2 k2 b4 b5 e5 e6 s4 s5
                    have hrow := (Row.of_ins (xs := [] ++ L.take a ++ [id] ++ L.drop a) o3 (by simp ; omega)).base hB1'
                    have hb := hb.trans (b6.mono (by omega))
                    have hp1 := hp1.chg (Chg.of_below b6 (F := fun _ => False) (fun k hk hk' => by omega)) (fun h => h) (fun h => h)
                    clear o3 b6 hHeld
                    have HSO2 := Lib.hid (ins_sorted hSO.out hf1.out hf2.out (fun h => HM.out (hSP.out.mem_iff.2 h))); have HSP2 := Lib.hid (ins_perm (a := a) (id := id) hSP.out)
                    have hll : ([] ++ L.take a ++ [id] ++ L.drop a).length = L.length + 1 := by simp ; omega
                    generalize hLe : [] ++ L.take a ++ [id] ++ L.drop a = L2 at hrow HSO2 HSP2 hll
                    have hL2 : L2 ≠ [] := fun h => by rw [h] at hll; simp at hll
                    clear hLe
                    obtain ⟨g', cp', rfl, hcp', hcm', hg0', hg1', hcells'⟩ := hrow.shape3 (by omega)
                    clear hcells'
                    have HL2 := Lib.hid hL2
                    have hll2 : L2.length ≤ L.length + 1 := by omega
                    have HLL := Lib.hid hll
                    clear hll hL2
                    go_wp2_with fail
                    have t := take_calls hp1 id (wf_small _ (by omega) (by omega)) (by show (S).length ≤ 1000; omega)
                    rw [take_yes rfl HM.out (by show (S.length : Int) < Rm; omega)] at t
                    refine t.mono ?_
                    clear t
                    rintro e w4 ⟨rfl, h4, hc4⟩
                    have b4 := hc4.below_of hb hb.size (fun k hk hF => by rcases hF with rfl | rfl <;> omega)
                    have z4 := hc4.size
                    have r4 := hrow.chg hc4 (pf_no hpB hmB)
                    clear hc4 hp1 hb hrow
                    go_wp2_with fail
                    refine (load_calls h4).mono ?_
                    rintro e w5 ⟨rfl, rfl⟩
                    rw [show ((id :: S).length : Int) = (L2.length : Nat) from by have := HLL.out; rw [List.length_cons]; omega]
                    go_wp2_with fail
                    go_roundw
                    case rel => exact ⟨j + 1, L2, (id :: S), by omega, by go_num, Lib.hid ⟨(fun h => by cases h), fun h => absurd h HL2.out⟩, HSP2, HSO2, by omega, by (rw [List.length_cons]; omega), h4, b4, r4, by omega⟩
                    case measure => simp [vInt]; omega
            · have hf2 := Lib.hid (show ∀ y ∈ L.drop a, id < y from by rw [List.drop_of_length_le (by omega)]; simp)
              have hC := Lib.hid (has_eq hC.out hf2.out)
              cases c with
              | true =>
                have HM := Lib.hid (hSP.out.mem_iff.2 (of_decide_eq_true hC.out.symm))
                go_wp2_with fail
                have t := take_calls hp1 id (wf_small _ (by omega) (by omega)) (by show (S).length ≤ 1000; omega)
                rw [take_twice rfl HM.out] at t
                refine t.mono ?_
                clear t
                rintro e w4 ⟨rfl, h4, hc4⟩
                have b4 := hc4.below_of hb hb.size (fun k hk hF => by rcases hF with rfl | rfl <;> omega)
                have z4 := hc4.size
                have r4 := hrow.chg hc4 (pf_no hpB hmB)
                clear hc4 hp1 hb hrow
                go_wp2_with fail
                refine (load_calls h4).mono ?_
                rintro e w5 ⟨rfl, rfl⟩
                rw [show (S.length : Int) = (L.length : Nat) from by omega]
                go_wp2_with fail
                go_roundw
                case rel => exact ⟨j + 1, L, S, by omega, by go_num, hnil, hSP, hSO, by omega, by omega, h4, b4, r4, by omega⟩
                case measure => simp [vInt]; omega
              | false =>
                have HM := Lib.hid (fun h => of_decide_eq_false hC.out.symm (hSP.out.mem_iff.1 h))
                by_cases hKL : Rm ≤ L.length
                · go_wp2_with fail
                  have t := take_calls hp1 id (wf_small _ (by omega) (by omega)) (by show (S).length ≤ 1000; omega)
                  rw [take_full rfl HM.out (by show (Rm : Int) ≤ S.length; omega)] at t
                  refine t.mono ?_
                  clear t
                  rintro e w4 ⟨rfl, h4, hc4⟩
                  have b4 := hc4.below_of hb hb.size (fun k hk hF => by rcases hF with rfl | rfl <;> omega)
                  have z4 := hc4.size
                  have r4 := hrow.chg hc4 (pf_no hpB hmB)
                  clear hc4 hp1 hb hrow
                  go_wp2_with fail
                  refine (load_calls h4).mono ?_
                  rintro e w5 ⟨rfl, rfl⟩
                  rw [show (S.length : Int) = (L.length : Nat) from by omega]
                  go_wp2_with fail
                  go_roundw
                  case rel => exact ⟨j + 1, L, S, by omega, by go_num, hnil, hSP, hSO, by omega, by omega, h4, b4, r4, by omega⟩
                  case measure => simp [vInt]; omega
                · have hKL' : L.length < Rm := by omega
                  clear hKL
                  go_wp2_with fail
                  obtain ⟨B1, hB1⟩ : ∃ B1, wr.heap.size = B1 := ⟨_, rfl⟩
                  have hB1' : B ≤ B1 := by omega
                  have hs1 := SrcI.firsts HC.out a
                  have hold1 : ∀ a', some (⟨g, 0, none⟩ : Addr) = some a' → a'.block < B1 := fun a' e => by cases e; exact hB1 ▸ hg1
                  have hs2 := SrcI.rest HC.out a cp hcp ha
                  have hold2 := old_block g a cp B1 (by omega)
                  have hi0 : (0 : Int) ≤ (a : Int) := Int.natCast_nonneg _
                  have hi1 : (a : Int) ≤ (L.length : Int) := by omega
                  have hi2 : (a : Int) ≤ (cp : Int) := by omega
                  refine start_ (n := 13) (S := fun w' => True) (ds := []) #[false, false, false, false, false, false, false, false, false, false, false, false, false] (by kernel_rfl) rfl rfl trivial (fun hHeld => ?_)
                  refine pure_ (i := 1) (N := some 69) (v := ?_) (a' := ?_) #[false, true, false, false, false, false, false, false, false, false, false, false, false] rfl rfl (by kernel_rfl) (fun _ _ _ h => h) (Or.inl ⟨by rfl, ?_⟩) ?_ ?_
                  rotate_left
                  · intro w'
                    go_simp
                    with_reducible rfl
                  rotate_left
                  · simp only [Act.put, List.setIfInBounds_toArray, List.set_cons_zero, List.set_cons_succ]
                    rfl
                  refine pure_ (i := 2) (N := some 70) (v := ?_) (a' := ?_) #[false, true, true, false, false, false, false, false, false, false, false, false, false] rfl rfl (by kernel_rfl) (fun _ _ _ h => h) (Or.inl ⟨by rfl, ?_⟩) ?_ ?_
                  rotate_left
                  · intro w'
                    go_simp
                    with_reducible rfl
                  rotate_left
                  · simp only [Act.put, List.setIfInBounds_toArray, List.set_cons_zero, List.set_cons_succ]
                    rfl
                  refine pure_ (i := 3) (N := some 71) (v := ?_) (a' := ?_) #[false, true, true, true, false, false, false, false, false, false, false, false, false] rfl rfl (by kernel_rfl) (fun _ _ _ h => h) (Or.inl ⟨by rfl, ?_⟩) ?_ ?_
                  rotate_left
                  · intro w'
                    go_simp
                    with_reducible rfl
                  rotate_left
                  · simp only [Act.put, List.setIfInBounds_toArray, List.set_cons_zero, List.set_cons_succ]
                    rfl
                  refine pure_ (i := 5) (N := some 73) (v := ?_) (a' := ?_) #[false, true, true, true, false, true, false, false, false, false, false, false, false] rfl rfl (by kernel_rfl) (fun _ _ _ h => h) (Or.inl ⟨by rfl, ?_⟩) ?_ ?_
                  rotate_left
                  · intro w'
                    go_simp
                    with_reducible rfl
                  rotate_left
                  · simp only [Act.put, List.setIfInBounds_toArray, List.set_cons_zero, List.set_cons_succ]
                    rfl
                  refine pure_ (i := 8) (N := some 76) (v := ?_) (a' := ?_) #[false, true, true, true, false, true, false, false, true, false, false, false, false] rfl rfl (by kernel_rfl) (fun _ _ _ h => h) (Or.inl ⟨by rfl, ?_⟩) ?_ ?_
                  rotate_left
                  · intro w'
                    go_simp
                    with_reducible rfl
                  rotate_left
                  · simp only [Act.put, List.setIfInBounds_toArray, List.set_cons_zero, List.set_cons_succ]
                    rfl
                  refine pure_ (i := 9) (N := some 77) (v := ?_) (a' := ?_) #[false, true, true, true, false, true, false, false, true, true, false, false, false] rfl rfl (by kernel_rfl) (fun _ _ _ h => h) (Or.inl ⟨by rfl, ?_⟩) ?_ ?_
                  rotate_left
                  · intro w'
                    go_simp
                    with_reducible rfl
                  rotate_left
                  · simp only [Act.put, List.setIfInBounds_toArray, List.set_cons_zero, List.set_cons_succ]
                    rfl
                  refine pure_ (i := 10) (N := some 78) (v := ?_) (a' := ?_) #[false, true, true, true, false, true, false, false, true, true, true, false, false] rfl rfl (by kernel_rfl) (fun _ _ _ h => h) (Or.inl ⟨by rfl, ?_⟩) ?_ ?_
                  rotate_left
                  · intro w'
                    go_simp
                    with_reducible rfl
                  rotate_left
                  · simp only [Act.put, List.setIfInBounds_toArray, List.set_cons_zero, List.set_cons_succ]
                    rfl
                  refine join_ (σ := Nat × Nat × Value) 3 #[true, true, true, true, true, true, true, false, true, true, true, false, false] (fun s => [(68, .slice (some ⟨s.1, 0, none⟩) 0 0), (74, .slice (some ⟨s.2.1, 0, none⟩) 1 1), (72, s.2.2)]) (fun s w' => w'.ownsRow B1 3 1 s.2.2 (0 + a) (([] ++ (L.take a)).map encZ) ∧ w'.heap[s.2.1]? = some (.cells #[.int .i64 id] 3 (0, 0)) ∧ Below B1 wr w' ∧ B1 ≤ w'.heap.size) ?_ ?_
                  rotate_left
                  · intro hCont
                    refine two_ (i := 0) (j := 6) (Ni := some 68) (Nj := some 74) #[true, true, true, true, false, true, false, false, true, true, true, false, false] #[false, true, true, true, false, true, true, false, true, true, true, false, false] rfl rfl rfl rfl (by kernel_rfl) (by decide) (by decide) (fun K hK => ?_) (fun K hK => ?_)
                    · skip
                      obtain ⟨N1, hN1⟩ : ∃ N, wr.drew.heap.size = N := ⟨_, rfl⟩
                      have hNB1 : B1 ≤ N1 := by have := (Below.refl B1 wr).drew.size; omega
                      refine step_build0 wr.drew rfl rfl N1 hN1 ?_
                      intro w1 k1 l1 e1
                      have b1 : Below B1 wr w1 := (Below.refl B1 wr).drew.trans (e1.mono hNB1)
                      have s1 := b1.size
                      refine hK.out _ _ trivial (fun hHeld => ?_)
                      clear hK K
                      refine norm_ (a' := ?_) ?_ ?_
                      rotate_left
                      · show Act.put _ (some 68) _ = _
                        simp only [Act.put, List.setIfInBounds_toArray, List.set_cons_zero, List.set_cons_succ]
                        rfl
                      refine two_ (i := 4) (j := 6) (Ni := some 72) (Nj := some 74) #[true, true, true, true, true, true, false, false, true, true, true, false, false] #[true, true, true, true, false, true, true, false, true, true, true, false, false] rfl rfl rfl rfl (by kernel_rfl) (by decide) (by decide) (fun K hK => ?_) (fun K hK => ?_)
                      · skip
                        refine step_app w1 rfl (.tmp 68) (.tmp 71) rfl B1 (.slice (some ⟨N1, 0, none⟩) 0 0) 0 [] (by rfl) (owns_empty hNB1 k1) (some ⟨g, 0, none⟩) a cp (L.take a) (by rfl) (by simp; omega) ((hs1).below b1 (hold1)) (by omega) (by omega) (by omega) ?_
                        intro v1 w2 o1 g1 e2 z1
                        have b2 : Below B1 wr w2 := b1.trans e2
                        have s2 := b2.size
                        refine hK.out _ _ trivial (fun hHeld => ?_)
                        clear hK K
                        refine norm_ (a' := ?_) ?_ ?_
                        rotate_left
                        · show Act.put _ (some 72) _ = _
                          simp only [Act.put, List.setIfInBounds_toArray, List.set_cons_zero, List.set_cons_succ]
                          rfl
                        refine one_ (i := 6) (N := some 74) #[true, true, true, true, true, true, true, false, true, true, true, false, false] rfl rfl (by kernel_rfl) (by decide) (fun K hK => ?_)
                        obtain ⟨N2, hN2⟩ : ∃ N, w2.heap.size = N := ⟨_, rfl⟩
                        have hNB2 : B1 ≤ N2 := by have := b2.size; omega
                        refine step_build1 w2 rfl 73 rfl id (by rfl) N2 hN2 ?_
                        intro w3 k2 l2 e3
                        have b3 : Below B1 wr w3 := b2.trans (e3.mono hNB2)
                        have o1 := owns_below o1 e3 (by omega)
                        have s3 := b3.size
                        refine hK.out _ _ trivial (fun hHeld => ?_)
                        clear hK K
                        refine norm_ (a' := ?_) ?_ ?_
                        rotate_left
                        · show Act.put _ (some 74) _ = _
                          simp only [Act.put, List.setIfInBounds_toArray, List.set_cons_zero, List.set_cons_succ]
                          rfl
                        exact norm_ (by simp only [putAll, Act.put, List.setIfInBounds_toArray, List.set_cons_zero, List.set_cons_succ]) (hCont (N1, N2, v1) _ ⟨o1, k2, b3, by omega⟩)
                      · skip
                        obtain ⟨N2, hN2⟩ : ∃ N, w1.heap.size = N := ⟨_, rfl⟩
                        have hNB2 : B1 ≤ N2 := by have := b1.size; omega
                        refine step_build1 w1 rfl 73 rfl id (by rfl) N2 hN2 ?_
                        intro w2 k2 l2 e2
                        have b2 : Below B1 wr w2 := b1.trans (e2.mono hNB2)
                        have k1 := (e2.block N1 (by omega)).trans k1
                        have s2 := b2.size
                        refine hK.out _ _ trivial (fun hHeld => ?_)
                        clear hK K
                        refine norm_ (a' := ?_) ?_ ?_
                        rotate_left
                        · show Act.put _ (some 74) _ = _
                          simp only [Act.put, List.setIfInBounds_toArray, List.set_cons_zero, List.set_cons_succ]
                          rfl
                        refine one_ (i := 4) (N := some 72) #[true, true, true, true, true, true, true, false, true, true, true, false, false] rfl rfl (by kernel_rfl) (by decide) (fun K hK => ?_)
                        refine step_app w2 rfl (.tmp 68) (.tmp 71) rfl B1 (.slice (some ⟨N1, 0, none⟩) 0 0) 0 [] (by rfl) (owns_empty hNB1 k1) (some ⟨g, 0, none⟩) a cp (L.take a) (by rfl) (by simp; omega) ((hs1).below b2 (hold1)) (by omega) (by omega) (by omega) ?_
                        intro v1 w3 o1 g1 e3 z1
                        have b3 : Below B1 wr w3 := b2.trans e3
                        have k2 := (g1.block N2 (by omega) (by simp [Value.ownBlock]; omega)).trans k2
                        have s3 := b3.size
                        refine hK.out _ _ trivial (fun hHeld => ?_)
                        clear hK K
                        refine norm_ (a' := ?_) ?_ ?_
                        rotate_left
                        · show Act.put _ (some 72) _ = _
                          simp only [Act.put, List.setIfInBounds_toArray, List.set_cons_zero, List.set_cons_succ]
                          rfl
                        exact norm_ (by simp only [putAll, Act.put, List.setIfInBounds_toArray, List.set_cons_zero, List.set_cons_succ]) (hCont (N1, N2, v1) _ ⟨o1, k2, b3, by omega⟩)
                    · skip
                      obtain ⟨N2, hN2⟩ : ∃ N, wr.drew.heap.size = N := ⟨_, rfl⟩
                      have hNB2 : B1 ≤ N2 := by have := (Below.refl B1 wr).drew.size; omega
                      refine step_build1 wr.drew rfl 73 rfl id (by rfl) N2 hN2 ?_
                      intro w1 k2 l2 e1
                      have b1 : Below B1 wr w1 := (Below.refl B1 wr).drew.trans (e1.mono hNB2)
                      have s1 := b1.size
                      refine hK.out _ _ trivial (fun hHeld => ?_)
                      clear hK K
                      refine norm_ (a' := ?_) ?_ ?_
                      rotate_left
                      · show Act.put _ (some 74) _ = _
                        simp only [Act.put, List.setIfInBounds_toArray, List.set_cons_zero, List.set_cons_succ]
                        rfl
                      refine one_ (i := 0) (N := some 68) #[true, true, true, true, false, true, true, false, true, true, true, false, false] rfl rfl (by kernel_rfl) (by decide) (fun K hK => ?_)
                      obtain ⟨N1, hN1⟩ : ∃ N, w1.heap.size = N := ⟨_, rfl⟩
                      have hNB1 : B1 ≤ N1 := by have := b1.size; omega
                      refine step_build0 w1 rfl rfl N1 hN1 ?_
                      intro w2 k1 l1 e2
                      have b2 : Below B1 wr w2 := b1.trans (e2.mono hNB1)
                      have k2 := (e2.block N2 (by omega)).trans k2
                      have s2 := b2.size
                      refine hK.out _ _ trivial (fun hHeld => ?_)
                      clear hK K
                      refine norm_ (a' := ?_) ?_ ?_
                      rotate_left
                      · show Act.put _ (some 68) _ = _
                        simp only [Act.put, List.setIfInBounds_toArray, List.set_cons_zero, List.set_cons_succ]
                        rfl
                      refine one_ (i := 4) (N := some 72) #[true, true, true, true, true, true, true, false, true, true, true, false, false] rfl rfl (by kernel_rfl) (by decide) (fun K hK => ?_)
                      refine step_app w2 rfl (.tmp 68) (.tmp 71) rfl B1 (.slice (some ⟨N1, 0, none⟩) 0 0) 0 [] (by rfl) (owns_empty hNB1 k1) (some ⟨g, 0, none⟩) a cp (L.take a) (by rfl) (by simp; omega) ((hs1).below b2 (hold1)) (by omega) (by omega) (by omega) ?_
                      intro v1 w3 o1 g1 e3 z1
                      have b3 : Below B1 wr w3 := b2.trans e3
                      have k2 := (g1.block N2 (by omega) (by simp [Value.ownBlock]; omega)).trans k2
                      have s3 := b3.size
                      refine hK.out _ _ trivial (fun hHeld => ?_)
                      clear hK K
                      refine norm_ (a' := ?_) ?_ ?_
                      rotate_left
                      · show Act.put _ (some 72) _ = _
                        simp only [Act.put, List.setIfInBounds_toArray, List.set_cons_zero, List.set_cons_succ]
                        rfl
                      exact norm_ (by simp only [putAll, Act.put, List.setIfInBounds_toArray, List.set_cons_zero, List.set_cons_succ]) (hCont (N1, N2, v1) _ ⟨o1, k2, b3, by omega⟩)
                  rintro ⟨N1, N2, v1⟩ w4 ⟨o1, k2, b4, s4⟩
                  have hHeld : True := trivial
                  refine norm_ (a' := ?_) ?_ ?_
                  rotate_left
                  · simp only [putAll, Act.put, List.setIfInBounds_toArray, List.set_cons_zero, List.set_cons_succ]
                    rfl
                  refine one_ (i := 7) (N := some 75) #[true, true, true, true, true, true, true, true, true, true, true, false, false] rfl rfl (by kernel_rfl) (by decide) (fun K hK => ?_)
                  refine step_app w4 rfl (.tmp 72) (.tmp 74) rfl B1 v1 (0 + a) ([] ++ (L.take a)) (by rfl) o1 (some ⟨N2, 0, none⟩) 1 1 [id] (by rfl) rfl (SrcI.one k2) (by omega) (by omega) (by omega) ?_
                  intro v2 w5 o2 g2 e5 z2
                  have b5 : Below B1 wr w5 := b4.trans e5
                  have s5 := b5.size
                  refine hK.out _ _ trivial (fun hHeld => ?_)
                  clear hK K
                  refine norm_ (a' := ?_) ?_ ?_
                  rotate_left
                  · show Act.put _ (some 75) _ = _
                    simp only [Act.put, List.setIfInBounds_toArray, List.set_cons_zero, List.set_cons_succ]
                    rfl
                  refine one_ (i := 11) (N := some 79) #[true, true, true, true, true, true, true, true, true, true, true, true, false] rfl rfl (by kernel_rfl) (by decide) (fun K hK => ?_)
                  refine step_app w5 rfl (.tmp 75) (.tmp 78) rfl B1 v2 (0 + a + 1) ([] ++ (L.take a) ++ [id]) (by rfl) o2 (if cp = a then some ⟨g, 0, none⟩ else some ⟨g, a, none⟩) (L.length - a) (cp - a) (L.drop a) (by rfl) (by simp) ((hs2).below b5 (hold2)) (by omega) (by omega) (by omega) ?_
                  intro v3 w6 o3 g3 e6 z3
                  have b6 : Below B1 wr w6 := b5.trans e6
                  have s6 := b6.size
                  refine hK.out _ _ trivial (fun hHeld => ?_)
                  clear hK K
                  refine norm_ (a' := ?_) ?_ ?_
                  rotate_left
                  · show Act.put _ (some 79) _ = _
                    simp only [Act.put, List.setIfInBounds_toArray, List.set_cons_zero, List.set_cons_succ]
                    rfl
                  refine pure_ (i := 12) (N := some 7) (v := ?_) (a' := ?_) #[true, true, true, true, true, true, true, true, true, true, true, true, true] rfl rfl (by kernel_rfl) (fun _ _ _ h => h) (Or.inl ⟨by rfl, ?_⟩) ?_ ?_
                  rotate_left
                  · intro w'
                    go_simp
                    with_reducible rfl
                  rotate_left
                  · simp only [Act.put, List.setIfInBounds_toArray, List.set_cons_zero, List.set_cons_succ]
                    rfl
                  refine done_ (by kernel_rfl) ?_
                  generalize (if cp = a then (some ⟨g, 0, none⟩ : Option Addr) else some ⟨g, a, none⟩) = A2
                  clear hs1 hs2 hold1 hold2 hi0 hi1 hi2 g2 g3 z2 z3 o1 o2 k2 b4 b5 e5 e6 s4 s5
                  have hrow := (Row.of_ins (xs := [] ++ L.take a ++ [id] ++ L.drop a) o3 (by simp ; omega)).base hB1'
                  have hb := hb.trans (b6.mono (by omega))
                  have hp1 := hp1.chg (Chg.of_below b6 (F := fun _ => False) (fun k hk hk' => by omega)) (fun h => h) (fun h => h)
                  clear o3 b6 hHeld
                  have HSO2 := Lib.hid (ins_sorted hSO.out hf1.out hf2.out (fun h => HM.out (hSP.out.mem_iff.2 h))); have HSP2 := Lib.hid (ins_perm (a := a) (id := id) hSP.out)
                  have hll : ([] ++ L.take a ++ [id] ++ L.drop a).length = L.length + 1 := by simp ; omega
                  generalize hLe : [] ++ L.take a ++ [id] ++ L.drop a = L2 at hrow HSO2 HSP2 hll
                  have hL2 : L2 ≠ [] := fun h => by rw [h] at hll; simp at hll
                  clear hLe
                  obtain ⟨g', cp', rfl, hcp', hcm', hg0', hg1', hcells'⟩ := hrow.shape3 (by omega)
                  clear hcells'
                  have HL2 := Lib.hid hL2
                  have hll2 : L2.length ≤ L.length + 1 := by omega
                  have HLL := Lib.hid hll
                  clear hll hL2
                  go_wp2_with fail
                  have t := take_calls hp1 id (wf_small _ (by omega) (by omega)) (by show (S).length ≤ 1000; omega)
                  rw [take_yes rfl HM.out (by show (S.length : Int) < Rm; omega)] at t
                  refine t.mono ?_
                  clear t
                  rintro e w4 ⟨rfl, h4, hc4⟩
                  have b4 := hc4.below_of hb hb.size (fun k hk hF => by rcases hF with rfl | rfl <;> omega)
                  have z4 := hc4.size
                  have r4 := hrow.chg hc4 (pf_no hpB hmB)
                  clear hc4 hp1 hb hrow
                  go_wp2_with fail
                  refine (load_calls h4).mono ?_
                  rintro e w5 ⟨rfl, rfl⟩
                  rw [show ((id :: S).length : Int) = (L2.length : Nat) from by have := HLL.out; rw [List.length_cons]; omega]
                  go_wp2_with fail
                  go_roundw
                  case rel => exact ⟨j + 1, L2, (id :: S), by omega, by go_num, Lib.hid ⟨(fun h => by cases h), fun h => absurd h HL2.out⟩, HSP2, HSO2, by omega, by (rw [List.length_cons]; omega), h4, b4, r4, by omega⟩
                  case measure => simp [vInt]; omega
      · skip
        go_wp2_with fail
        have t := kill_calls hp1 (by simp) (by show S.length ≤ 1000; omega)
        rw [show (PodM.S ⟨2, (Rm : Int), S⟩).mergeSort leI = L from sort_same hSP.out hSO.out] at t
        refine t.mono ?_
        clear t
        rintro e w4 ⟨v, rfl, hrow4, h4, hc4⟩
        have b4 := hc4.below_of hb hb.size (fun k hk hF => by rcases hF with rfl | rfl <;> omega)
        have r4 := hrow.chg hc4 (pf_no hpB hmB)
        clear hc4 hp1 hb hrow
        obtain ⟨A1, c1, rfl, hR1⟩ := hrow4.reads (by omega)
        obtain ⟨A2, c2, rfl, hR2⟩ := r4.reads (by omega)
        clear hrow4 r4
        go_wp2_with fail
        refine (ints_same hR1 hR2).mono ?_
        rintro e w5 ⟨rfl, nq, rfl⟩
        have h5 : PodAt (w4.drewN nq) p mb ⟨4, (Rm : Int), []⟩ := h4.chg ((Chg.refl (fun _ => False) _).drewN _) (fun h => h) (fun h => h)
        have b5 : Below w.heap.size w (w4.drewN nq) := ⟨b4.os, b4.tape, b4.output, b4.size, b4.block⟩
        clear h4 b4 hR1 hR2
        generalize w4.drewN nq = w5 at h5 b5 ⊢
        go_wp2_with fail
        refine (load_calls h5).mono ?_
        rintro e w6 ⟨rfl, rfl⟩
        go_wp2_with fail
        refine (state_calls h5).mono ?_
        rintro e w6 ⟨rfl, rfl⟩
        go_wp2_with fail
        go_ret
        exact ⟨rfl, b5⟩
    · skip
      go_wp2_with fail
      have t := kill_calls hp1 (by simp) (by show S.length ≤ 1000; omega)
      rw [show (PodM.S ⟨2, (Rm : Int), S⟩).mergeSort leI = L from sort_same hSP.out hSO.out] at t
      refine t.mono ?_
      clear t
      rintro e w4 ⟨v, rfl, hrow4, h4, hc4⟩
      have b4 := hc4.below_of hb hb.size (fun k hk hF => by rcases hF with rfl | rfl <;> omega)
      have r4 := hrow.chg hc4 (pf_no hpB hmB)
      clear hc4 hp1 hb hrow
      obtain ⟨A1, c1, rfl, hR1⟩ := hrow4.reads (by omega)
      obtain ⟨A2, c2, rfl, hR2⟩ := r4.reads (by omega)
      clear hrow4 r4
      go_wp2_with fail
      refine (ints_same hR1 hR2).mono ?_
      rintro e w5 ⟨rfl, nq, rfl⟩
      have h5 : PodAt (w4.drewN nq) p mb ⟨4, (Rm : Int), []⟩ := h4.chg ((Chg.refl (fun _ => False) _).drewN _) (fun h => h) (fun h => h)
      have b5 : Below w.heap.size w (w4.drewN nq) := ⟨b4.os, b4.tape, b4.output, b4.size, b4.block⟩
      clear h4 b4 hR1 hR2
      generalize w4.drewN nq = w5 at h5 b5 ⊢
      go_wp2_with fail
      refine (load_calls h5).mono ?_
      rintro e w6 ⟨rfl, rfl⟩
      go_wp2_with fail
      refine (state_calls h5).mono ?_
      rintro e w6 ⟨rfl, rfl⟩
      go_wp2_with fail
      go_ret
      exact ⟨rfl, b5⟩

end Go.Proofs.Ytefcchnmgnlanaa
