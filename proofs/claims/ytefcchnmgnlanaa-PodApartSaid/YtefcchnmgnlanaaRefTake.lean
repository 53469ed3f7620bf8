/- The document's pod takes a request: the walk. (Printed by gen.py from rtake.src.) -/
import Derived.Test.YtefcchnmgnlanaaRef
import Derived.Test.YtefcchnmgnlanaaPodRoom
namespace Go.Proofs.Ytefcchnmgnlanaa
open Go.RowKit Go.Maps Go.Sort Go.Proofs.YtefcchnmgnlanaaW.PrintLast

theorem while_at {p : Int → Bool} {l : List Int} {i : Nat} (h1 : ∀ y ∈ l.take i, p y = true) (h2 : ∀ _ : i < l.length, p l[i] = false) : l.takeWhile p = l.take i ∧ l.dropWhile p = l.drop i := by
  have e : l = l.take i ++ l.drop i := (List.take_append_drop i l).symm
  have hd : (l.drop i).takeWhile p = [] ∧ (l.drop i).dropWhile p = l.drop i := by
    by_cases h : i < l.length
    · have hp := h2 h
      rw [List.drop_eq_getElem_cons h, List.takeWhile_cons, List.dropWhile_cons, hp]
      simp
    · rw [List.drop_of_length_le (by omega)]; simp
  constructor
  · conv => lhs; rw [e]
    rw [List.takeWhile_append_of_pos h1, hd.1, List.append_nil]
  · conv => lhs; rw [e]
    rw [List.dropWhile_append_of_pos h1, hd.2]

theorem ins_at {L : List Int} {id : Int} {i : Nat} (h1 : ∀ y ∈ L.take i, decide (y < id) = true) (h2 : i < L.length → ¬ (L.getD i 0 < id)) : [] ++ L.take i ++ [id] ++ L.drop i = insI id L := by
  obtain ⟨e1, e2⟩ := while_at h1 (fun hi => decide_eq_false (by have := h2 hi; rw [show L.getD i 0 = L[i] by simp [List.getD_eq_getElem?_getD, hi]] at this; exact this))
  unfold insI
  rw [e1, e2, List.nil_append]

theorem insI_ne {L : List Int} {id : Int} : insI id L ≠ [] := by unfold insI; simp
theorem insI_pos {L : List Int} {id : Int} : 0 < (insI id L).length := List.length_pos_iff.2 insI_ne

set_option maxRecDepth 100000 in
set_option maxHeartbeats 4000000 in
theorem rtake_new {w : World} {x : Nat} {m : RefM} (h : RefAt w x m) (id : Int) (hr : m.L.length ≤ 1000) (e : m.st = 2) (hx : id ∉ m.L) (hroom : (m.L.length : Int) < m.conc) :
    Calls Try.prog 21 #[.pointer (some ⟨x, 0, none⟩), .int .i64 id] w fun e w' => e = .returned (.int .i64 0) ∧ RefAt w' x { m with L := insI id m.L } ∧ Chg (XF x) w w' := by
  have HAS := Lib.hid (has_calls h id hr false (decide_eq_false hx))
  obtain ⟨conc, st, L⟩ := m
  obtain ⟨v, hb, hrow, hnil⟩ := h
  have hb' : Blk w x #[.int .i64 conc, .int .i64 st, v] 54 := hb
  clear hb
  have hb := hb'
  clear hb'
  have c0 := hb.cell 0
  have c1 := hb.cell 1
  have c2 := hb.cell 2
  have f2 := hb.frozen 2
  have hxl := hb.lt
  simp at c0 c1 c2
  have e1 : (st != 2) = false := by simpa using e
  change Row w (x + 1) v L at hrow
  change v = .slice none 0 0 ↔ L = [] at hnil
  change L.length ≤ 1000 at hr
  change id ∉ L at hx
  change (L.length : Int) < conc at hroom
  have hroom' : ¬ (conc ≤ (L.length : Int)) := by omega
  clear e hx
  by_cases hL : L = []
  · subst hL
    obtain rfl := hnil.2 rfl
    clear hnil
    go_enter Try.func21, Try.ntmps21
    go_wp2_with fail
    refine HAS.out.mono ?_
    rintro e w1 ⟨rfl, rfl⟩
    clear HAS
    go_wp2_with fail
    go_quiet (fail)
    go_wp2_with fail
    go_loop [5] (fun v => v = .int .i64 0) (fun _ => 0)
    case atStart => rfl
    case round =>
      obtain rfl := hrel
      go_wp2_with fail
      clear c0 c1 hroom'
      have C2 := Lib.hid (show (w.drewN nq).cell? ⟨x, 2, none⟩ = some (.slice none 0 0) from c2)
      have F2 := Lib.hid (show (w.drewN nq).frozen? ⟨x, 2, none⟩ = false from f2)
      have hC : Chg (fun _ => False) w (w.drewN nq) := (Chg.refl _ _).drewN _
      have hbW := hb.chg hC (fun h => h)
      clear c2 f2 hb hrow
      generalize w.drewN nq = W at C2 F2 hC hbW ⊢
      obtain ⟨B1, hB1⟩ : ∃ B1, W.heap.size = B1 := ⟨_, rfl⟩
      have hxB : x < B1 := hB1 ▸ Nat.lt_of_lt_of_le hxl hC.size
      have hs1 : SrcI W none [] := SrcI.nil _ _
      have hold1 : ∀ a', (none : Option Addr) = some a' → a'.block < B1 := fun a' e => by cases e
      have hs2 := hs1
      have hold2 := hold1
      have c2 := C2.out
      refine start_ (n := 22) (S := fun w' => w'.cell? ⟨x, 2, none⟩ = some (.slice none 0 0)) (ds := [21]) #[false, false, false, false, false, false, false, false, false, false, false, false, false, false, false, false, false, false, false, false, false, false] (by kernel_rfl) rfl rfl (c2) (fun hHeld => ?_)
      refine pure_ (i := 0) (N := some 47) (v := ?_) (a' := ?_) #[true, false, false, false, false, false, false, false, false, false, false, false, false, false, false, false, false, false, false, false, false, false] rfl rfl (by kernel_rfl) (fun _ _ _ h => h) (Or.inl ⟨by rfl, ?_⟩) ?_ ?_
      rotate_left
      · intro w'
        go_simp
        with_reducible rfl
      rotate_left
      · simp only [Act.put, List.setIfInBounds_toArray, List.set_cons_zero, List.set_cons_succ]
        rfl
      refine pure_ (i := 2) (N := some 49) (v := ?_) (a' := ?_) #[true, false, true, false, false, false, false, false, false, false, false, false, false, false, false, false, false, false, false, false, false, false] rfl rfl (by kernel_rfl) (fun _ _ _ h => h) (Or.inl ⟨by rfl, ?_⟩) ?_ ?_
      rotate_left
      · intro w'
        go_simp
        with_reducible rfl
      rotate_left
      · simp only [Act.put, List.setIfInBounds_toArray, List.set_cons_zero, List.set_cons_succ]
        rfl
      refine pure_ (i := 3) (N := some 50) (v := ?_) (a' := ?_) #[true, false, true, true, false, false, false, false, false, false, false, false, false, false, false, false, false, false, false, false, false, false] rfl rfl (by kernel_rfl) (fun _ _ _ h => h) (Or.inl ⟨by rfl, ?_⟩) ?_ ?_
      rotate_left
      · intro w'
        go_simp
        with_reducible rfl
      rotate_left
      · simp only [Act.put, List.setIfInBounds_toArray, List.set_cons_zero, List.set_cons_succ]
        rfl
      refine pure_ (i := 4) (N := some 51) (v := ?_) (a' := ?_) #[true, false, true, true, true, false, false, false, false, false, false, false, false, false, false, false, false, false, false, false, false, false] rfl rfl (by kernel_rfl) (fun _ _ _ h => h) (Or.inl ⟨by rfl, ?_⟩) ?_ ?_
      rotate_left
      · intro w'
        go_simp
        with_reducible rfl
      rotate_left
      · simp only [Act.put, List.setIfInBounds_toArray, List.set_cons_zero, List.set_cons_succ]
        rfl
      refine pure_ (i := 6) (N := some 53) (v := ?_) (a' := ?_) #[true, false, true, true, true, false, true, false, false, false, false, false, false, false, false, false, false, false, false, false, false, false] rfl rfl (by kernel_rfl) (fun _ _ _ h => h) (Or.inl ⟨by rfl, ?_⟩) ?_ ?_
      rotate_left
      · intro w'
        go_simp
        with_reducible rfl
      rotate_left
      · simp only [Act.put, List.setIfInBounds_toArray, List.set_cons_zero, List.set_cons_succ]
        rfl
      refine pure_ (i := 9) (N := some 56) (v := ?_) (a' := ?_) #[true, false, true, true, true, false, true, false, false, true, false, false, false, false, false, false, false, false, false, false, false, false] rfl rfl (by kernel_rfl) (fun _ _ _ h => h) (Or.inl ⟨by rfl, ?_⟩) ?_ ?_
      rotate_left
      · intro w'
        go_simp
        with_reducible rfl
      rotate_left
      · simp only [Act.put, List.setIfInBounds_toArray, List.set_cons_zero, List.set_cons_succ]
        rfl
      refine pure_ (i := 12) (N := some 59) (v := ?_) (a' := ?_) #[true, false, true, true, true, false, true, false, false, true, false, false, true, false, false, false, false, false, false, false, false, false] rfl rfl (by kernel_rfl) (fun _ _ _ h => h) (Or.inl ⟨by rfl, ?_⟩) ?_ ?_
      rotate_left
      · intro w'
        go_simp
        with_reducible rfl
      rotate_left
      · simp only [Act.put, List.setIfInBounds_toArray, List.set_cons_zero, List.set_cons_succ]
        rfl
      refine pure_ (i := 13) (N := some 60) (v := ?_) (a' := ?_) #[true, false, true, true, true, false, true, false, false, true, false, false, true, true, false, false, false, false, false, false, false, false] rfl rfl (by kernel_rfl) (fun _ _ _ h => h) (Or.inl ⟨by rfl, ?_⟩) ?_ ?_
      rotate_left
      · intro w'
        go_simp
        with_reducible rfl
      rotate_left
      · simp only [Act.put, List.setIfInBounds_toArray, List.set_cons_zero, List.set_cons_succ]
        rfl
      refine pure_ (i := 14) (N := some 61) (v := ?_) (a' := ?_) #[true, false, true, true, true, false, true, false, false, true, false, false, true, true, true, false, false, false, false, false, false, false] rfl rfl (by kernel_rfl) (fun _ _ _ h => h) (Or.inl ⟨by rfl, ?_⟩) ?_ ?_
      rotate_left
      · intro w'
        go_simp
        with_reducible rfl
      rotate_left
      · simp only [Act.put, List.setIfInBounds_toArray, List.set_cons_zero, List.set_cons_succ]
        rfl
      refine pure_ (i := 16) (N := some 63) (v := ?_) (a' := ?_) #[true, false, true, true, true, false, true, false, false, true, false, false, true, true, true, false, true, false, false, false, false, false] rfl rfl (by kernel_rfl) (fun _ _ _ h => h) (Or.inl ⟨by rfl, ?_⟩) ?_ ?_
      rotate_left
      · intro w'
        go_simp
        with_reducible rfl
      rotate_left
      · simp only [Act.put, List.setIfInBounds_toArray, List.set_cons_zero, List.set_cons_succ]
        rfl
      refine take_ (i := 5) (N := some 52) (v := ?_) (a' := ?_) #[true, false, true, true, true, true, true, false, false, true, false, false, true, true, true, false, true, false, false, false, false, false] rfl rfl (by kernel_rfl) (fun _ _ _ h => h) (Or.inl ⟨by rfl, ?_⟩) hHeld ?_ ?_
      rotate_left
      · intro w' s0
        go_simp
        with_reducible rfl
      rotate_left
      · simp only [Act.put, List.setIfInBounds_toArray, List.set_cons_zero, List.set_cons_succ]
        rfl
      refine pure_ (i := 7) (N := some 54) (v := ?_) (a' := ?_) #[true, false, true, true, true, true, true, true, false, true, false, false, true, true, true, false, true, false, false, false, false, false] rfl rfl (by kernel_rfl) (fun _ _ _ h => h) (Or.inl ⟨by rfl, ?_⟩) ?_ ?_
      rotate_left
      · intro w'
        go_simp
        with_reducible rfl
      rotate_left
      · simp only [Act.put, List.setIfInBounds_toArray, List.set_cons_zero, List.set_cons_succ]
        rfl
      refine take_ (i := 15) (N := some 62) (v := ?_) (a' := ?_) #[true, false, true, true, true, true, true, true, false, true, false, false, true, true, true, true, true, false, false, false, false, false] rfl rfl (by kernel_rfl) (fun _ _ _ h => h) (Or.inl ⟨by rfl, ?_⟩) hHeld ?_ ?_
      rotate_left
      · intro w' s0
        go_simp
        with_reducible rfl
      rotate_left
      · simp only [Act.put, List.setIfInBounds_toArray, List.set_cons_zero, List.set_cons_succ]
        rfl
      refine pure_ (i := 17) (N := some 64) (v := ?_) (a' := ?_) #[true, false, true, true, true, true, true, true, false, true, false, false, true, true, true, true, true, true, false, false, false, false] rfl rfl (by kernel_rfl) (fun _ _ _ h => h) (Or.inl ⟨by rfl, ?_⟩) ?_ ?_
      rotate_left
      · intro w'
        go_simp
        with_reducible rfl
      rotate_left
      · simp only [Act.put, List.setIfInBounds_toArray, List.set_cons_zero, List.set_cons_succ]
        rfl
      refine join_ (σ := Nat × Nat × Value) 5 #[true, true, true, true, true, true, true, true, true, true, true, false, true, true, true, true, true, true, false, false, false, false] (fun s => [(48, .slice (some ⟨s.1, 0, none⟩) 0 0), (57, .slice (some ⟨s.2.1, 0, none⟩) 1 1), (55, s.2.2)]) (fun s w' => w'.ownsRow B1 3 1 s.2.2 (0 + 0) (([] ++ []).map encZ) ∧ w'.heap[s.2.1]? = some (.cells #[.int .i64 id] 3 (0, 0)) ∧ Below B1 W w' ∧ B1 ≤ w'.heap.size) ?_ ?_
      rotate_left
      · intro hCont
        refine two_ (i := 1) (j := 10) (Ni := some 48) (Nj := some 57) #[true, true, true, true, true, true, true, true, false, true, false, false, true, true, true, true, true, true, false, false, false, false] #[true, false, true, true, true, true, true, true, false, true, true, false, true, true, true, true, true, true, false, false, false, false] rfl rfl rfl rfl (by kernel_rfl) (by decide) (by decide) (fun K hK => ?_) (fun K hK => ?_)
        · skip
          obtain ⟨N1, hN1⟩ : ∃ N, W.drew.heap.size = N := ⟨_, rfl⟩
          have hNB1 : B1 ≤ N1 := by have := (Below.refl B1 W).drew.size; omega
          refine step_build0 W.drew rfl rfl N1 hN1 ?_
          intro w1 k1 l1 e1
          have b1 : Below B1 W w1 := (Below.refl B1 W).drew.trans (e1.mono hNB1)
          have s1 := b1.size
          refine hK.out _ _ (((b1).cell (p := ⟨x, 2, none⟩) hxB).trans C2.out) (fun hHeld => ?_)
          clear hK K
          refine norm_ (a' := ?_) ?_ ?_
          rotate_left
          · show Act.put _ (some 48) _ = _
            simp only [Act.put, List.setIfInBounds_toArray, List.set_cons_zero, List.set_cons_succ]
            rfl
          refine two_ (i := 8) (j := 10) (Ni := some 55) (Nj := some 57) #[true, true, true, true, true, true, true, true, true, true, false, false, true, true, true, true, true, true, false, false, false, false] #[true, true, true, true, true, true, true, true, false, true, true, false, true, true, true, true, true, true, false, false, false, false] rfl rfl rfl rfl (by kernel_rfl) (by decide) (by decide) (fun K hK => ?_) (fun K hK => ?_)
          · skip
            refine step_app w1 rfl (.tmp 48) (.tmp 54) rfl B1 (.slice (some ⟨N1, 0, none⟩) 0 0) 0 [] (by rfl) (owns_empty hNB1 k1) none 0 0 [] (by rfl) (by simp) ((hs1).below b1 (hold1)) (by omega) (by omega) (by omega) ?_
            intro v1 w2 o1 g1 e2 z1
            have b2 : Below B1 W w2 := b1.trans e2
            have s2 := b2.size
            refine hK.out _ _ (((b2).cell (p := ⟨x, 2, none⟩) hxB).trans C2.out) (fun hHeld => ?_)
            clear hK K
            refine norm_ (a' := ?_) ?_ ?_
            rotate_left
            · show Act.put _ (some 55) _ = _
              simp only [Act.put, List.setIfInBounds_toArray, List.set_cons_zero, List.set_cons_succ]
              rfl
            refine one_ (i := 10) (N := some 57) #[true, true, true, true, true, true, true, true, true, true, true, false, true, true, true, true, true, true, false, false, false, false] rfl rfl (by kernel_rfl) (by decide) (fun K hK => ?_)
            obtain ⟨N2, hN2⟩ : ∃ N, w2.heap.size = N := ⟨_, rfl⟩
            have hNB2 : B1 ≤ N2 := by have := b2.size; omega
            refine step_build1 w2 rfl 56 rfl id (by rfl) N2 hN2 ?_
            intro w3 k2 l2 e3
            have b3 : Below B1 W w3 := b2.trans (e3.mono hNB2)
            have o1 := owns_below o1 e3 (by omega)
            have s3 := b3.size
            refine hK.out _ _ (((b3).cell (p := ⟨x, 2, none⟩) hxB).trans C2.out) (fun hHeld => ?_)
            clear hK K
            refine norm_ (a' := ?_) ?_ ?_
            rotate_left
            · show Act.put _ (some 57) _ = _
              simp only [Act.put, List.setIfInBounds_toArray, List.set_cons_zero, List.set_cons_succ]
              rfl
            exact norm_ (by simp only [putAll, Act.put, List.setIfInBounds_toArray, List.set_cons_zero, List.set_cons_succ]) (hCont (N1, N2, v1) _ ⟨o1, k2, b3, by omega⟩)
          · skip
            obtain ⟨N2, hN2⟩ : ∃ N, w1.heap.size = N := ⟨_, rfl⟩
            have hNB2 : B1 ≤ N2 := by have := b1.size; omega
            refine step_build1 w1 rfl 56 rfl id (by rfl) N2 hN2 ?_
            intro w2 k2 l2 e2
            have b2 : Below B1 W w2 := b1.trans (e2.mono hNB2)
            have k1 := (e2.block N1 (by omega)).trans k1
            have s2 := b2.size
            refine hK.out _ _ (((b2).cell (p := ⟨x, 2, none⟩) hxB).trans C2.out) (fun hHeld => ?_)
            clear hK K
            refine norm_ (a' := ?_) ?_ ?_
            rotate_left
            · show Act.put _ (some 57) _ = _
              simp only [Act.put, List.setIfInBounds_toArray, List.set_cons_zero, List.set_cons_succ]
              rfl
            refine one_ (i := 8) (N := some 55) #[true, true, true, true, true, true, true, true, true, true, true, false, true, true, true, true, true, true, false, false, false, false] rfl rfl (by kernel_rfl) (by decide) (fun K hK => ?_)
            refine step_app w2 rfl (.tmp 48) (.tmp 54) rfl B1 (.slice (some ⟨N1, 0, none⟩) 0 0) 0 [] (by rfl) (owns_empty hNB1 k1) none 0 0 [] (by rfl) (by simp) ((hs1).below b2 (hold1)) (by omega) (by omega) (by omega) ?_
            intro v1 w3 o1 g1 e3 z1
            have b3 : Below B1 W w3 := b2.trans e3
            have k2 := (g1.block N2 (by omega) (by simp [Value.ownBlock]; omega)).trans k2
            have s3 := b3.size
            refine hK.out _ _ (((b3).cell (p := ⟨x, 2, none⟩) hxB).trans C2.out) (fun hHeld => ?_)
            clear hK K
            refine norm_ (a' := ?_) ?_ ?_
            rotate_left
            · show Act.put _ (some 55) _ = _
              simp only [Act.put, List.setIfInBounds_toArray, List.set_cons_zero, List.set_cons_succ]
              rfl
            exact norm_ (by simp only [putAll, Act.put, List.setIfInBounds_toArray, List.set_cons_zero, List.set_cons_succ]) (hCont (N1, N2, v1) _ ⟨o1, k2, b3, by omega⟩)
        · skip
          obtain ⟨N2, hN2⟩ : ∃ N, W.drew.heap.size = N := ⟨_, rfl⟩
          have hNB2 : B1 ≤ N2 := by have := (Below.refl B1 W).drew.size; omega
          refine step_build1 W.drew rfl 56 rfl id (by rfl) N2 hN2 ?_
          intro w1 k2 l2 e1
          have b1 : Below B1 W w1 := (Below.refl B1 W).drew.trans (e1.mono hNB2)
          have s1 := b1.size
          refine hK.out _ _ (((b1).cell (p := ⟨x, 2, none⟩) hxB).trans C2.out) (fun hHeld => ?_)
          clear hK K
          refine norm_ (a' := ?_) ?_ ?_
          rotate_left
          · show Act.put _ (some 57) _ = _
            simp only [Act.put, List.setIfInBounds_toArray, List.set_cons_zero, List.set_cons_succ]
            rfl
          refine one_ (i := 1) (N := some 48) #[true, true, true, true, true, true, true, true, false, true, true, false, true, true, true, true, true, true, false, false, false, false] rfl rfl (by kernel_rfl) (by decide) (fun K hK => ?_)
          obtain ⟨N1, hN1⟩ : ∃ N, w1.heap.size = N := ⟨_, rfl⟩
          have hNB1 : B1 ≤ N1 := by have := b1.size; omega
          refine step_build0 w1 rfl rfl N1 hN1 ?_
          intro w2 k1 l1 e2
          have b2 : Below B1 W w2 := b1.trans (e2.mono hNB1)
          have k2 := (e2.block N2 (by omega)).trans k2
          have s2 := b2.size
          refine hK.out _ _ (((b2).cell (p := ⟨x, 2, none⟩) hxB).trans C2.out) (fun hHeld => ?_)
          clear hK K
          refine norm_ (a' := ?_) ?_ ?_
          rotate_left
          · show Act.put _ (some 48) _ = _
            simp only [Act.put, List.setIfInBounds_toArray, List.set_cons_zero, List.set_cons_succ]
            rfl
          refine one_ (i := 8) (N := some 55) #[true, true, true, true, true, true, true, true, true, true, true, false, true, true, true, true, true, true, false, false, false, false] rfl rfl (by kernel_rfl) (by decide) (fun K hK => ?_)
          refine step_app w2 rfl (.tmp 48) (.tmp 54) rfl B1 (.slice (some ⟨N1, 0, none⟩) 0 0) 0 [] (by rfl) (owns_empty hNB1 k1) none 0 0 [] (by rfl) (by simp) ((hs1).below b2 (hold1)) (by omega) (by omega) (by omega) ?_
          intro v1 w3 o1 g1 e3 z1
          have b3 : Below B1 W w3 := b2.trans e3
          have k2 := (g1.block N2 (by omega) (by simp [Value.ownBlock]; omega)).trans k2
          have s3 := b3.size
          refine hK.out _ _ (((b3).cell (p := ⟨x, 2, none⟩) hxB).trans C2.out) (fun hHeld => ?_)
          clear hK K
          refine norm_ (a' := ?_) ?_ ?_
          rotate_left
          · show Act.put _ (some 55) _ = _
            simp only [Act.put, List.setIfInBounds_toArray, List.set_cons_zero, List.set_cons_succ]
            rfl
          exact norm_ (by simp only [putAll, Act.put, List.setIfInBounds_toArray, List.set_cons_zero, List.set_cons_succ]) (hCont (N1, N2, v1) _ ⟨o1, k2, b3, by omega⟩)
      rintro ⟨N1, N2, v1⟩ w4 ⟨o1, k2, b4, s4⟩
      have hHeld : w4.cell? ⟨x, 2, none⟩ = some (.slice none 0 0) := ((b4).cell (p := ⟨x, 2, none⟩) hxB).trans C2.out
      refine norm_ (a' := ?_) ?_ ?_
      rotate_left
      · simp only [putAll, Act.put, List.setIfInBounds_toArray, List.set_cons_zero, List.set_cons_succ]
        rfl
      refine one_ (i := 11) (N := some 58) #[true, true, true, true, true, true, true, true, true, true, true, true, true, true, true, true, true, true, false, false, false, false] rfl rfl (by kernel_rfl) (by decide) (fun K hK => ?_)
      refine step_app w4 rfl (.tmp 55) (.tmp 57) rfl B1 v1 (0 + 0) ([] ++ []) (by rfl) o1 (some ⟨N2, 0, none⟩) 1 1 [id] (by rfl) rfl (SrcI.one k2) (by omega) (by omega) (by omega) ?_
      intro v2 w5 o2 g2 e5 z2
      have b5 : Below B1 W w5 := b4.trans e5
      have s5 := b5.size
      refine hK.out _ _ (((b5).cell (p := ⟨x, 2, none⟩) hxB).trans C2.out) (fun hHeld => ?_)
      clear hK K
      refine norm_ (a' := ?_) ?_ ?_
      rotate_left
      · show Act.put _ (some 58) _ = _
        simp only [Act.put, List.setIfInBounds_toArray, List.set_cons_zero, List.set_cons_succ]
        rfl
      refine one_ (i := 18) (N := some 65) #[true, true, true, true, true, true, true, true, true, true, true, true, true, true, true, true, true, true, true, false, false, false] rfl rfl (by kernel_rfl) (by decide) (fun K hK => ?_)
      refine step_app w5 rfl (.tmp 58) (.tmp 64) rfl B1 v2 (0 + 0 + 1) ([] ++ [] ++ [id]) (by rfl) o2 none 0 0 [] (by rfl) (by simp) ((hs2).below b5 (hold2)) (by omega) (by omega) (by omega) ?_
      intro v3 w6 o3 g3 e6 z3
      have b6 : Below B1 W w6 := b5.trans e6
      have s6 := b6.size
      have c6 := (b6.cell (p := ⟨x, 2, none⟩) hxB).trans C2.out
      have f6 := (World.frozen?_of_block (b6.block x hxB) : w6.frozen? ⟨x, 2, none⟩ = _).trans F2.out
      have o3 := Row.of_ins (xs := insI id []) o3 rfl
      obtain ⟨gv, cv, rfl, hcv, hcv2, hgv, hgv2, hcells⟩ := o3.shape3 insI_pos
      clear hcells
      refine hK.out _ _ (((b6).cell (p := ⟨x, 2, none⟩) hxB).trans C2.out) (fun hHeld => ?_)
      clear hK K
      refine norm_ (a' := ?_) ?_ ?_
      rotate_left
      · show Act.put _ (some 65) _ = _
        simp only [Act.put, List.setIfInBounds_toArray, List.set_cons_zero, List.set_cons_succ]
        rfl
      refine pure_ (i := 19) (N := some 66) (v := ?_) (a' := ?_) #[true, true, true, true, true, true, true, true, true, true, true, true, true, true, true, true, true, true, true, true, false, false] rfl rfl (by kernel_rfl) (fun _ _ _ h => h) (Or.inl ⟨by rfl, ?_⟩) ?_ ?_
      rotate_left
      · intro w'
        go_simp
        with_reducible rfl
      rotate_left
      · simp only [Act.put, List.setIfInBounds_toArray, List.set_cons_zero, List.set_cons_succ]
        rfl
      refine pure_ (i := 20) (N := some 67) (v := ?_) (a' := ?_) #[true, true, true, true, true, true, true, true, true, true, true, true, true, true, true, true, true, true, true, true, true, false] rfl rfl (by kernel_rfl) (fun _ _ _ h => h) (Or.inl ⟨by rfl, ?_⟩) ?_ ?_
      rotate_left
      · intro w'
        go_simp
        with_reducible rfl
      rotate_left
      · simp only [Act.put, List.setIfInBounds_toArray, List.set_cons_zero, List.set_cons_succ]
        rfl
      refine last_ (i := 21) (N := none) #[true, true, true, true, true, true, true, true, true, true, true, true, true, true, true, true, true, true, true, true, true, true] rfl rfl (by kernel_rfl) (by decide) (fun K hK => ?_)
      refine skip_ (w1 := ?_) (by rfl) rfl ?_ ?_
      rotate_left
      · go_simp
        rfl
      refine hK.out _ _ ?_
      clear hK K
      refine done_ (by kernel_rfl) ?_
      have o3 := o3.base (show x + 1 ≤ B1 by omega)
      go_wp2_with fail
      go_ret
      have hb6 := hbW.chg (Chg.of_below b6 (F := fun _ => False) (fun k hk hk' => by omega)) (fun h => h)
      have hc6 : Chg (XF x) w6 (w6.setCell ⟨x, 2, none⟩ (.slice (some ⟨gv, 0, none⟩) (insI id []).length cv)) := (Chg.refl (XF x) w6).setCell (a := ⟨x, 2, none⟩) (fun _ => rfl) _
      refine ⟨rfl, ⟨_, hb6.set 2 _ rfl, o3.chg hc6 (fun k hk hF => by have : k = x := hF; omega), ?_⟩, ?_⟩
      · exact ⟨(fun h => by cases h), fun h => absurd h insI_ne⟩
      · exact ((hC.mono (fun _ _ h => h.elim)).trans (Chg.of_below b6 (F := fun _ => False) (fun k hk hk' => by omega)) (fun _ _ h => h.elim)).trans hc6 (fun _ _ h => h)
  · have hpos : 0 < L.length := List.length_pos_iff.2 hL
    clear hL hnil
    obtain ⟨g, cp, rfl, hcp, hcm, hg0, hg1, hcells⟩ := hrow.shape3 hpos
    have HC := Lib.hid hcells
    clear hcells
    go_enter Try.func21, Try.ntmps21
    go_wp2_with fail
    refine HAS.out.mono ?_
    rintro e w1 ⟨rfl, rfl⟩
    clear HAS
    go_wp2_with fail
    go_quiet (fail)
    go_wp2_with fail
    go_loop [5] (fun v => ∃ i : Nat, i ≤ L.length ∧ v = .int .i64 i ∧ Hid (∀ y ∈ L.take i, decide (y < id) = true)) (fun v => L.length - (vInt v).toNat)
    case atStart => exact ⟨0, by omega, rfl, Lib.hid (by simp)⟩
    case round =>
      obtain ⟨i, ha, rfl, hf1⟩ := hrel
      by_cases hlt2 : i < L.length
      · have hce : (w.drewN nq).cell? ⟨g, i, none⟩ = _ := HC.out i hlt2
        by_cases hq : L.getD i 0 < id
        · have HT := Lib.hid (take_step hlt2)
          have hf1' := Lib.hid (show ∀ y ∈ L.take (i + 1), decide (y < id) = true from by
            rw [HT.out]
            intro y hy
            rcases List.mem_append.1 hy with hy | hy
            · exact hf1.out y hy
            · simp only [List.mem_singleton] at hy; subst hy; exact decide_eq_true hq)
          clear hf1 HT
          generalize L.getD i 0 = z at hce hq
          go_wp2_with fail
          go_round
          case rel => exact ⟨i + 1, by omega, by go_num, hf1'⟩
          case measure => simp [vInt]; omega
        · have HI := Lib.hid (ins_at hf1.out (fun _ => hq))
          have hq' : id ≤ L.getD i 0 := by omega
          clear hq hf1
          generalize L.getD i 0 = z at hce hq'
          go_wp2_with fail
          clear hce
          clear c0 c1 hroom'
          have C2 := Lib.hid (show (w.drewN nq).cell? ⟨x, 2, none⟩ = some (.slice (some ⟨g, 0, none⟩) L.length cp) from c2)
          have F2 := Lib.hid (show (w.drewN nq).frozen? ⟨x, 2, none⟩ = false from f2)
          have HCW := Lib.hid (show ∀ j, j < L.length → (w.drewN nq).cell? ⟨g, j, none⟩ = some (.int .i64 (L.getD j 0)) from HC.out)
          have hC : Chg (fun _ => False) w (w.drewN nq) := (Chg.refl _ _).drewN _
          have hbW := hb.chg hC (fun h => h)
          clear c2 f2 HC hb hrow
          generalize w.drewN nq = W at C2 F2 HCW hC hbW ⊢
          obtain ⟨B1, hB1⟩ : ∃ B1, W.heap.size = B1 := ⟨_, rfl⟩
          have hxB : x < B1 := hB1 ▸ Nat.lt_of_lt_of_le hxl hC.size
          have hgB : g < B1 := hB1 ▸ Nat.lt_of_lt_of_le hg1 hC.size
          have hs1 := SrcI.firsts HCW.out i
          have hold1 : ∀ a', some (⟨g, 0, none⟩ : Addr) = some a' → a'.block < B1 := fun a' e => by cases e; exact hgB
          have hs2 := SrcI.rest HCW.out i cp hcp ha
          have hold2 := old_block g i cp B1 hgB
          have hi0 : (0 : Int) ≤ (i : Int) := Int.natCast_nonneg _
          have hi1 : (i : Int) ≤ (L.length : Int) := by omega
          have hi2 : (i : Int) ≤ (cp : Int) := by omega
          have c2 := C2.out
          refine start_ (n := 22) (S := fun w' => w'.cell? ⟨x, 2, none⟩ = some (.slice (some ⟨g, 0, none⟩) L.length cp)) (ds := [21]) #[false, false, false, false, false, false, false, false, false, false, false, false, false, false, false, false, false, false, false, false, false, false] (by kernel_rfl) rfl rfl (c2) (fun hHeld => ?_)
          refine pure_ (i := 0) (N := some 47) (v := ?_) (a' := ?_) #[true, false, false, false, false, false, false, false, false, false, false, false, false, false, false, false, false, false, false, false, false, false] rfl rfl (by kernel_rfl) (fun _ _ _ h => h) (Or.inl ⟨by rfl, ?_⟩) ?_ ?_
          rotate_left
          · intro w'
            go_simp
            with_reducible rfl
          rotate_left
          · simp only [Act.put, List.setIfInBounds_toArray, List.set_cons_zero, List.set_cons_succ]
            rfl
          refine pure_ (i := 2) (N := some 49) (v := ?_) (a' := ?_) #[true, false, true, false, false, false, false, false, false, false, false, false, false, false, false, false, false, false, false, false, false, false] rfl rfl (by kernel_rfl) (fun _ _ _ h => h) (Or.inl ⟨by rfl, ?_⟩) ?_ ?_
          rotate_left
          · intro w'
            go_simp
            with_reducible rfl
          rotate_left
          · simp only [Act.put, List.setIfInBounds_toArray, List.set_cons_zero, List.set_cons_succ]
            rfl
          refine pure_ (i := 3) (N := some 50) (v := ?_) (a' := ?_) #[true, false, true, true, false, false, false, false, false, false, false, false, false, false, false, false, false, false, false, false, false, false] rfl rfl (by kernel_rfl) (fun _ _ _ h => h) (Or.inl ⟨by rfl, ?_⟩) ?_ ?_
          rotate_left
          · intro w'
            go_simp
            with_reducible rfl
          rotate_left
          · simp only [Act.put, List.setIfInBounds_toArray, List.set_cons_zero, List.set_cons_succ]
            rfl
          refine pure_ (i := 4) (N := some 51) (v := ?_) (a' := ?_) #[true, false, true, true, true, false, false, false, false, false, false, false, false, false, false, false, false, false, false, false, false, false] rfl rfl (by kernel_rfl) (fun _ _ _ h => h) (Or.inl ⟨by rfl, ?_⟩) ?_ ?_
          rotate_left
          · intro w'
            go_simp
            with_reducible rfl
          rotate_left
          · simp only [Act.put, List.setIfInBounds_toArray, List.set_cons_zero, List.set_cons_succ]
            rfl
          refine pure_ (i := 6) (N := some 53) (v := ?_) (a' := ?_) #[true, false, true, true, true, false, true, false, false, false, false, false, false, false, false, false, false, false, false, false, false, false] rfl rfl (by kernel_rfl) (fun _ _ _ h => h) (Or.inl ⟨by rfl, ?_⟩) ?_ ?_
          rotate_left
          · intro w'
            go_simp
            with_reducible rfl
          rotate_left
          · simp only [Act.put, List.setIfInBounds_toArray, List.set_cons_zero, List.set_cons_succ]
            rfl
          refine pure_ (i := 9) (N := some 56) (v := ?_) (a' := ?_) #[true, false, true, true, true, false, true, false, false, true, false, false, false, false, false, false, false, false, false, false, false, false] rfl rfl (by kernel_rfl) (fun _ _ _ h => h) (Or.inl ⟨by rfl, ?_⟩) ?_ ?_
          rotate_left
          · intro w'
            go_simp
            with_reducible rfl
          rotate_left
          · simp only [Act.put, List.setIfInBounds_toArray, List.set_cons_zero, List.set_cons_succ]
            rfl
          refine pure_ (i := 12) (N := some 59) (v := ?_) (a' := ?_) #[true, false, true, true, true, false, true, false, false, true, false, false, true, false, false, false, false, false, false, false, false, false] rfl rfl (by kernel_rfl) (fun _ _ _ h => h) (Or.inl ⟨by rfl, ?_⟩) ?_ ?_
          rotate_left
          · intro w'
            go_simp
            with_reducible rfl
          rotate_left
          · simp only [Act.put, List.setIfInBounds_toArray, List.set_cons_zero, List.set_cons_succ]
            rfl
          refine pure_ (i := 13) (N := some 60) (v := ?_) (a' := ?_) #[true, false, true, true, true, false, true, false, false, true, false, false, true, true, false, false, false, false, false, false, false, false] rfl rfl (by kernel_rfl) (fun _ _ _ h => h) (Or.inl ⟨by rfl, ?_⟩) ?_ ?_
          rotate_left
          · intro w'
            go_simp
            with_reducible rfl
          rotate_left
          · simp only [Act.put, List.setIfInBounds_toArray, List.set_cons_zero, List.set_cons_succ]
            rfl
          refine pure_ (i := 14) (N := some 61) (v := ?_) (a' := ?_) #[true, false, true, true, true, false, true, false, false, true, false, false, true, true, true, false, false, false, false, false, false, false] rfl rfl (by kernel_rfl) (fun _ _ _ h => h) (Or.inl ⟨by rfl, ?_⟩) ?_ ?_
          rotate_left
          · intro w'
            go_simp
            with_reducible rfl
          rotate_left
          · simp only [Act.put, List.setIfInBounds_toArray, List.set_cons_zero, List.set_cons_succ]
            rfl
          refine pure_ (i := 16) (N := some 63) (v := ?_) (a' := ?_) #[true, false, true, true, true, false, true, false, false, true, false, false, true, true, true, false, true, false, false, false, false, false] rfl rfl (by kernel_rfl) (fun _ _ _ h => h) (Or.inl ⟨by rfl, ?_⟩) ?_ ?_
          rotate_left
          · intro w'
            go_simp
            with_reducible rfl
          rotate_left
          · simp only [Act.put, List.setIfInBounds_toArray, List.set_cons_zero, List.set_cons_succ]
            rfl
          refine take_ (i := 5) (N := some 52) (v := ?_) (a' := ?_) #[true, false, true, true, true, true, true, false, false, true, false, false, true, true, true, false, true, false, false, false, false, false] rfl rfl (by kernel_rfl) (fun _ _ _ h => h) (Or.inl ⟨by rfl, ?_⟩) hHeld ?_ ?_
          rotate_left
          · intro w' s0
            go_simp
            with_reducible rfl
          rotate_left
          · simp only [Act.put, List.setIfInBounds_toArray, List.set_cons_zero, List.set_cons_succ]
            rfl
          refine pure_ (i := 7) (N := some 54) (v := ?_) (a' := ?_) #[true, false, true, true, true, true, true, true, false, true, false, false, true, true, true, false, true, false, false, false, false, false] rfl rfl (by kernel_rfl) (fun _ _ _ h => h) (Or.inl ⟨by rfl, ?_⟩) ?_ ?_
          rotate_left
          · intro w'
            go_simp
            with_reducible rfl
          rotate_left
          · simp only [Act.put, List.setIfInBounds_toArray, List.set_cons_zero, List.set_cons_succ]
            rfl
          refine take_ (i := 15) (N := some 62) (v := ?_) (a' := ?_) #[true, false, true, true, true, true, true, true, false, true, false, false, true, true, true, true, true, false, false, false, false, false] rfl rfl (by kernel_rfl) (fun _ _ _ h => h) (Or.inl ⟨by rfl, ?_⟩) hHeld ?_ ?_
          rotate_left
          · intro w' s0
            go_simp
            with_reducible rfl
          rotate_left
          · simp only [Act.put, List.setIfInBounds_toArray, List.set_cons_zero, List.set_cons_succ]
            rfl
          refine pure_ (i := 17) (N := some 64) (v := ?_) (a' := ?_) #[true, false, true, true, true, true, true, true, false, true, false, false, true, true, true, true, true, true, false, false, false, false] rfl rfl (by kernel_rfl) (fun _ _ _ h => h) (Or.inl ⟨by rfl, ?_⟩) ?_ ?_
          rotate_left
          · intro w'
            go_simp
            with_reducible rfl
          rotate_left
          · simp only [Act.put, List.setIfInBounds_toArray, List.set_cons_zero, List.set_cons_succ]
            rfl
          refine join_ (σ := Nat × Nat × Value) 5 #[true, true, true, true, true, true, true, true, true, true, true, false, true, true, true, true, true, true, false, false, false, false] (fun s => [(48, .slice (some ⟨s.1, 0, none⟩) 0 0), (57, .slice (some ⟨s.2.1, 0, none⟩) 1 1), (55, s.2.2)]) (fun s w' => w'.ownsRow B1 3 1 s.2.2 (0 + i) (([] ++ (L.take i)).map encZ) ∧ w'.heap[s.2.1]? = some (.cells #[.int .i64 id] 3 (0, 0)) ∧ Below B1 W w' ∧ B1 ≤ w'.heap.size) ?_ ?_
          rotate_left
          · intro hCont
            refine two_ (i := 1) (j := 10) (Ni := some 48) (Nj := some 57) #[true, true, true, true, true, true, true, true, false, true, false, false, true, true, true, true, true, true, false, false, false, false] #[true, false, true, true, true, true, true, true, false, true, true, false, true, true, true, true, true, true, false, false, false, false] rfl rfl rfl rfl (by kernel_rfl) (by decide) (by decide) (fun K hK => ?_) (fun K hK => ?_)
            · skip
              obtain ⟨N1, hN1⟩ : ∃ N, W.drew.heap.size = N := ⟨_, rfl⟩
              have hNB1 : B1 ≤ N1 := by have := (Below.refl B1 W).drew.size; omega
              refine step_build0 W.drew rfl rfl N1 hN1 ?_
              intro w1 k1 l1 e1
              have b1 : Below B1 W w1 := (Below.refl B1 W).drew.trans (e1.mono hNB1)
              have s1 := b1.size
              refine hK.out _ _ (((b1).cell (p := ⟨x, 2, none⟩) hxB).trans C2.out) (fun hHeld => ?_)
              clear hK K
              refine norm_ (a' := ?_) ?_ ?_
              rotate_left
              · show Act.put _ (some 48) _ = _
                simp only [Act.put, List.setIfInBounds_toArray, List.set_cons_zero, List.set_cons_succ]
                rfl
              refine two_ (i := 8) (j := 10) (Ni := some 55) (Nj := some 57) #[true, true, true, true, true, true, true, true, true, true, false, false, true, true, true, true, true, true, false, false, false, false] #[true, true, true, true, true, true, true, true, false, true, true, false, true, true, true, true, true, true, false, false, false, false] rfl rfl rfl rfl (by kernel_rfl) (by decide) (by decide) (fun K hK => ?_) (fun K hK => ?_)
              · skip
                refine step_app w1 rfl (.tmp 48) (.tmp 54) rfl B1 (.slice (some ⟨N1, 0, none⟩) 0 0) 0 [] (by rfl) (owns_empty hNB1 k1) (some ⟨g, 0, none⟩) i cp (L.take i) (by rfl) (by simp; omega) ((hs1).below b1 (hold1)) (by omega) (by omega) (by omega) ?_
                intro v1 w2 o1 g1 e2 z1
                have b2 : Below B1 W w2 := b1.trans e2
                have s2 := b2.size
                refine hK.out _ _ (((b2).cell (p := ⟨x, 2, none⟩) hxB).trans C2.out) (fun hHeld => ?_)
                clear hK K
                refine norm_ (a' := ?_) ?_ ?_
                rotate_left
                · show Act.put _ (some 55) _ = _
                  simp only [Act.put, List.setIfInBounds_toArray, List.set_cons_zero, List.set_cons_succ]
                  rfl
                refine one_ (i := 10) (N := some 57) #[true, true, true, true, true, true, true, true, true, true, true, false, true, true, true, true, true, true, false, false, false, false] rfl rfl (by kernel_rfl) (by decide) (fun K hK => ?_)
                obtain ⟨N2, hN2⟩ : ∃ N, w2.heap.size = N := ⟨_, rfl⟩
                have hNB2 : B1 ≤ N2 := by have := b2.size; omega
                refine step_build1 w2 rfl 56 rfl id (by rfl) N2 hN2 ?_
                intro w3 k2 l2 e3
                have b3 : Below B1 W w3 := b2.trans (e3.mono hNB2)
                have o1 := owns_below o1 e3 (by omega)
                have s3 := b3.size
                refine hK.out _ _ (((b3).cell (p := ⟨x, 2, none⟩) hxB).trans C2.out) (fun hHeld => ?_)
                clear hK K
                refine norm_ (a' := ?_) ?_ ?_
                rotate_left
                · show Act.put _ (some 57) _ = _
                  simp only [Act.put, List.setIfInBounds_toArray, List.set_cons_zero, List.set_cons_succ]
                  rfl
                exact norm_ (by simp only [putAll, Act.put, List.setIfInBounds_toArray, List.set_cons_zero, List.set_cons_succ]) (hCont (N1, N2, v1) _ ⟨o1, k2, b3, by omega⟩)
              · skip
                obtain ⟨N2, hN2⟩ : ∃ N, w1.heap.size = N := ⟨_, rfl⟩
                have hNB2 : B1 ≤ N2 := by have := b1.size; omega
                refine step_build1 w1 rfl 56 rfl id (by rfl) N2 hN2 ?_
                intro w2 k2 l2 e2
                have b2 : Below B1 W w2 := b1.trans (e2.mono hNB2)
                have k1 := (e2.block N1 (by omega)).trans k1
                have s2 := b2.size
                refine hK.out _ _ (((b2).cell (p := ⟨x, 2, none⟩) hxB).trans C2.out) (fun hHeld => ?_)
                clear hK K
                refine norm_ (a' := ?_) ?_ ?_
                rotate_left
                · show Act.put _ (some 57) _ = _
                  simp only [Act.put, List.setIfInBounds_toArray, List.set_cons_zero, List.set_cons_succ]
                  rfl
                refine one_ (i := 8) (N := some 55) #[true, true, true, true, true, true, true, true, true, true, true, false, true, true, true, true, true, true, false, false, false, false] rfl rfl (by kernel_rfl) (by decide) (fun K hK => ?_)
                refine step_app w2 rfl (.tmp 48) (.tmp 54) rfl B1 (.slice (some ⟨N1, 0, none⟩) 0 0) 0 [] (by rfl) (owns_empty hNB1 k1) (some ⟨g, 0, none⟩) i cp (L.take i) (by rfl) (by simp; omega) ((hs1).below b2 (hold1)) (by omega) (by omega) (by omega) ?_
                intro v1 w3 o1 g1 e3 z1
                have b3 : Below B1 W w3 := b2.trans e3
                have k2 := (g1.block N2 (by omega) (by simp [Value.ownBlock]; omega)).trans k2
                have s3 := b3.size
                refine hK.out _ _ (((b3).cell (p := ⟨x, 2, none⟩) hxB).trans C2.out) (fun hHeld => ?_)
                clear hK K
                refine norm_ (a' := ?_) ?_ ?_
                rotate_left
                · show Act.put _ (some 55) _ = _
                  simp only [Act.put, List.setIfInBounds_toArray, List.set_cons_zero, List.set_cons_succ]
                  rfl
                exact norm_ (by simp only [putAll, Act.put, List.setIfInBounds_toArray, List.set_cons_zero, List.set_cons_succ]) (hCont (N1, N2, v1) _ ⟨o1, k2, b3, by omega⟩)
            · skip
              obtain ⟨N2, hN2⟩ : ∃ N, W.drew.heap.size = N := ⟨_, rfl⟩
              have hNB2 : B1 ≤ N2 := by have := (Below.refl B1 W).drew.size; omega
              refine step_build1 W.drew rfl 56 rfl id (by rfl) N2 hN2 ?_
              intro w1 k2 l2 e1
              have b1 : Below B1 W w1 := (Below.refl B1 W).drew.trans (e1.mono hNB2)
              have s1 := b1.size
              refine hK.out _ _ (((b1).cell (p := ⟨x, 2, none⟩) hxB).trans C2.out) (fun hHeld => ?_)
              clear hK K
              refine norm_ (a' := ?_) ?_ ?_
              rotate_left
              · show Act.put _ (some 57) _ = _
                simp only [Act.put, List.setIfInBounds_toArray, List.set_cons_zero, List.set_cons_succ]
                rfl
              refine one_ (i := 1) (N := some 48) #[true, true, true, true, true, true, true, true, false, true, true, false, true, true, true, true, true, true, false, false, false, false] rfl rfl (by kernel_rfl) (by decide) (fun K hK => ?_)
              obtain ⟨N1, hN1⟩ : ∃ N, w1.heap.size = N := ⟨_, rfl⟩
              have hNB1 : B1 ≤ N1 := by have := b1.size; omega
              refine step_build0 w1 rfl rfl N1 hN1 ?_
              intro w2 k1 l1 e2
              have b2 : Below B1 W w2 := b1.trans (e2.mono hNB1)
              have k2 := (e2.block N2 (by omega)).trans k2
              have s2 := b2.size
              refine hK.out _ _ (((b2).cell (p := ⟨x, 2, none⟩) hxB).trans C2.out) (fun hHeld => ?_)
              clear hK K
              refine norm_ (a' := ?_) ?_ ?_
              rotate_left
              · show Act.put _ (some 48) _ = _
                simp only [Act.put, List.setIfInBounds_toArray, List.set_cons_zero, List.set_cons_succ]
                rfl
              refine one_ (i := 8) (N := some 55) #[true, true, true, true, true, true, true, true, true, true, true, false, true, true, true, true, true, true, false, false, false, false] rfl rfl (by kernel_rfl) (by decide) (fun K hK => ?_)
              refine step_app w2 rfl (.tmp 48) (.tmp 54) rfl B1 (.slice (some ⟨N1, 0, none⟩) 0 0) 0 [] (by rfl) (owns_empty hNB1 k1) (some ⟨g, 0, none⟩) i cp (L.take i) (by rfl) (by simp; omega) ((hs1).below b2 (hold1)) (by omega) (by omega) (by omega) ?_
              intro v1 w3 o1 g1 e3 z1
              have b3 : Below B1 W w3 := b2.trans e3
              have k2 := (g1.block N2 (by omega) (by simp [Value.ownBlock]; omega)).trans k2
              have s3 := b3.size
              refine hK.out _ _ (((b3).cell (p := ⟨x, 2, none⟩) hxB).trans C2.out) (fun hHeld => ?_)
              clear hK K
              refine norm_ (a' := ?_) ?_ ?_
              rotate_left
              · show Act.put _ (some 55) _ = _
                simp only [Act.put, List.setIfInBounds_toArray, List.set_cons_zero, List.set_cons_succ]
                rfl
              exact norm_ (by simp only [putAll, Act.put, List.setIfInBounds_toArray, List.set_cons_zero, List.set_cons_succ]) (hCont (N1, N2, v1) _ ⟨o1, k2, b3, by omega⟩)
          rintro ⟨N1, N2, v1⟩ w4 ⟨o1, k2, b4, s4⟩
          have hHeld : w4.cell? ⟨x, 2, none⟩ = some (.slice (some ⟨g, 0, none⟩) L.length cp) := ((b4).cell (p := ⟨x, 2, none⟩) hxB).trans C2.out
          refine norm_ (a' := ?_) ?_ ?_
          rotate_left
          · simp only [putAll, Act.put, List.setIfInBounds_toArray, List.set_cons_zero, List.set_cons_succ]
            rfl
          refine one_ (i := 11) (N := some 58) #[true, true, true, true, true, true, true, true, true, true, true, true, true, true, true, true, true, true, false, false, false, false] rfl rfl (by kernel_rfl) (by decide) (fun K hK => ?_)
          refine step_app w4 rfl (.tmp 55) (.tmp 57) rfl B1 v1 (0 + i) ([] ++ (L.take i)) (by rfl) o1 (some ⟨N2, 0, none⟩) 1 1 [id] (by rfl) rfl (SrcI.one k2) (by omega) (by omega) (by omega) ?_
          intro v2 w5 o2 g2 e5 z2
          have b5 : Below B1 W w5 := b4.trans e5
          have s5 := b5.size
          refine hK.out _ _ (((b5).cell (p := ⟨x, 2, none⟩) hxB).trans C2.out) (fun hHeld => ?_)
          clear hK K
          refine norm_ (a' := ?_) ?_ ?_
          rotate_left
          · show Act.put _ (some 58) _ = _
            simp only [Act.put, List.setIfInBounds_toArray, List.set_cons_zero, List.set_cons_succ]
            rfl
          refine one_ (i := 18) (N := some 65) #[true, true, true, true, true, true, true, true, true, true, true, true, true, true, true, true, true, true, true, false, false, false] rfl rfl (by kernel_rfl) (by decide) (fun K hK => ?_)
          refine step_app w5 rfl (.tmp 58) (.tmp 64) rfl B1 v2 (0 + i + 1) ([] ++ (L.take i) ++ [id]) (by rfl) o2 (if cp = i then some ⟨g, 0, none⟩ else some ⟨g, i, none⟩) (L.length - i) (cp - i) (L.drop i) (by rfl) (by simp) ((hs2).below b5 (hold2)) (by omega) (by omega) (by omega) ?_
          intro v3 w6 o3 g3 e6 z3
          have b6 : Below B1 W w6 := b5.trans e6
          have s6 := b6.size
          have c6 := (b6.cell (p := ⟨x, 2, none⟩) hxB).trans C2.out
          have f6 := (World.frozen?_of_block (b6.block x hxB) : w6.frozen? ⟨x, 2, none⟩ = _).trans F2.out
          have o3 := Row.of_ins (xs := [] ++ L.take i ++ [id] ++ L.drop i) o3 (by simp; omega)
          rw [HI.out] at o3
          obtain ⟨gv, cv, rfl, hcv, hcv2, hgv, hgv2, hcells⟩ := o3.shape3 insI_pos
          clear hcells
          refine hK.out _ _ (((b6).cell (p := ⟨x, 2, none⟩) hxB).trans C2.out) (fun hHeld => ?_)
          clear hK K
          refine norm_ (a' := ?_) ?_ ?_
          rotate_left
          · show Act.put _ (some 65) _ = _
            simp only [Act.put, List.setIfInBounds_toArray, List.set_cons_zero, List.set_cons_succ]
            rfl
          refine pure_ (i := 19) (N := some 66) (v := ?_) (a' := ?_) #[true, true, true, true, true, true, true, true, true, true, true, true, true, true, true, true, true, true, true, true, false, false] rfl rfl (by kernel_rfl) (fun _ _ _ h => h) (Or.inl ⟨by rfl, ?_⟩) ?_ ?_
          rotate_left
          · intro w'
            go_simp
            with_reducible rfl
          rotate_left
          · simp only [Act.put, List.setIfInBounds_toArray, List.set_cons_zero, List.set_cons_succ]
            rfl
          refine pure_ (i := 20) (N := some 67) (v := ?_) (a' := ?_) #[true, true, true, true, true, true, true, true, true, true, true, true, true, true, true, true, true, true, true, true, true, false] rfl rfl (by kernel_rfl) (fun _ _ _ h => h) (Or.inl ⟨by rfl, ?_⟩) ?_ ?_
          rotate_left
          · intro w'
            go_simp
            with_reducible rfl
          rotate_left
          · simp only [Act.put, List.setIfInBounds_toArray, List.set_cons_zero, List.set_cons_succ]
            rfl
          refine last_ (i := 21) (N := none) #[true, true, true, true, true, true, true, true, true, true, true, true, true, true, true, true, true, true, true, true, true, true] rfl rfl (by kernel_rfl) (by decide) (fun K hK => ?_)
          refine skip_ (w1 := ?_) (by rfl) rfl ?_ ?_
          rotate_left
          · go_simp
            rfl
          refine hK.out _ _ ?_
          clear hK K
          refine done_ (by kernel_rfl) ?_
          generalize (if cp = i then (some ⟨g, 0, none⟩ : Option Addr) else some ⟨g, i, none⟩) = A2
          have o3 := o3.base (show x + 1 ≤ B1 by omega)
          go_wp2_with fail
          go_ret
          have hb6 := hbW.chg (Chg.of_below b6 (F := fun _ => False) (fun k hk hk' => by omega)) (fun h => h)
          have hc6 : Chg (XF x) w6 (w6.setCell ⟨x, 2, none⟩ (.slice (some ⟨gv, 0, none⟩) (insI id L).length cv)) := (Chg.refl (XF x) w6).setCell (a := ⟨x, 2, none⟩) (fun _ => rfl) _
          refine ⟨rfl, ⟨_, hb6.set 2 _ rfl, o3.chg hc6 (fun k hk hF => by have : k = x := hF; omega), ?_⟩, ?_⟩
          · exact ⟨(fun h => by cases h), fun h => absurd h insI_ne⟩
          · exact ((hC.mono (fun _ _ h => h.elim)).trans (Chg.of_below b6 (F := fun _ => False) (fun k hk hk' => by omega)) (fun _ _ h => h.elim)).trans hc6 (fun _ _ h => h)
      · have HI := Lib.hid (ins_at (id := id) hf1.out (fun h => absurd h hlt2))
        go_wp2_with fail
        clear c0 c1 hroom'
        have C2 := Lib.hid (show (w.drewN nq).cell? ⟨x, 2, none⟩ = some (.slice (some ⟨g, 0, none⟩) L.length cp) from c2)
        have F2 := Lib.hid (show (w.drewN nq).frozen? ⟨x, 2, none⟩ = false from f2)
        have HCW := Lib.hid (show ∀ j, j < L.length → (w.drewN nq).cell? ⟨g, j, none⟩ = some (.int .i64 (L.getD j 0)) from HC.out)
        have hC : Chg (fun _ => False) w (w.drewN nq) := (Chg.refl _ _).drewN _
        have hbW := hb.chg hC (fun h => h)
        clear c2 f2 HC hb hrow
        generalize w.drewN nq = W at C2 F2 HCW hC hbW ⊢
        obtain ⟨B1, hB1⟩ : ∃ B1, W.heap.size = B1 := ⟨_, rfl⟩
        have hxB : x < B1 := hB1 ▸ Nat.lt_of_lt_of_le hxl hC.size
        have hgB : g < B1 := hB1 ▸ Nat.lt_of_lt_of_le hg1 hC.size
        have hs1 := SrcI.firsts HCW.out i
        have hold1 : ∀ a', some (⟨g, 0, none⟩ : Addr) = some a' → a'.block < B1 := fun a' e => by cases e; exact hgB
        have hs2 := SrcI.rest HCW.out i cp hcp ha
        have hold2 := old_block g i cp B1 hgB
        have hi0 : (0 : Int) ≤ (i : Int) := Int.natCast_nonneg _
        have hi1 : (i : Int) ≤ (L.length : Int) := by omega
        have hi2 : (i : Int) ≤ (cp : Int) := by omega
        have c2 := C2.out
        refine start_ (n := 22) (S := fun w' => w'.cell? ⟨x, 2, none⟩ = some (.slice (some ⟨g, 0, none⟩) L.length cp)) (ds := [21]) #[false, false, false, false, false, false, false, false, false, false, false, false, false, false, false, false, false, false, false, false, false, false] (by kernel_rfl) rfl rfl (c2) (fun hHeld => ?_)
        refine pure_ (i := 0) (N := some 47) (v := ?_) (a' := ?_) #[true, false, false, false, false, false, false, false, false, false, false, false, false, false, false, false, false, false, false, false, false, false] rfl rfl (by kernel_rfl) (fun _ _ _ h => h) (Or.inl ⟨by rfl, ?_⟩) ?_ ?_
        rotate_left
        · intro w'
          go_simp
          with_reducible rfl
        rotate_left
        · simp only [Act.put, List.setIfInBounds_toArray, List.set_cons_zero, List.set_cons_succ]
          rfl
        refine pure_ (i := 2) (N := some 49) (v := ?_) (a' := ?_) #[true, false, true, false, false, false, false, false, false, false, false, false, false, false, false, false, false, false, false, false, false, false] rfl rfl (by kernel_rfl) (fun _ _ _ h => h) (Or.inl ⟨by rfl, ?_⟩) ?_ ?_
        rotate_left
        · intro w'
          go_simp
          with_reducible rfl
        rotate_left
        · simp only [Act.put, List.setIfInBounds_toArray, List.set_cons_zero, List.set_cons_succ]
          rfl
        refine pure_ (i := 3) (N := some 50) (v := ?_) (a' := ?_) #[true, false, true, true, false, false, false, false, false, false, false, false, false, false, false, false, false, false, false, false, false, false] rfl rfl (by kernel_rfl) (fun _ _ _ h => h) (Or.inl ⟨by rfl, ?_⟩) ?_ ?_
        rotate_left
        · intro w'
          go_simp
          with_reducible rfl
        rotate_left
        · simp only [Act.put, List.setIfInBounds_toArray, List.set_cons_zero, List.set_cons_succ]
          rfl
        refine pure_ (i := 4) (N := some 51) (v := ?_) (a' := ?_) #[true, false, true, true, true, false, false, false, false, false, false, false, false, false, false, false, false, false, false, false, false, false] rfl rfl (by kernel_rfl) (fun _ _ _ h => h) (Or.inl ⟨by rfl, ?_⟩) ?_ ?_
        rotate_left
        · intro w'
          go_simp
          with_reducible rfl
        rotate_left
        · simp only [Act.put, List.setIfInBounds_toArray, List.set_cons_zero, List.set_cons_succ]
          rfl
        refine pure_ (i := 6) (N := some 53) (v := ?_) (a' := ?_) #[true, false, true, true, true, false, true, false, false, false, false, false, false, false, false, false, false, false, false, false, false, false] rfl rfl (by kernel_rfl) (fun _ _ _ h => h) (Or.inl ⟨by rfl, ?_⟩) ?_ ?_
        rotate_left
        · intro w'
          go_simp
          with_reducible rfl
        rotate_left
        · simp only [Act.put, List.setIfInBounds_toArray, List.set_cons_zero, List.set_cons_succ]
          rfl
        refine pure_ (i := 9) (N := some 56) (v := ?_) (a' := ?_) #[true, false, true, true, true, false, true, false, false, true, false, false, false, false, false, false, false, false, false, false, false, false] rfl rfl (by kernel_rfl) (fun _ _ _ h => h) (Or.inl ⟨by rfl, ?_⟩) ?_ ?_
        rotate_left
        · intro w'
          go_simp
          with_reducible rfl
        rotate_left
        · simp only [Act.put, List.setIfInBounds_toArray, List.set_cons_zero, List.set_cons_succ]
          rfl
        refine pure_ (i := 12) (N := some 59) (v := ?_) (a' := ?_) #[true, false, true, true, true, false, true, false, false, true, false, false, true, false, false, false, false, false, false, false, false, false] rfl rfl (by kernel_rfl) (fun _ _ _ h => h) (Or.inl ⟨by rfl, ?_⟩) ?_ ?_
        rotate_left
        · intro w'
          go_simp
          with_reducible rfl
        rotate_left
        · simp only [Act.put, List.setIfInBounds_toArray, List.set_cons_zero, List.set_cons_succ]
          rfl
        refine pure_ (i := 13) (N := some 60) (v := ?_) (a' := ?_) #[true, false, true, true, true, false, true, false, false, true, false, false, true, true, false, false, false, false, false, false, false, false] rfl rfl (by kernel_rfl) (fun _ _ _ h => h) (Or.inl ⟨by rfl, ?_⟩) ?_ ?_
        rotate_left
        · intro w'
          go_simp
          with_reducible rfl
        rotate_left
        · simp only [Act.put, List.setIfInBounds_toArray, List.set_cons_zero, List.set_cons_succ]
          rfl
        refine pure_ (i := 14) (N := some 61) (v := ?_) (a' := ?_) #[true, false, true, true, true, false, true, false, false, true, false, false, true, true, true, false, false, false, false, false, false, false] rfl rfl (by kernel_rfl) (fun _ _ _ h => h) (Or.inl ⟨by rfl, ?_⟩) ?_ ?_
        rotate_left
        · intro w'
          go_simp
          with_reducible rfl
        rotate_left
        · simp only [Act.put, List.setIfInBounds_toArray, List.set_cons_zero, List.set_cons_succ]
          rfl
        refine pure_ (i := 16) (N := some 63) (v := ?_) (a' := ?_) #[true, false, true, true, true, false, true, false, false, true, false, false, true, true, true, false, true, false, false, false, false, false] rfl rfl (by kernel_rfl) (fun _ _ _ h => h) (Or.inl ⟨by rfl, ?_⟩) ?_ ?_
        rotate_left
        · intro w'
          go_simp
          with_reducible rfl
        rotate_left
        · simp only [Act.put, List.setIfInBounds_toArray, List.set_cons_zero, List.set_cons_succ]
          rfl
        refine take_ (i := 5) (N := some 52) (v := ?_) (a' := ?_) #[true, false, true, true, true, true, true, false, false, true, false, false, true, true, true, false, true, false, false, false, false, false] rfl rfl (by kernel_rfl) (fun _ _ _ h => h) (Or.inl ⟨by rfl, ?_⟩) hHeld ?_ ?_
        rotate_left
        · intro w' s0
          go_simp
          with_reducible rfl
        rotate_left
        · simp only [Act.put, List.setIfInBounds_toArray, List.set_cons_zero, List.set_cons_succ]
          rfl
        refine pure_ (i := 7) (N := some 54) (v := ?_) (a' := ?_) #[true, false, true, true, true, true, true, true, false, true, false, false, true, true, true, false, true, false, false, false, false, false] rfl rfl (by kernel_rfl) (fun _ _ _ h => h) (Or.inl ⟨by rfl, ?_⟩) ?_ ?_
        rotate_left
        · intro w'
          go_simp
          with_reducible rfl
        rotate_left
        · simp only [Act.put, List.setIfInBounds_toArray, List.set_cons_zero, List.set_cons_succ]
          rfl
        refine take_ (i := 15) (N := some 62) (v := ?_) (a' := ?_) #[true, false, true, true, true, true, true, true, false, true, false, false, true, true, true, true, true, false, false, false, false, false] rfl rfl (by kernel_rfl) (fun _ _ _ h => h) (Or.inl ⟨by rfl, ?_⟩) hHeld ?_ ?_
        rotate_left
        · intro w' s0
          go_simp
          with_reducible rfl
        rotate_left
        · simp only [Act.put, List.setIfInBounds_toArray, List.set_cons_zero, List.set_cons_succ]
          rfl
        refine pure_ (i := 17) (N := some 64) (v := ?_) (a' := ?_) #[true, false, true, true, true, true, true, true, false, true, false, false, true, true, true, true, true, true, false, false, false, false] rfl rfl (by kernel_rfl) (fun _ _ _ h => h) (Or.inl ⟨by rfl, ?_⟩) ?_ ?_
        rotate_left
        · intro w'
          go_simp
          with_reducible rfl
        rotate_left
        · simp only [Act.put, List.setIfInBounds_toArray, List.set_cons_zero, List.set_cons_succ]
          rfl
        refine join_ (σ := Nat × Nat × Value) 5 #[true, true, true, true, true, true, true, true, true, true, true, false, true, true, true, true, true, true, false, false, false, false] (fun s => [(48, .slice (some ⟨s.1, 0, none⟩) 0 0), (57, .slice (some ⟨s.2.1, 0, none⟩) 1 1), (55, s.2.2)]) (fun s w' => w'.ownsRow B1 3 1 s.2.2 (0 + i) (([] ++ (L.take i)).map encZ) ∧ w'.heap[s.2.1]? = some (.cells #[.int .i64 id] 3 (0, 0)) ∧ Below B1 W w' ∧ B1 ≤ w'.heap.size) ?_ ?_
        rotate_left
        · intro hCont
          refine two_ (i := 1) (j := 10) (Ni := some 48) (Nj := some 57) #[true, true, true, true, true, true, true, true, false, true, false, false, true, true, true, true, true, true, false, false, false, false] #[true, false, true, true, true, true, true, true, false, true, true, false, true, true, true, true, true, true, false, false, false, false] rfl rfl rfl rfl (by kernel_rfl) (by decide) (by decide) (fun K hK => ?_) (fun K hK => ?_)
          · skip
            obtain ⟨N1, hN1⟩ : ∃ N, W.drew.heap.size = N := ⟨_, rfl⟩
            have hNB1 : B1 ≤ N1 := by have := (Below.refl B1 W).drew.size; omega
            refine step_build0 W.drew rfl rfl N1 hN1 ?_
            intro w1 k1 l1 e1
            have b1 : Below B1 W w1 := (Below.refl B1 W).drew.trans (e1.mono hNB1)
            have s1 := b1.size
            refine hK.out _ _ (((b1).cell (p := ⟨x, 2, none⟩) hxB).trans C2.out) (fun hHeld => ?_)
            clear hK K
            refine norm_ (a' := ?_) ?_ ?_
            rotate_left
            · show Act.put _ (some 48) _ = _
              simp only [Act.put, List.setIfInBounds_toArray, List.set_cons_zero, List.set_cons_succ]
              rfl
            refine two_ (i := 8) (j := 10) (Ni := some 55) (Nj := some 57) #[true, true, true, true, true, true, true, true, true, true, false, false, true, true, true, true, true, true, false, false, false, false] #[true, true, true, true, true, true, true, true, false, true, true, false, true, true, true, true, true, true, false, false, false, false] rfl rfl rfl rfl (by kernel_rfl) (by decide) (by decide) (fun K hK => ?_) (fun K hK => ?_)
            · skip
              refine step_app w1 rfl (.tmp 48) (.tmp 54) rfl B1 (.slice (some ⟨N1, 0, none⟩) 0 0) 0 [] (by rfl) (owns_empty hNB1 k1) (some ⟨g, 0, none⟩) i cp (L.take i) (by rfl) (by simp; omega) ((hs1).below b1 (hold1)) (by omega) (by omega) (by omega) ?_
              intro v1 w2 o1 g1 e2 z1
              have b2 : Below B1 W w2 := b1.trans e2
              have s2 := b2.size
              refine hK.out _ _ (((b2).cell (p := ⟨x, 2, none⟩) hxB).trans C2.out) (fun hHeld => ?_)
              clear hK K
              refine norm_ (a' := ?_) ?_ ?_
              rotate_left
              · show Act.put _ (some 55) _ = _
                simp only [Act.put, List.setIfInBounds_toArray, List.set_cons_zero, List.set_cons_succ]
                rfl
              refine one_ (i := 10) (N := some 57) #[true, true, true, true, true, true, true, true, true, true, true, false, true, true, true, true, true, true, false, false, false, false] rfl rfl (by kernel_rfl) (by decide) (fun K hK => ?_)
              obtain ⟨N2, hN2⟩ : ∃ N, w2.heap.size = N := ⟨_, rfl⟩
              have hNB2 : B1 ≤ N2 := by have := b2.size; omega
              refine step_build1 w2 rfl 56 rfl id (by rfl) N2 hN2 ?_
              intro w3 k2 l2 e3
              have b3 : Below B1 W w3 := b2.trans (e3.mono hNB2)
              have o1 := owns_below o1 e3 (by omega)
              have s3 := b3.size
              refine hK.out _ _ (((b3).cell (p := ⟨x, 2, none⟩) hxB).trans C2.out) (fun hHeld => ?_)
              clear hK K
              refine norm_ (a' := ?_) ?_ ?_
              rotate_left
              · show Act.put _ (some 57) _ = _
                simp only [Act.put, List.setIfInBounds_toArray, List.set_cons_zero, List.set_cons_succ]
                rfl
              exact norm_ (by simp only [putAll, Act.put, List.setIfInBounds_toArray, List.set_cons_zero, List.set_cons_succ]) (hCont (N1, N2, v1) _ ⟨o1, k2, b3, by omega⟩)
            · skip
              obtain ⟨N2, hN2⟩ : ∃ N, w1.heap.size = N := ⟨_, rfl⟩
              have hNB2 : B1 ≤ N2 := by have := b1.size; omega
              refine step_build1 w1 rfl 56 rfl id (by rfl) N2 hN2 ?_
              intro w2 k2 l2 e2
              have b2 : Below B1 W w2 := b1.trans (e2.mono hNB2)
              have k1 := (e2.block N1 (by omega)).trans k1
              have s2 := b2.size
              refine hK.out _ _ (((b2).cell (p := ⟨x, 2, none⟩) hxB).trans C2.out) (fun hHeld => ?_)
              clear hK K
              refine norm_ (a' := ?_) ?_ ?_
              rotate_left
              · show Act.put _ (some 57) _ = _
                simp only [Act.put, List.setIfInBounds_toArray, List.set_cons_zero, List.set_cons_succ]
                rfl
              refine one_ (i := 8) (N := some 55) #[true, true, true, true, true, true, true, true, true, true, true, false, true, true, true, true, true, true, false, false, false, false] rfl rfl (by kernel_rfl) (by decide) (fun K hK => ?_)
              refine step_app w2 rfl (.tmp 48) (.tmp 54) rfl B1 (.slice (some ⟨N1, 0, none⟩) 0 0) 0 [] (by rfl) (owns_empty hNB1 k1) (some ⟨g, 0, none⟩) i cp (L.take i) (by rfl) (by simp; omega) ((hs1).below b2 (hold1)) (by omega) (by omega) (by omega) ?_
              intro v1 w3 o1 g1 e3 z1
              have b3 : Below B1 W w3 := b2.trans e3
              have k2 := (g1.block N2 (by omega) (by simp [Value.ownBlock]; omega)).trans k2
              have s3 := b3.size
              refine hK.out _ _ (((b3).cell (p := ⟨x, 2, none⟩) hxB).trans C2.out) (fun hHeld => ?_)
              clear hK K
              refine norm_ (a' := ?_) ?_ ?_
              rotate_left
              · show Act.put _ (some 55) _ = _
                simp only [Act.put, List.setIfInBounds_toArray, List.set_cons_zero, List.set_cons_succ]
                rfl
              exact norm_ (by simp only [putAll, Act.put, List.setIfInBounds_toArray, List.set_cons_zero, List.set_cons_succ]) (hCont (N1, N2, v1) _ ⟨o1, k2, b3, by omega⟩)
          · skip
            obtain ⟨N2, hN2⟩ : ∃ N, W.drew.heap.size = N := ⟨_, rfl⟩
            have hNB2 : B1 ≤ N2 := by have := (Below.refl B1 W).drew.size; omega
            refine step_build1 W.drew rfl 56 rfl id (by rfl) N2 hN2 ?_
            intro w1 k2 l2 e1
            have b1 : Below B1 W w1 := (Below.refl B1 W).drew.trans (e1.mono hNB2)
            have s1 := b1.size
            refine hK.out _ _ (((b1).cell (p := ⟨x, 2, none⟩) hxB).trans C2.out) (fun hHeld => ?_)
            clear hK K
            refine norm_ (a' := ?_) ?_ ?_
            rotate_left
            · show Act.put _ (some 57) _ = _
              simp only [Act.put, List.setIfInBounds_toArray, List.set_cons_zero, List.set_cons_succ]
              rfl
            refine one_ (i := 1) (N := some 48) #[true, true, true, true, true, true, true, true, false, true, true, false, true, true, true, true, true, true, false, false, false, false] rfl rfl (by kernel_rfl) (by decide) (fun K hK => ?_)
            obtain ⟨N1, hN1⟩ : ∃ N, w1.heap.size = N := ⟨_, rfl⟩
            have hNB1 : B1 ≤ N1 := by have := b1.size; omega
            refine step_build0 w1 rfl rfl N1 hN1 ?_
            intro w2 k1 l1 e2
            have b2 : Below B1 W w2 := b1.trans (e2.mono hNB1)
            have k2 := (e2.block N2 (by omega)).trans k2
            have s2 := b2.size
            refine hK.out _ _ (((b2).cell (p := ⟨x, 2, none⟩) hxB).trans C2.out) (fun hHeld => ?_)
            clear hK K
            refine norm_ (a' := ?_) ?_ ?_
            rotate_left
            · show Act.put _ (some 48) _ = _
              simp only [Act.put, List.setIfInBounds_toArray, List.set_cons_zero, List.set_cons_succ]
              rfl
            refine one_ (i := 8) (N := some 55) #[true, true, true, true, true, true, true, true, true, true, true, false, true, true, true, true, true, true, false, false, false, false] rfl rfl (by kernel_rfl) (by decide) (fun K hK => ?_)
            refine step_app w2 rfl (.tmp 48) (.tmp 54) rfl B1 (.slice (some ⟨N1, 0, none⟩) 0 0) 0 [] (by rfl) (owns_empty hNB1 k1) (some ⟨g, 0, none⟩) i cp (L.take i) (by rfl) (by simp; omega) ((hs1).below b2 (hold1)) (by omega) (by omega) (by omega) ?_
            intro v1 w3 o1 g1 e3 z1
            have b3 : Below B1 W w3 := b2.trans e3
            have k2 := (g1.block N2 (by omega) (by simp [Value.ownBlock]; omega)).trans k2
            have s3 := b3.size
            refine hK.out _ _ (((b3).cell (p := ⟨x, 2, none⟩) hxB).trans C2.out) (fun hHeld => ?_)
            clear hK K
            refine norm_ (a' := ?_) ?_ ?_
            rotate_left
            · show Act.put _ (some 55) _ = _
              simp only [Act.put, List.setIfInBounds_toArray, List.set_cons_zero, List.set_cons_succ]
              rfl
            exact norm_ (by simp only [putAll, Act.put, List.setIfInBounds_toArray, List.set_cons_zero, List.set_cons_succ]) (hCont (N1, N2, v1) _ ⟨o1, k2, b3, by omega⟩)
        rintro ⟨N1, N2, v1⟩ w4 ⟨o1, k2, b4, s4⟩
        have hHeld : w4.cell? ⟨x, 2, none⟩ = some (.slice (some ⟨g, 0, none⟩) L.length cp) := ((b4).cell (p := ⟨x, 2, none⟩) hxB).trans C2.out
        refine norm_ (a' := ?_) ?_ ?_
        rotate_left
        · simp only [putAll, Act.put, List.setIfInBounds_toArray, List.set_cons_zero, List.set_cons_succ]
          rfl
        refine one_ (i := 11) (N := some 58) #[true, true, true, true, true, true, true, true, true, true, true, true, true, true, true, true, true, true, false, false, false, false] rfl rfl (by kernel_rfl) (by decide) (fun K hK => ?_)
        refine step_app w4 rfl (.tmp 55) (.tmp 57) rfl B1 v1 (0 + i) ([] ++ (L.take i)) (by rfl) o1 (some ⟨N2, 0, none⟩) 1 1 [id] (by rfl) rfl (SrcI.one k2) (by omega) (by omega) (by omega) ?_
        intro v2 w5 o2 g2 e5 z2
        have b5 : Below B1 W w5 := b4.trans e5
        have s5 := b5.size
        refine hK.out _ _ (((b5).cell (p := ⟨x, 2, none⟩) hxB).trans C2.out) (fun hHeld => ?_)
        clear hK K
        refine norm_ (a' := ?_) ?_ ?_
        rotate_left
        · show Act.put _ (some 58) _ = _
          simp only [Act.put, List.setIfInBounds_toArray, List.set_cons_zero, List.set_cons_succ]
          rfl
        refine one_ (i := 18) (N := some 65) #[true, true, true, true, true, true, true, true, true, true, true, true, true, true, true, true, true, true, true, false, false, false] rfl rfl (by kernel_rfl) (by decide) (fun K hK => ?_)
        refine step_app w5 rfl (.tmp 58) (.tmp 64) rfl B1 v2 (0 + i + 1) ([] ++ (L.take i) ++ [id]) (by rfl) o2 (if cp = i then some ⟨g, 0, none⟩ else some ⟨g, i, none⟩) (L.length - i) (cp - i) (L.drop i) (by rfl) (by simp) ((hs2).below b5 (hold2)) (by omega) (by omega) (by omega) ?_
        intro v3 w6 o3 g3 e6 z3
        have b6 : Below B1 W w6 := b5.trans e6
        have s6 := b6.size
        have c6 := (b6.cell (p := ⟨x, 2, none⟩) hxB).trans C2.out
        have f6 := (World.frozen?_of_block (b6.block x hxB) : w6.frozen? ⟨x, 2, none⟩ = _).trans F2.out
        have o3 := Row.of_ins (xs := [] ++ L.take i ++ [id] ++ L.drop i) o3 (by simp; omega)
        rw [HI.out] at o3
        obtain ⟨gv, cv, rfl, hcv, hcv2, hgv, hgv2, hcells⟩ := o3.shape3 insI_pos
        clear hcells
        refine hK.out _ _ (((b6).cell (p := ⟨x, 2, none⟩) hxB).trans C2.out) (fun hHeld => ?_)
        clear hK K
        refine norm_ (a' := ?_) ?_ ?_
        rotate_left
        · show Act.put _ (some 65) _ = _
          simp only [Act.put, List.setIfInBounds_toArray, List.set_cons_zero, List.set_cons_succ]
          rfl
        refine pure_ (i := 19) (N := some 66) (v := ?_) (a' := ?_) #[true, true, true, true, true, true, true, true, true, true, true, true, true, true, true, true, true, true, true, true, false, false] rfl rfl (by kernel_rfl) (fun _ _ _ h => h) (Or.inl ⟨by rfl, ?_⟩) ?_ ?_
        rotate_left
        · intro w'
          go_simp
          with_reducible rfl
        rotate_left
        · simp only [Act.put, List.setIfInBounds_toArray, List.set_cons_zero, List.set_cons_succ]
          rfl
        refine pure_ (i := 20) (N := some 67) (v := ?_) (a' := ?_) #[true, true, true, true, true, true, true, true, true, true, true, true, true, true, true, true, true, true, true, true, true, false] rfl rfl (by kernel_rfl) (fun _ _ _ h => h) (Or.inl ⟨by rfl, ?_⟩) ?_ ?_
        rotate_left
        · intro w'
          go_simp
          with_reducible rfl
        rotate_left
        · simp only [Act.put, List.setIfInBounds_toArray, List.set_cons_zero, List.set_cons_succ]
          rfl
        refine last_ (i := 21) (N := none) #[true, true, true, true, true, true, true, true, true, true, true, true, true, true, true, true, true, true, true, true, true, true] rfl rfl (by kernel_rfl) (by decide) (fun K hK => ?_)
        refine skip_ (w1 := ?_) (by rfl) rfl ?_ ?_
        rotate_left
        · go_simp
          rfl
        refine hK.out _ _ ?_
        clear hK K
        refine done_ (by kernel_rfl) ?_
        generalize (if cp = i then (some ⟨g, 0, none⟩ : Option Addr) else some ⟨g, i, none⟩) = A2
        have o3 := o3.base (show x + 1 ≤ B1 by omega)
        go_wp2_with fail
        go_ret
        have hb6 := hbW.chg (Chg.of_below b6 (F := fun _ => False) (fun k hk hk' => by omega)) (fun h => h)
        have hc6 : Chg (XF x) w6 (w6.setCell ⟨x, 2, none⟩ (.slice (some ⟨gv, 0, none⟩) (insI id L).length cv)) := (Chg.refl (XF x) w6).setCell (a := ⟨x, 2, none⟩) (fun _ => rfl) _
        refine ⟨rfl, ⟨_, hb6.set 2 _ rfl, o3.chg hc6 (fun k hk hF => by have : k = x := hF; omega), ?_⟩, ?_⟩
        · exact ⟨(fun h => by cases h), fun h => absurd h insI_ne⟩
        · exact ((hC.mono (fun _ _ h => h.elim)).trans (Chg.of_below b6 (F := fun _ => False) (fun k hk hk' => by omega)) (fun _ _ h => h.elim)).trans hc6 (fun _ _ h => h)

theorem rtake_calls {w : World} {x : Nat} {m : RefM} (h : RefAt w x m) (id : Int) (hr : m.L.length ≤ 1000) :
    Calls Try.prog 21 #[.pointer (some ⟨x, 0, none⟩), .int .i64 id] w fun e w' => e = .returned (.int .i64 (m.take id).1) ∧ RefAt w' x (m.take id).2 ∧ Chg (XF x) w w' := by
  by_cases e : m.st = 2
  · by_cases hx : id ∈ m.L
    · have hu : m.take id = (5, m) := by unfold RefM.take; rw [if_neg (by simp [e]), if_pos hx]
      rw [hu]; clear hu
      have HAS := Lib.hid (has_calls h id hr true (decide_eq_true hx))
      have h' := h
      obtain ⟨v, hb, hrow, _⟩ := h
      have c1 := hb.cell 1
      simp at c1
      have e1 : (m.st != 2) = false := by simp [e]
      clear e hx hrow hb
      go_enter Try.func21, Try.ntmps21
      go_wp2_with fail
      refine HAS.out.mono ?_
      rintro e w1 ⟨rfl, rfl⟩
      clear HAS
      go_wp2_with fail
      go_ret
      exact ⟨rfl, h', Chg.refl _ _⟩
    · by_cases hc : m.conc ≤ m.L.length
      · have hu : m.take id = (8, m) := by unfold RefM.take; rw [if_neg (by simp [e]), if_neg hx, if_pos hc]
        rw [hu]; clear hu
        have HAS := Lib.hid (has_calls h id hr false (decide_eq_false hx))
        have h' := h
        obtain ⟨v, hb, hrow, _⟩ := h
        have c0 := hb.cell 0
        have c1 := hb.cell 1
        have c2 := hb.cell 2
        simp at c0 c1 c2
        have e1 : (m.st != 2) = false := by simp [e]
        obtain ⟨A, cp, rfl, hsh⟩ := hrow.shape
        clear e hx hrow hb hsh
        go_enter Try.func21, Try.ntmps21
        go_wp2_with fail
        refine HAS.out.mono ?_
        rintro e w1 ⟨rfl, rfl⟩
        clear HAS
        go_wp2_with fail
        go_quiet (fail)
        go_wp2_with fail
        go_ret
        exact ⟨rfl, h'.chg ((Chg.refl (fun _ => False) _).drewN _) (fun _ _ h => h), (Chg.refl _ _).drewN _⟩
      · have hu : m.take id = (0, { m with L := insI id m.L }) := by unfold RefM.take; rw [if_neg (by simp [e]), if_neg hx, if_neg hc]
        rw [hu]
        exact rtake_new h id hr e hx (by omega)
  · have hu : m.take id = (9, m) := by unfold RefM.take; rw [if_pos e]
    rw [hu]; clear hu
    have h' := h
    obtain ⟨v, hb, hrow, _⟩ := h
    have c1 := hb.cell 1
    simp at c1
    have e1 : (m.st != 2) = true := by simp [e]
    clear e hrow hb
    go_enter Try.func21, Try.ntmps21
    go_wp2_with fail
    go_ret
    exact ⟨rfl, h', Chg.refl _ _⟩

end Go.Proofs.Ytefcchnmgnlanaa
