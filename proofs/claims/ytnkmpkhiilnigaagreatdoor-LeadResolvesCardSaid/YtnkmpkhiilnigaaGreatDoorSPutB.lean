/- The document's Put, Shares: what they tell. (Printed by genx.py from refsh.src.) -/
import Derived.Test.YtnkmpkhiilnigaaGreatDoorGInsS
import Derived.Test.YtnkmpkhiilnigaaGreatDoorSPlainB
import Derived.Sort.Walk0
set_option linter.unusedSimpArgs false
set_option linter.unusedVariables false
namespace Go.Proofs.YtnkmpkhiilnigaaGreatDoor.PB
open Go.RowKit Go.Shelf Go.Lib Go.Sort Go.Proofs.YtnkmpkhiilnigaaGreatDoorW.PrintWords Go.Proofs.YtnkmpkhiilnigaaGreatDoorW.PrintLast

/-- A text into others, by names; not twice. -/
def insS (s : List UInt8) (l : List (List UInt8)) : List (List UInt8) := l.takeWhile (fun x => Op.bytesLess x s) ++ (match l.dropWhile (fun x => Op.bytesLess x s) with | [] => [s] | x :: t => if x = s then x :: t else s :: x :: t)

theorem enc_bs (r : ByteArray) : encStr r.toList = .string r := by
  unfold encStr
  rw [ByteArray.toList_eq]

theorem whileS {p : List UInt8 → Bool} {l : List (List UInt8)} {i : Nat} (h1 : ∀ y ∈ l.take i, p y = true) (h2 : ∀ _ : i < l.length, p l[i] = false) : l.takeWhile p = l.take i ∧ l.dropWhile p = l.drop i := by
  have e : l = l.take i ++ l.drop i := (List.take_append_drop i l).symm
  have hd : (l.drop i).takeWhile p = [] ∧ (l.drop i).dropWhile p = l.drop i := by
    by_cases h : i < l.length
    · have hp := h2 h
      rw [List.drop_eq_getElem_cons h, List.takeWhile_cons, List.dropWhile_cons, hp]
      simp
    · rw [List.drop_of_length_le (by omega)]; simp
  constructor
  · conv => lhs; rw [e]
    rw [List.takeWhile_append_of_pos h1, hd.1, List.append_nil]
  · conv => lhs; rw [e]
    rw [List.dropWhile_append_of_pos h1, hd.2]

theorem insS_there {l : List (List UInt8)} {s : List UInt8} {i : Nat} (hi : i < l.length) (h1 : ∀ y ∈ l.take i, Op.bytesLess y s = true) (h2 : Op.bytesLess l[i] s = false) (h3 : l[i] = s) : insS s l = l := by
  obtain ⟨e1, e2⟩ := whileS (p := fun x => Op.bytesLess x s) h1 (fun _ => h2)
  unfold insS
  rw [e1, e2, List.drop_eq_getElem_cons hi]
  simp only [h3, if_true]
  conv => rhs; rw [← List.take_append_drop i l, List.drop_eq_getElem_cons hi, h3]
theorem insS_new {l : List (List UInt8)} {s : List UInt8} {i : Nat} (h1 : ∀ y ∈ l.take i, Op.bytesLess y s = true) (h2 : ∀ h : i < l.length, Op.bytesLess l[i] s = false ∧ l[i] ≠ s) : [] ++ l.take i ++ [s] ++ l.drop i = insS s l := by
  obtain ⟨e1, e2⟩ := whileS (p := fun x => Op.bytesLess x s) h1 (fun h => (h2 h).1)
  unfold insS
  rw [e1, e2, List.nil_append]
  by_cases h : i < l.length
  · rw [List.drop_eq_getElem_cons h]
    simp only [if_neg (h2 h).2]
    simp
  · rw [List.drop_of_length_le (by omega)]
    simp

theorem take_stepS {l : List (List UInt8)} {i : Nat} (h : i < l.length) : l.take (i + 1) = l.take i ++ [l[i]] := List.take_succ_eq_append_getElem h

theorem row_of_owns {w : World} {B n : Nat} {v : Value} {xs ys : List (List UInt8)} (h : w.ownsRow B 9 1 v n (xs.map encStr)) (e : xs = ys) (hn : xs.length = n) : RowG elS w B v ys := by
  subst e
  subst hn
  show w.ownsRow B 9 1 v xs.length (xs.flatMap fun x => [encStr x])
  have : ∀ zs : List (List UInt8), zs.flatMap (fun x => [encStr x]) = zs.map encStr := fun zs => by
    induction zs with
    | nil => rfl
    | cons z t ih => rw [List.flatMap_cons, ih]; rfl
  rw [this]
  exact h

theorem owns_ge {w : World} {B n s k : Nat} {t : TypeId} {v : Value} {xs : List Value} (h : w.ownsRow B t s v n xs) (e : v.ownBlock = some k) : B ≤ k := by
  rcases h.2 with ⟨rfl, _⟩ | ⟨g, cap, cur, rfl, hb, _⟩
  · cases e
  · obtain rfl : g = k := by simpa [Value.ownBlock] using e
    exact hb
set_option maxRecDepth 100000 in
set_option maxHeartbeats 4000000 in
theorem put2_calls (B : Nat) (v : Value) (l : List (List UInt8)) (r : ByteArray) (w : World) (hrow : RowG elS w B v l) (hB : B ≤ w.heap.size) (hl : l.length ≤ 1000) :
    Calls Tryz.prog 30 #[v, .string r] w fun e w' => ∃ v', e = .returned v' ∧ RowG elS w' B v' (insS r.toList l) ∧ (v' = v ∨ ∀ k, v'.ownBlock = some k → w.heap.size ≤ k) ∧ Below w.heap.size w w' := by
  obtain ⟨sx, hs⟩ : ∃ sx, sx = r.toList := ⟨_, rfl⟩
  have HS := Lib.hid hs
  have HE := Lib.hid (show encStr sx = .string r from by rw [hs]; exact enc_bs r)
  rw [← hs]
  clear hs
  have HR := Lib.hid hrow
  have hown : w.ownsRow B elS.e elS.size v l.length (l.flatMap elS.enc) := hrow
  clear hrow
  rcases hown.2 with ⟨rfl, h0⟩ | ⟨g, cp, cur, rfl, hb, hh, hcp, hcm, h5, h6⟩
  · have hl0 : l = [] := List.eq_nil_of_length_eq_zero h0
    subst hl0
    clear h0 hown hl
    have HI := Lib.hid (insS_new (l := []) (s := sx) (i := 0) (by simp) (fun h => absurd h (by simp)))
    go_enter Tryz.func30, Tryz.ntmps30
    go_wp2_with fail
    go_loop [5] (fun v => v = .int .i64 0) (fun _ => 0)
    case atStart => rfl
    case round =>
      obtain rfl := hrel
      go_wp2_with fail
      obtain ⟨B1, hB1⟩ : ∃ B1, w.heap.size = B1 := ⟨_, rfl⟩
      have hBB : B ≤ B1 := hB1 ▸ hB
      have hs1 : SrcS w none [] := SrcS.nil _ _
      have hold1 : ∀ a', (none : Option Addr) = some a' → a'.block < B1 := fun a' e => by cases e
      have hs2 := hs1
      have hold2 := hold1
      refine start_ (n := 13) (S := fun w' => True) (ds := []) #[false, false, false, false, false, false, false, false, false, false, false, false, false] (by kernel_rfl) rfl rfl trivial (fun hHeld => ?_)
      refine pure_ (i := 1) (N := some 34) (v := ?_) (a' := ?_) #[false, true, false, false, false, false, false, false, false, false, false, false, false] rfl rfl (by kernel_rfl) (fun _ _ _ h => h) (Or.inl ⟨by rfl, ?_⟩) ?_ ?_
      rotate_left
      · intro w'
        go_simp
        with_reducible rfl
      rotate_left
      · simp only [Act.put, List.setIfInBounds_toArray, List.set_cons_zero, List.set_cons_succ]
        rfl
      refine pure_ (i := 2) (N := some 35) (v := ?_) (a' := ?_) #[false, true, true, false, false, false, false, false, false, false, false, false, false] rfl rfl (by kernel_rfl) (fun _ _ _ h => h) (Or.inl ⟨by rfl, ?_⟩) ?_ ?_
      rotate_left
      · intro w'
        go_simp
        with_reducible rfl
      rotate_left
      · simp only [Act.put, List.setIfInBounds_toArray, List.set_cons_zero, List.set_cons_succ]
        rfl
      refine pure_ (i := 3) (N := some 36) (v := ?_) (a' := ?_) #[false, true, true, true, false, false, false, false, false, false, false, false, false] rfl rfl (by kernel_rfl) (fun _ _ _ h => h) (Or.inl ⟨by rfl, ?_⟩) ?_ ?_
      rotate_left
      · intro w'
        go_simp
        with_reducible rfl
      rotate_left
      · simp only [Act.put, List.setIfInBounds_toArray, List.set_cons_zero, List.set_cons_succ]
        rfl
      refine pure_ (i := 5) (N := some 38) (v := ?_) (a' := ?_) #[false, true, true, true, false, true, false, false, false, false, false, false, false] rfl rfl (by kernel_rfl) (fun _ _ _ h => h) (Or.inl ⟨by rfl, ?_⟩) ?_ ?_
      rotate_left
      · intro w'
        go_simp
        with_reducible rfl
      rotate_left
      · simp only [Act.put, List.setIfInBounds_toArray, List.set_cons_zero, List.set_cons_succ]
        rfl
      refine pure_ (i := 8) (N := some 41) (v := ?_) (a' := ?_) #[false, true, true, true, false, true, false, false, true, false, false, false, false] rfl rfl (by kernel_rfl) (fun _ _ _ h => h) (Or.inl ⟨by rfl, ?_⟩) ?_ ?_
      rotate_left
      · intro w'
        go_simp
        with_reducible rfl
      rotate_left
      · simp only [Act.put, List.setIfInBounds_toArray, List.set_cons_zero, List.set_cons_succ]
        rfl
      refine pure_ (i := 9) (N := some 42) (v := ?_) (a' := ?_) #[false, true, true, true, false, true, false, false, true, true, false, false, false] rfl rfl (by kernel_rfl) (fun _ _ _ h => h) (Or.inl ⟨by rfl, ?_⟩) ?_ ?_
      rotate_left
      · intro w'
        go_simp
        with_reducible rfl
      rotate_left
      · simp only [Act.put, List.setIfInBounds_toArray, List.set_cons_zero, List.set_cons_succ]
        rfl
      refine pure_ (i := 10) (N := some 43) (v := ?_) (a' := ?_) #[false, true, true, true, false, true, false, false, true, true, true, false, false] rfl rfl (by kernel_rfl) (fun _ _ _ h => h) (Or.inl ⟨by rfl, ?_⟩) ?_ ?_
      rotate_left
      · intro w'
        go_simp
        with_reducible rfl
      rotate_left
      · simp only [Act.put, List.setIfInBounds_toArray, List.set_cons_zero, List.set_cons_succ]
        rfl
      refine join_ (σ := Nat × Nat × Value) 3 #[true, true, true, true, true, true, true, false, true, true, true, false, false] (fun s => [(33, .slice (some ⟨s.1, 0, none⟩) 0 0), (39, .slice (some ⟨s.2.1, 0, none⟩) 1 1), (37, s.2.2)]) (fun s w' => w'.ownsRow B1 9 1 s.2.2 (0 + 0) (([] ++ []).map encStr) ∧ w'.heap[s.2.1]? = some (.cells #[encStr sx] 9 (0, 0)) ∧ Below B1 w w' ∧ B1 ≤ w'.heap.size) ?_ ?_
      rotate_left
      · intro hCont
        refine two_ (i := 0) (j := 6) (Ni := some 33) (Nj := some 39) #[true, true, true, true, false, true, false, false, true, true, true, false, false] #[false, true, true, true, false, true, true, false, true, true, true, false, false] rfl rfl rfl rfl (by kernel_rfl) (by decide) (by decide) (fun K hK => ?_) (fun K hK => ?_)
        · skip
          obtain ⟨N1, hN1⟩ : ∃ N, w.drew.heap.size = N := ⟨_, rfl⟩
          have hNB1 : B1 ≤ N1 := by have := (Below.refl B1 w).drew.size; omega
          refine step_build0S w.drew rfl rfl N1 hN1 ?_
          intro w1 k1 l1 e1
          have b1 : Below B1 w w1 := (Below.refl B1 w).drew.trans (e1.mono hNB1)
          have s1 := b1.size
          refine hK.out _ _ trivial (fun hHeld => ?_)
          clear hK K
          refine norm_ (a' := ?_) ?_ ?_
          rotate_left
          · show Act.put _ (some 33) _ = _
            simp only [Act.put, List.setIfInBounds_toArray, List.set_cons_zero, List.set_cons_succ]
            rfl
          refine two_ (i := 4) (j := 6) (Ni := some 37) (Nj := some 39) #[true, true, true, true, true, true, false, false, true, true, true, false, false] #[true, true, true, true, false, true, true, false, true, true, true, false, false] rfl rfl rfl rfl (by kernel_rfl) (by decide) (by decide) (fun K hK => ?_) (fun K hK => ?_)
          · skip
            refine step_appS w1 rfl (.tmp 33) (.tmp 36) rfl B1 (.slice (some ⟨N1, 0, none⟩) 0 0) 0 [] (by rfl) (owns_empty hNB1 k1) none 0 0 [] (by rfl) (by simp) ((hs1).below b1 (hold1)) (by omega) (by omega) (by omega) ?_
            intro v1 w2 o1 g1 e2 z1
            have b2 : Below B1 w w2 := b1.trans e2
            have s2 := b2.size
            refine hK.out _ _ trivial (fun hHeld => ?_)
            clear hK K
            refine norm_ (a' := ?_) ?_ ?_
            rotate_left
            · show Act.put _ (some 37) _ = _
              simp only [Act.put, List.setIfInBounds_toArray, List.set_cons_zero, List.set_cons_succ]
              rfl
            refine one_ (i := 6) (N := some 39) #[true, true, true, true, true, true, true, false, true, true, true, false, false] rfl rfl (by kernel_rfl) (by decide) (fun K hK => ?_)
            obtain ⟨N2, hN2⟩ : ∃ N, w2.heap.size = N := ⟨_, rfl⟩
            have hNB2 : B1 ≤ N2 := by have := b2.size; omega
            refine step_build1S w2 rfl 38 rfl sx HE.out.symm N2 hN2 ?_
            intro w3 k2 l2 e3
            have b3 : Below B1 w w3 := b2.trans (e3.mono hNB2)
            have o1 := owns_belowS o1 e3 (by omega)
            have s3 := b3.size
            refine hK.out _ _ trivial (fun hHeld => ?_)
            clear hK K
            refine norm_ (a' := ?_) ?_ ?_
            rotate_left
            · show Act.put _ (some 39) _ = _
              simp only [Act.put, List.setIfInBounds_toArray, List.set_cons_zero, List.set_cons_succ]
              rfl
            exact norm_ (by simp only [putAll, Act.put, List.setIfInBounds_toArray, List.set_cons_zero, List.set_cons_succ]) (hCont (N1, N2, v1) _ ⟨o1, k2, b3, by omega⟩)
          · skip
            obtain ⟨N2, hN2⟩ : ∃ N, w1.heap.size = N := ⟨_, rfl⟩
            have hNB2 : B1 ≤ N2 := by have := b1.size; omega
            refine step_build1S w1 rfl 38 rfl sx HE.out.symm N2 hN2 ?_
            intro w2 k2 l2 e2
            have b2 : Below B1 w w2 := b1.trans (e2.mono hNB2)
            have k1 := (e2.block N1 (by omega)).trans k1
            have s2 := b2.size
            refine hK.out _ _ trivial (fun hHeld => ?_)
            clear hK K
            refine norm_ (a' := ?_) ?_ ?_
            rotate_left
            · show Act.put _ (some 39) _ = _
              simp only [Act.put, List.setIfInBounds_toArray, List.set_cons_zero, List.set_cons_succ]
              rfl
            refine one_ (i := 4) (N := some 37) #[true, true, true, true, true, true, true, false, true, true, true, false, false] rfl rfl (by kernel_rfl) (by decide) (fun K hK => ?_)
            refine step_appS w2 rfl (.tmp 33) (.tmp 36) rfl B1 (.slice (some ⟨N1, 0, none⟩) 0 0) 0 [] (by rfl) (owns_empty hNB1 k1) none 0 0 [] (by rfl) (by simp) ((hs1).below b2 (hold1)) (by omega) (by omega) (by omega) ?_
            intro v1 w3 o1 g1 e3 z1
            have b3 : Below B1 w w3 := b2.trans e3
            have k2 := (g1.block N2 (by omega) (by simp [Value.ownBlock]; omega)).trans k2
            have s3 := b3.size
            refine hK.out _ _ trivial (fun hHeld => ?_)
            clear hK K
            refine norm_ (a' := ?_) ?_ ?_
            rotate_left
            · show Act.put _ (some 37) _ = _
              simp only [Act.put, List.setIfInBounds_toArray, List.set_cons_zero, List.set_cons_succ]
              rfl
            exact norm_ (by simp only [putAll, Act.put, List.setIfInBounds_toArray, List.set_cons_zero, List.set_cons_succ]) (hCont (N1, N2, v1) _ ⟨o1, k2, b3, by omega⟩)
        · skip
          obtain ⟨N2, hN2⟩ : ∃ N, w.drew.heap.size = N := ⟨_, rfl⟩
          have hNB2 : B1 ≤ N2 := by have := (Below.refl B1 w).drew.size; omega
          refine step_build1S w.drew rfl 38 rfl sx HE.out.symm N2 hN2 ?_
          intro w1 k2 l2 e1
          have b1 : Below B1 w w1 := (Below.refl B1 w).drew.trans (e1.mono hNB2)
          have s1 := b1.size
          refine hK.out _ _ trivial (fun hHeld => ?_)
          clear hK K
          refine norm_ (a' := ?_) ?_ ?_
          rotate_left
          · show Act.put _ (some 39) _ = _
            simp only [Act.put, List.setIfInBounds_toArray, List.set_cons_zero, List.set_cons_succ]
            rfl
          refine one_ (i := 0) (N := some 33) #[true, true, true, true, false, true, true, false, true, true, true, false, false] rfl rfl (by kernel_rfl) (by decide) (fun K hK => ?_)
          obtain ⟨N1, hN1⟩ : ∃ N, w1.heap.size = N := ⟨_, rfl⟩
          have hNB1 : B1 ≤ N1 := by have := b1.size; omega
          refine step_build0S w1 rfl rfl N1 hN1 ?_
          intro w2 k1 l1 e2
          have b2 : Below B1 w w2 := b1.trans (e2.mono hNB1)
          have k2 := (e2.block N2 (by omega)).trans k2
          have s2 := b2.size
          refine hK.out _ _ trivial (fun hHeld => ?_)
          clear hK K
          refine norm_ (a' := ?_) ?_ ?_
          rotate_left
          · show Act.put _ (some 33) _ = _
            simp only [Act.put, List.setIfInBounds_toArray, List.set_cons_zero, List.set_cons_succ]
            rfl
          refine one_ (i := 4) (N := some 37) #[true, true, true, true, true, true, true, false, true, true, true, false, false] rfl rfl (by kernel_rfl) (by decide) (fun K hK => ?_)
          refine step_appS w2 rfl (.tmp 33) (.tmp 36) rfl B1 (.slice (some ⟨N1, 0, none⟩) 0 0) 0 [] (by rfl) (owns_empty hNB1 k1) none 0 0 [] (by rfl) (by simp) ((hs1).below b2 (hold1)) (by omega) (by omega) (by omega) ?_
          intro v1 w3 o1 g1 e3 z1
          have b3 : Below B1 w w3 := b2.trans e3
          have k2 := (g1.block N2 (by omega) (by simp [Value.ownBlock]; omega)).trans k2
          have s3 := b3.size
          refine hK.out _ _ trivial (fun hHeld => ?_)
          clear hK K
          refine norm_ (a' := ?_) ?_ ?_
          rotate_left
          · show Act.put _ (some 37) _ = _
            simp only [Act.put, List.setIfInBounds_toArray, List.set_cons_zero, List.set_cons_succ]
            rfl
          exact norm_ (by simp only [putAll, Act.put, List.setIfInBounds_toArray, List.set_cons_zero, List.set_cons_succ]) (hCont (N1, N2, v1) _ ⟨o1, k2, b3, by omega⟩)
      rintro ⟨N1, N2, v1⟩ w4 ⟨o1, k2, b4, s4⟩
      have hHeld : True := trivial
      refine norm_ (a' := ?_) ?_ ?_
      rotate_left
      · simp only [putAll, Act.put, List.setIfInBounds_toArray, List.set_cons_zero, List.set_cons_succ]
        rfl
      refine one_ (i := 7) (N := some 40) #[true, true, true, true, true, true, true, true, true, true, true, false, false] rfl rfl (by kernel_rfl) (by decide) (fun K hK => ?_)
      refine step_appS w4 rfl (.tmp 37) (.tmp 39) rfl B1 v1 (0 + 0) ([] ++ []) (by rfl) o1 (some ⟨N2, 0, none⟩) 1 1 [sx] (by rfl) rfl (SrcS.one k2) (by omega) (by omega) (by omega) ?_
      intro v2 w5 o2 g2 e5 z2
      have b5 : Below B1 w w5 := b4.trans e5
      have s5 := b5.size
      refine hK.out _ _ trivial (fun hHeld => ?_)
      clear hK K
      refine norm_ (a' := ?_) ?_ ?_
      rotate_left
      · show Act.put _ (some 40) _ = _
        simp only [Act.put, List.setIfInBounds_toArray, List.set_cons_zero, List.set_cons_succ]
        rfl
      refine one_ (i := 11) (N := some 44) #[true, true, true, true, true, true, true, true, true, true, true, true, false] rfl rfl (by kernel_rfl) (by decide) (fun K hK => ?_)
      refine step_appS w5 rfl (.tmp 40) (.tmp 43) rfl B1 v2 (0 + 0 + 1) ([] ++ [] ++ [sx]) (by rfl) o2 none 0 0 [] (by rfl) (by simp) ((hs2).below b5 (hold2)) (by omega) (by omega) (by omega) ?_
      intro v3 w6 o3 g3 e6 z3
      have b6 : Below B1 w w6 := b5.trans e6
      have s6 := b6.size
      refine hK.out _ _ trivial (fun hHeld => ?_)
      clear hK K
      refine norm_ (a' := ?_) ?_ ?_
      rotate_left
      · show Act.put _ (some 44) _ = _
        simp only [Act.put, List.setIfInBounds_toArray, List.set_cons_zero, List.set_cons_succ]
        rfl
      refine pure_ (i := 12) (N := some 4) (v := ?_) (a' := ?_) #[true, true, true, true, true, true, true, true, true, true, true, true, true] rfl rfl (by kernel_rfl) (fun _ _ _ h => h) (Or.inl ⟨by rfl, ?_⟩) ?_ ?_
      rotate_left
      · intro w'
        go_simp
        with_reducible rfl
      rotate_left
      · simp only [Act.put, List.setIfInBounds_toArray, List.set_cons_zero, List.set_cons_succ]
        rfl
      refine done_ (by kernel_rfl) ?_
      go_wp2_with fail
      go_ret
      refine ⟨_, rfl, ?_, .inr (fun k e => owns_ge o3 e), hB1 ▸ b6⟩
      exact (row_of_owns o3 (by have := HI.out; simpa using this) (by simp)).lower hBB
  · have hgl : g < w.heap.size := (Array.getElem?_eq_some_iff.1 hh).1
    have hcs : ∀ j, j < l.length → w.cell? ⟨g, j, none⟩ = some (encStr (l.getD j [])) := fun j hj => by
      obtain ⟨g', c, he, h1, h2, h3, h4, h5⟩ := HR.out.cells (by omega)
      cases he
      have := h5 j hj 0 (by show 0 < 1; omega)
      rw [show j * elS.size + 0 = j from by show j * 1 + 0 = j; omega] at this
      rw [this]
      simp [List.getD_eq_getElem?_getD, hj]
      rfl
    have HCS := Lib.hid hcs
    have hcm' : (cp : Int) ≤ 9223372036854775807 := by unfold maxLen at hcm; omega
    clear hcs hh h5 h6 hown hb hcm
    go_enter Tryz.func30, Tryz.ntmps30
    go_wp2_with fail
    go_loop [5] (fun v => ∃ i : Nat, i ≤ l.length ∧ v = .int .i64 i ∧ Hid (∀ y ∈ l.take i, Op.bytesLess y sx = true)) (fun v => l.length - (vI v).toNat)
    case atStart => exact ⟨0, by omega, rfl, Lib.hid (by simp)⟩
    case round =>
      obtain ⟨i, hi, rfl, hf⟩ := hrel
      by_cases hlt : i < l.length
      · have hce := HCS.out i hlt
        have hlt' : (i : Int) < (l.length : Int) := by omega
        obtain ⟨nm, hnm⟩ : ∃ nm : ByteArray, nm = ⟨(l.getD i []).toArray⟩ := ⟨_, rfl⟩
        have hce' : w.cell? ⟨g, i, none⟩ = some (.string nm) := by rw [hce, hnm]
        have hnl : nm.toList = l[i] := by rw [hnm, ByteArray.toList_eq]; simp [List.getD_eq_getElem?_getD, hlt]
        have HNL := Lib.hid hnl
        clear hce hnm hnl
        by_cases hq : Op.bytesLess nm.toList r.toList = true
        · have hf' := Lib.hid (show ∀ y ∈ l.take (i + 1), Op.bytesLess y sx = true from by
            rw [take_stepS hlt]
            intro y hy
            rcases List.mem_append.1 hy with hy | hy
            · exact hf.out y hy
            · rw [List.mem_singleton.1 hy, ← HNL.out, HS.out]; exact hq)
          go_wp2_with fail
          go_round
          case rel => exact ⟨i + 1, by omega, by go_num, hf'⟩
          case measure => simp [vI]; omega
        · have hq' : Op.bytesLess nm.toList r.toList = false := by simpa using hq
          clear hq
          by_cases he : nm.toList = r.toList
          · have he' : (nm.toList == r.toList) = true := by simpa using he
            have hI := Lib.hid (insS_there hlt hf.out (by rw [← HNL.out, HS.out]; exact hq') (by rw [← HNL.out, HS.out]; exact he))
            clear he
            go_wp2_with fail
            go_ret
            exact ⟨_, rfl, by rw [hI.out]; exact HR.out, .inl rfl, Below.refl _ _⟩
          · have he' : (nm.toList == r.toList) = false := by simpa using he
            have HI := Lib.hid (insS_new hf.out (fun _ => ⟨by rw [← HNL.out, HS.out]; exact hq', by rw [← HNL.out, HS.out]; exact he⟩))
            clear he
            go_wp2_with fail
            clear hq' he' hce'
            obtain ⟨B1, hB1⟩ : ∃ B1, w.heap.size = B1 := ⟨_, rfl⟩
            have hgB : g < B1 := hB1 ▸ hgl
            have hBB : B ≤ B1 := hB1 ▸ hB
            have hs1 := SrcS.firsts HCS.out i
            have hold1 : ∀ a', some (⟨g, 0, none⟩ : Addr) = some a' → a'.block < B1 := fun a' e => by cases e; exact hgB
            have hs2 := SrcS.rest HCS.out i cp hcp hi
            have hold2 := old_blockS g i cp B1 hgB
            have hi0 : (0 : Int) ≤ (i : Int) := Int.natCast_nonneg _
            have hi1 : (i : Int) ≤ (l.length : Int) := by omega
            have hi2 : (i : Int) ≤ (cp : Int) := by omega
            skip
            refine start_ (n := 13) (S := fun w' => True) (ds := []) #[false, false, false, false, false, false, false, false, false, false, false, false, false] (by kernel_rfl) rfl rfl trivial (fun hHeld => ?_)
            refine pure_ (i := 1) (N := some 34) (v := ?_) (a' := ?_) #[false, true, false, false, false, false, false, false, false, false, false, false, false] rfl rfl (by kernel_rfl) (fun _ _ _ h => h) (Or.inl ⟨by rfl, ?_⟩) ?_ ?_
            rotate_left
            · intro w'
              go_simp
              with_reducible rfl
            rotate_left
            · simp only [Act.put, List.setIfInBounds_toArray, List.set_cons_zero, List.set_cons_succ]
              rfl
            refine pure_ (i := 2) (N := some 35) (v := ?_) (a' := ?_) #[false, true, true, false, false, false, false, false, false, false, false, false, false] rfl rfl (by kernel_rfl) (fun _ _ _ h => h) (Or.inl ⟨by rfl, ?_⟩) ?_ ?_
            rotate_left
            · intro w'
              go_simp
              with_reducible rfl
            rotate_left
            · simp only [Act.put, List.setIfInBounds_toArray, List.set_cons_zero, List.set_cons_succ]
              rfl
            refine pure_ (i := 3) (N := some 36) (v := ?_) (a' := ?_) #[false, true, true, true, false, false, false, false, false, false, false, false, false] rfl rfl (by kernel_rfl) (fun _ _ _ h => h) (Or.inl ⟨by rfl, ?_⟩) ?_ ?_
            rotate_left
            · intro w'
              go_simp
              with_reducible rfl
            rotate_left
            · simp only [Act.put, List.setIfInBounds_toArray, List.set_cons_zero, List.set_cons_succ]
              rfl
            refine pure_ (i := 5) (N := some 38) (v := ?_) (a' := ?_) #[false, true, true, true, false, true, false, false, false, false, false, false, false] rfl rfl (by kernel_rfl) (fun _ _ _ h => h) (Or.inl ⟨by rfl, ?_⟩) ?_ ?_
            rotate_left
            · intro w'
              go_simp
              with_reducible rfl
            rotate_left
            · simp only [Act.put, List.setIfInBounds_toArray, List.set_cons_zero, List.set_cons_succ]
              rfl
            refine pure_ (i := 8) (N := some 41) (v := ?_) (a' := ?_) #[false, true, true, true, false, true, false, false, true, false, false, false, false] rfl rfl (by kernel_rfl) (fun _ _ _ h => h) (Or.inl ⟨by rfl, ?_⟩) ?_ ?_
            rotate_left
            · intro w'
              go_simp
              with_reducible rfl
            rotate_left
            · simp only [Act.put, List.setIfInBounds_toArray, List.set_cons_zero, List.set_cons_succ]
              rfl
            refine pure_ (i := 9) (N := some 42) (v := ?_) (a' := ?_) #[false, true, true, true, false, true, false, false, true, true, false, false, false] rfl rfl (by kernel_rfl) (fun _ _ _ h => h) (Or.inl ⟨by rfl, ?_⟩) ?_ ?_
            rotate_left
            · intro w'
              go_simp
              with_reducible rfl
            rotate_left
            · simp only [Act.put, List.setIfInBounds_toArray, List.set_cons_zero, List.set_cons_succ]
              rfl
            refine pure_ (i := 10) (N := some 43) (v := ?_) (a' := ?_) #[false, true, true, true, false, true, false, false, true, true, true, false, false] rfl rfl (by kernel_rfl) (fun _ _ _ h => h) (Or.inl ⟨by rfl, ?_⟩) ?_ ?_
            rotate_left
            · intro w'
              go_simp
              with_reducible rfl
            rotate_left
            · simp only [Act.put, List.setIfInBounds_toArray, List.set_cons_zero, List.set_cons_succ]
              rfl
            refine join_ (σ := Nat × Nat × Value) 3 #[true, true, true, true, true, true, true, false, true, true, true, false, false] (fun s => [(33, .slice (some ⟨s.1, 0, none⟩) 0 0), (39, .slice (some ⟨s.2.1, 0, none⟩) 1 1), (37, s.2.2)]) (fun s w' => w'.ownsRow B1 9 1 s.2.2 (0 + i) (([] ++ (l.take i)).map encStr) ∧ w'.heap[s.2.1]? = some (.cells #[encStr sx] 9 (0, 0)) ∧ Below B1 w w' ∧ B1 ≤ w'.heap.size) ?_ ?_
            rotate_left
            · intro hCont
              refine two_ (i := 0) (j := 6) (Ni := some 33) (Nj := some 39) #[true, true, true, true, false, true, false, false, true, true, true, false, false] #[false, true, true, true, false, true, true, false, true, true, true, false, false] rfl rfl rfl rfl (by kernel_rfl) (by decide) (by decide) (fun K hK => ?_) (fun K hK => ?_)
              · skip
                obtain ⟨N1, hN1⟩ : ∃ N, w.drew.heap.size = N := ⟨_, rfl⟩
                have hNB1 : B1 ≤ N1 := by have := (Below.refl B1 w).drew.size; omega
                refine step_build0S w.drew rfl rfl N1 hN1 ?_
                intro w1 k1 l1 e1
                have b1 : Below B1 w w1 := (Below.refl B1 w).drew.trans (e1.mono hNB1)
                have s1 := b1.size
                refine hK.out _ _ trivial (fun hHeld => ?_)
                clear hK K
                refine norm_ (a' := ?_) ?_ ?_
                rotate_left
                · show Act.put _ (some 33) _ = _
                  simp only [Act.put, List.setIfInBounds_toArray, List.set_cons_zero, List.set_cons_succ]
                  rfl
                refine two_ (i := 4) (j := 6) (Ni := some 37) (Nj := some 39) #[true, true, true, true, true, true, false, false, true, true, true, false, false] #[true, true, true, true, false, true, true, false, true, true, true, false, false] rfl rfl rfl rfl (by kernel_rfl) (by decide) (by decide) (fun K hK => ?_) (fun K hK => ?_)
                · skip
                  refine step_appS w1 rfl (.tmp 33) (.tmp 36) rfl B1 (.slice (some ⟨N1, 0, none⟩) 0 0) 0 [] (by rfl) (owns_empty hNB1 k1) (some ⟨g, 0, none⟩) i cp (l.take i) (by rfl) (by first | (simp; done) | (simp; omega)) ((hs1).below b1 (hold1)) (by omega) (by omega) (by omega) ?_
                  intro v1 w2 o1 g1 e2 z1
                  have b2 : Below B1 w w2 := b1.trans e2
                  have s2 := b2.size
                  refine hK.out _ _ trivial (fun hHeld => ?_)
                  clear hK K
                  refine norm_ (a' := ?_) ?_ ?_
                  rotate_left
                  · show Act.put _ (some 37) _ = _
                    simp only [Act.put, List.setIfInBounds_toArray, List.set_cons_zero, List.set_cons_succ]
                    rfl
                  refine one_ (i := 6) (N := some 39) #[true, true, true, true, true, true, true, false, true, true, true, false, false] rfl rfl (by kernel_rfl) (by decide) (fun K hK => ?_)
                  obtain ⟨N2, hN2⟩ : ∃ N, w2.heap.size = N := ⟨_, rfl⟩
                  have hNB2 : B1 ≤ N2 := by have := b2.size; omega
                  refine step_build1S w2 rfl 38 rfl sx HE.out.symm N2 hN2 ?_
                  intro w3 k2 l2 e3
                  have b3 : Below B1 w w3 := b2.trans (e3.mono hNB2)
                  have o1 := owns_belowS o1 e3 (by omega)
                  have s3 := b3.size
                  refine hK.out _ _ trivial (fun hHeld => ?_)
                  clear hK K
                  refine norm_ (a' := ?_) ?_ ?_
                  rotate_left
                  · show Act.put _ (some 39) _ = _
                    simp only [Act.put, List.setIfInBounds_toArray, List.set_cons_zero, List.set_cons_succ]
                    rfl
                  exact norm_ (by simp only [putAll, Act.put, List.setIfInBounds_toArray, List.set_cons_zero, List.set_cons_succ]) (hCont (N1, N2, v1) _ ⟨o1, k2, b3, by omega⟩)
                · skip
                  obtain ⟨N2, hN2⟩ : ∃ N, w1.heap.size = N := ⟨_, rfl⟩
                  have hNB2 : B1 ≤ N2 := by have := b1.size; omega
                  refine step_build1S w1 rfl 38 rfl sx HE.out.symm N2 hN2 ?_
                  intro w2 k2 l2 e2
                  have b2 : Below B1 w w2 := b1.trans (e2.mono hNB2)
                  have k1 := (e2.block N1 (by omega)).trans k1
                  have s2 := b2.size
                  refine hK.out _ _ trivial (fun hHeld => ?_)
                  clear hK K
                  refine norm_ (a' := ?_) ?_ ?_
                  rotate_left
                  · show Act.put _ (some 39) _ = _
                    simp only [Act.put, List.setIfInBounds_toArray, List.set_cons_zero, List.set_cons_succ]
                    rfl
                  refine one_ (i := 4) (N := some 37) #[true, true, true, true, true, true, true, false, true, true, true, false, false] rfl rfl (by kernel_rfl) (by decide) (fun K hK => ?_)
                  refine step_appS w2 rfl (.tmp 33) (.tmp 36) rfl B1 (.slice (some ⟨N1, 0, none⟩) 0 0) 0 [] (by rfl) (owns_empty hNB1 k1) (some ⟨g, 0, none⟩) i cp (l.take i) (by rfl) (by first | (simp; done) | (simp; omega)) ((hs1).below b2 (hold1)) (by omega) (by omega) (by omega) ?_
                  intro v1 w3 o1 g1 e3 z1
                  have b3 : Below B1 w w3 := b2.trans e3
                  have k2 := (g1.block N2 (by omega) (by simp [Value.ownBlock]; omega)).trans k2
                  have s3 := b3.size
                  refine hK.out _ _ trivial (fun hHeld => ?_)
                  clear hK K
                  refine norm_ (a' := ?_) ?_ ?_
                  rotate_left
                  · show Act.put _ (some 37) _ = _
                    simp only [Act.put, List.setIfInBounds_toArray, List.set_cons_zero, List.set_cons_succ]
                    rfl
                  exact norm_ (by simp only [putAll, Act.put, List.setIfInBounds_toArray, List.set_cons_zero, List.set_cons_succ]) (hCont (N1, N2, v1) _ ⟨o1, k2, b3, by omega⟩)
              · skip
                obtain ⟨N2, hN2⟩ : ∃ N, w.drew.heap.size = N := ⟨_, rfl⟩
                have hNB2 : B1 ≤ N2 := by have := (Below.refl B1 w).drew.size; omega
                refine step_build1S w.drew rfl 38 rfl sx HE.out.symm N2 hN2 ?_
                intro w1 k2 l2 e1
                have b1 : Below B1 w w1 := (Below.refl B1 w).drew.trans (e1.mono hNB2)
                have s1 := b1.size
                refine hK.out _ _ trivial (fun hHeld => ?_)
                clear hK K
                refine norm_ (a' := ?_) ?_ ?_
                rotate_left
                · show Act.put _ (some 39) _ = _
                  simp only [Act.put, List.setIfInBounds_toArray, List.set_cons_zero, List.set_cons_succ]
                  rfl
                refine one_ (i := 0) (N := some 33) #[true, true, true, true, false, true, true, false, true, true, true, false, false] rfl rfl (by kernel_rfl) (by decide) (fun K hK => ?_)
                obtain ⟨N1, hN1⟩ : ∃ N, w1.heap.size = N := ⟨_, rfl⟩
                have hNB1 : B1 ≤ N1 := by have := b1.size; omega
                refine step_build0S w1 rfl rfl N1 hN1 ?_
                intro w2 k1 l1 e2
                have b2 : Below B1 w w2 := b1.trans (e2.mono hNB1)
                have k2 := (e2.block N2 (by omega)).trans k2
                have s2 := b2.size
                refine hK.out _ _ trivial (fun hHeld => ?_)
                clear hK K
                refine norm_ (a' := ?_) ?_ ?_
                rotate_left
                · show Act.put _ (some 33) _ = _
                  simp only [Act.put, List.setIfInBounds_toArray, List.set_cons_zero, List.set_cons_succ]
                  rfl
                refine one_ (i := 4) (N := some 37) #[true, true, true, true, true, true, true, false, true, true, true, false, false] rfl rfl (by kernel_rfl) (by decide) (fun K hK => ?_)
                refine step_appS w2 rfl (.tmp 33) (.tmp 36) rfl B1 (.slice (some ⟨N1, 0, none⟩) 0 0) 0 [] (by rfl) (owns_empty hNB1 k1) (some ⟨g, 0, none⟩) i cp (l.take i) (by rfl) (by first | (simp; done) | (simp; omega)) ((hs1).below b2 (hold1)) (by omega) (by omega) (by omega) ?_
                intro v1 w3 o1 g1 e3 z1
                have b3 : Below B1 w w3 := b2.trans e3
                have k2 := (g1.block N2 (by omega) (by simp [Value.ownBlock]; omega)).trans k2
                have s3 := b3.size
                refine hK.out _ _ trivial (fun hHeld => ?_)
                clear hK K
                refine norm_ (a' := ?_) ?_ ?_
                rotate_left
                · show Act.put _ (some 37) _ = _
                  simp only [Act.put, List.setIfInBounds_toArray, List.set_cons_zero, List.set_cons_succ]
                  rfl
                exact norm_ (by simp only [putAll, Act.put, List.setIfInBounds_toArray, List.set_cons_zero, List.set_cons_succ]) (hCont (N1, N2, v1) _ ⟨o1, k2, b3, by omega⟩)
            rintro ⟨N1, N2, v1⟩ w4 ⟨o1, k2, b4, s4⟩
            have hHeld : True := trivial
            refine norm_ (a' := ?_) ?_ ?_
            rotate_left
            · simp only [putAll, Act.put, List.setIfInBounds_toArray, List.set_cons_zero, List.set_cons_succ]
              rfl
            refine one_ (i := 7) (N := some 40) #[true, true, true, true, true, true, true, true, true, true, true, false, false] rfl rfl (by kernel_rfl) (by decide) (fun K hK => ?_)
            refine step_appS w4 rfl (.tmp 37) (.tmp 39) rfl B1 v1 (0 + i) ([] ++ (l.take i)) (by rfl) o1 (some ⟨N2, 0, none⟩) 1 1 [sx] (by rfl) rfl (SrcS.one k2) (by omega) (by omega) (by omega) ?_
            intro v2 w5 o2 g2 e5 z2
            have b5 : Below B1 w w5 := b4.trans e5
            have s5 := b5.size
            refine hK.out _ _ trivial (fun hHeld => ?_)
            clear hK K
            refine norm_ (a' := ?_) ?_ ?_
            rotate_left
            · show Act.put _ (some 40) _ = _
              simp only [Act.put, List.setIfInBounds_toArray, List.set_cons_zero, List.set_cons_succ]
              rfl
            refine one_ (i := 11) (N := some 44) #[true, true, true, true, true, true, true, true, true, true, true, true, false] rfl rfl (by kernel_rfl) (by decide) (fun K hK => ?_)
            refine step_appS w5 rfl (.tmp 40) (.tmp 43) rfl B1 v2 (0 + i + 1) ([] ++ (l.take i) ++ [sx]) (by rfl) o2 (if cp = i then some ⟨g, 0, none⟩ else some ⟨g, i, none⟩) (l.length - i) (cp - i) (l.drop i) (by rfl) (by simp) ((hs2).below b5 (hold2)) (by omega) (by omega) (by omega) ?_
            intro v3 w6 o3 g3 e6 z3
            have b6 : Below B1 w w6 := b5.trans e6
            have s6 := b6.size
            refine hK.out _ _ trivial (fun hHeld => ?_)
            clear hK K
            refine norm_ (a' := ?_) ?_ ?_
            rotate_left
            · show Act.put _ (some 44) _ = _
              simp only [Act.put, List.setIfInBounds_toArray, List.set_cons_zero, List.set_cons_succ]
              rfl
            refine pure_ (i := 12) (N := some 4) (v := ?_) (a' := ?_) #[true, true, true, true, true, true, true, true, true, true, true, true, true] rfl rfl (by kernel_rfl) (fun _ _ _ h => h) (Or.inl ⟨by rfl, ?_⟩) ?_ ?_
            rotate_left
            · intro w'
              go_simp
              with_reducible rfl
            rotate_left
            · simp only [Act.put, List.setIfInBounds_toArray, List.set_cons_zero, List.set_cons_succ]
              rfl
            refine done_ (by kernel_rfl) ?_
            generalize (if cp = i then (some ⟨g, 0, none⟩ : Option Addr) else some ⟨g, i, none⟩) = A2'
            go_wp2_with fail
            go_ret
            refine ⟨_, rfl, ?_, .inr (fun k e => owns_ge o3 e), hB1 ▸ b6⟩
            exact (row_of_owns o3 HI.out (by first | (simp; done) | (simp; omega))).lower hBB
      · have HI := Lib.hid (insS_new (l := l) (s := sx) (i := i) hf.out (fun h => absurd h hlt))
        go_wp2_with fail
        obtain ⟨B1, hB1⟩ : ∃ B1, w.heap.size = B1 := ⟨_, rfl⟩
        have hgB : g < B1 := hB1 ▸ hgl
        have hBB : B ≤ B1 := hB1 ▸ hB
        have hs1 := SrcS.firsts HCS.out i
        have hold1 : ∀ a', some (⟨g, 0, none⟩ : Addr) = some a' → a'.block < B1 := fun a' e => by cases e; exact hgB
        have hs2 := SrcS.rest HCS.out i cp hcp hi
        have hold2 := old_blockS g i cp B1 hgB
        have hi0 : (0 : Int) ≤ (i : Int) := Int.natCast_nonneg _
        have hi1 : (i : Int) ≤ (l.length : Int) := by omega
        have hi2 : (i : Int) ≤ (cp : Int) := by omega
        skip
        refine start_ (n := 13) (S := fun w' => True) (ds := []) #[false, false, false, false, false, false, false, false, false, false, false, false, false] (by kernel_rfl) rfl rfl trivial (fun hHeld => ?_)
        refine pure_ (i := 1) (N := some 34) (v := ?_) (a' := ?_) #[false, true, false, false, false, false, false, false, false, false, false, false, false] rfl rfl (by kernel_rfl) (fun _ _ _ h => h) (Or.inl ⟨by rfl, ?_⟩) ?_ ?_
        rotate_left
        · intro w'
          go_simp
          with_reducible rfl
        rotate_left
        · simp only [Act.put, List.setIfInBounds_toArray, List.set_cons_zero, List.set_cons_succ]
          rfl
        refine pure_ (i := 2) (N := some 35) (v := ?_) (a' := ?_) #[false, true, true, false, false, false, false, false, false, false, false, false, false] rfl rfl (by kernel_rfl) (fun _ _ _ h => h) (Or.inl ⟨by rfl, ?_⟩) ?_ ?_
        rotate_left
        · intro w'
          go_simp
          with_reducible rfl
        rotate_left
        · simp only [Act.put, List.setIfInBounds_toArray, List.set_cons_zero, List.set_cons_succ]
          rfl
        refine pure_ (i := 3) (N := some 36) (v := ?_) (a' := ?_) #[false, true, true, true, false, false, false, false, false, false, false, false, false] rfl rfl (by kernel_rfl) (fun _ _ _ h => h) (Or.inl ⟨by rfl, ?_⟩) ?_ ?_
        rotate_left
        · intro w'
          go_simp
          with_reducible rfl
        rotate_left
        · simp only [Act.put, List.setIfInBounds_toArray, List.set_cons_zero, List.set_cons_succ]
          rfl
        refine pure_ (i := 5) (N := some 38) (v := ?_) (a' := ?_) #[false, true, true, true, false, true, false, false, false, false, false, false, false] rfl rfl (by kernel_rfl) (fun _ _ _ h => h) (Or.inl ⟨by rfl, ?_⟩) ?_ ?_
        rotate_left
        · intro w'
          go_simp
          with_reducible rfl
        rotate_left
        · simp only [Act.put, List.setIfInBounds_toArray, List.set_cons_zero, List.set_cons_succ]
          rfl
        refine pure_ (i := 8) (N := some 41) (v := ?_) (a' := ?_) #[false, true, true, true, false, true, false, false, true, false, false, false, false] rfl rfl (by kernel_rfl) (fun _ _ _ h => h) (Or.inl ⟨by rfl, ?_⟩) ?_ ?_
        rotate_left
        · intro w'
          go_simp
          with_reducible rfl
        rotate_left
        · simp only [Act.put, List.setIfInBounds_toArray, List.set_cons_zero, List.set_cons_succ]
          rfl
        refine pure_ (i := 9) (N := some 42) (v := ?_) (a' := ?_) #[false, true, true, true, false, true, false, false, true, true, false, false, false] rfl rfl (by kernel_rfl) (fun _ _ _ h => h) (Or.inl ⟨by rfl, ?_⟩) ?_ ?_
        rotate_left
        · intro w'
          go_simp
          with_reducible rfl
        rotate_left
        · simp only [Act.put, List.setIfInBounds_toArray, List.set_cons_zero, List.set_cons_succ]
          rfl
        refine pure_ (i := 10) (N := some 43) (v := ?_) (a' := ?_) #[false, true, true, true, false, true, false, false, true, true, true, false, false] rfl rfl (by kernel_rfl) (fun _ _ _ h => h) (Or.inl ⟨by rfl, ?_⟩) ?_ ?_
        rotate_left
        · intro w'
          go_simp
          with_reducible rfl
        rotate_left
        · simp only [Act.put, List.setIfInBounds_toArray, List.set_cons_zero, List.set_cons_succ]
          rfl
        refine join_ (σ := Nat × Nat × Value) 3 #[true, true, true, true, true, true, true, false, true, true, true, false, false] (fun s => [(33, .slice (some ⟨s.1, 0, none⟩) 0 0), (39, .slice (some ⟨s.2.1, 0, none⟩) 1 1), (37, s.2.2)]) (fun s w' => w'.ownsRow B1 9 1 s.2.2 (0 + i) (([] ++ (l.take i)).map encStr) ∧ w'.heap[s.2.1]? = some (.cells #[encStr sx] 9 (0, 0)) ∧ Below B1 w w' ∧ B1 ≤ w'.heap.size) ?_ ?_
        rotate_left
        · intro hCont
          refine two_ (i := 0) (j := 6) (Ni := some 33) (Nj := some 39) #[true, true, true, true, false, true, false, false, true, true, true, false, false] #[false, true, true, true, false, true, true, false, true, true, true, false, false] rfl rfl rfl rfl (by kernel_rfl) (by decide) (by decide) (fun K hK => ?_) (fun K hK => ?_)
          · skip
            obtain ⟨N1, hN1⟩ : ∃ N, w.drew.heap.size = N := ⟨_, rfl⟩
            have hNB1 : B1 ≤ N1 := by have := (Below.refl B1 w).drew.size; omega
            refine step_build0S w.drew rfl rfl N1 hN1 ?_
            intro w1 k1 l1 e1
            have b1 : Below B1 w w1 := (Below.refl B1 w).drew.trans (e1.mono hNB1)
            have s1 := b1.size
            refine hK.out _ _ trivial (fun hHeld => ?_)
            clear hK K
            refine norm_ (a' := ?_) ?_ ?_
            rotate_left
            · show Act.put _ (some 33) _ = _
              simp only [Act.put, List.setIfInBounds_toArray, List.set_cons_zero, List.set_cons_succ]
              rfl
            refine two_ (i := 4) (j := 6) (Ni := some 37) (Nj := some 39) #[true, true, true, true, true, true, false, false, true, true, true, false, false] #[true, true, true, true, false, true, true, false, true, true, true, false, false] rfl rfl rfl rfl (by kernel_rfl) (by decide) (by decide) (fun K hK => ?_) (fun K hK => ?_)
            · skip
              refine step_appS w1 rfl (.tmp 33) (.tmp 36) rfl B1 (.slice (some ⟨N1, 0, none⟩) 0 0) 0 [] (by rfl) (owns_empty hNB1 k1) (some ⟨g, 0, none⟩) i cp (l.take i) (by rfl) (by first | (simp; done) | (simp; omega)) ((hs1).below b1 (hold1)) (by omega) (by omega) (by omega) ?_
              intro v1 w2 o1 g1 e2 z1
              have b2 : Below B1 w w2 := b1.trans e2
              have s2 := b2.size
              refine hK.out _ _ trivial (fun hHeld => ?_)
              clear hK K
              refine norm_ (a' := ?_) ?_ ?_
              rotate_left
              · show Act.put _ (some 37) _ = _
                simp only [Act.put, List.setIfInBounds_toArray, List.set_cons_zero, List.set_cons_succ]
                rfl
              refine one_ (i := 6) (N := some 39) #[true, true, true, true, true, true, true, false, true, true, true, false, false] rfl rfl (by kernel_rfl) (by decide) (fun K hK => ?_)
              obtain ⟨N2, hN2⟩ : ∃ N, w2.heap.size = N := ⟨_, rfl⟩
              have hNB2 : B1 ≤ N2 := by have := b2.size; omega
              refine step_build1S w2 rfl 38 rfl sx HE.out.symm N2 hN2 ?_
              intro w3 k2 l2 e3
              have b3 : Below B1 w w3 := b2.trans (e3.mono hNB2)
              have o1 := owns_belowS o1 e3 (by omega)
              have s3 := b3.size
              refine hK.out _ _ trivial (fun hHeld => ?_)
              clear hK K
              refine norm_ (a' := ?_) ?_ ?_
              rotate_left
              · show Act.put _ (some 39) _ = _
                simp only [Act.put, List.setIfInBounds_toArray, List.set_cons_zero, List.set_cons_succ]
                rfl
              exact norm_ (by simp only [putAll, Act.put, List.setIfInBounds_toArray, List.set_cons_zero, List.set_cons_succ]) (hCont (N1, N2, v1) _ ⟨o1, k2, b3, by omega⟩)
            · skip
              obtain ⟨N2, hN2⟩ : ∃ N, w1.heap.size = N := ⟨_, rfl⟩
              have hNB2 : B1 ≤ N2 := by have := b1.size; omega
              refine step_build1S w1 rfl 38 rfl sx HE.out.symm N2 hN2 ?_
              intro w2 k2 l2 e2
              have b2 : Below B1 w w2 := b1.trans (e2.mono hNB2)
              have k1 := (e2.block N1 (by omega)).trans k1
              have s2 := b2.size
              refine hK.out _ _ trivial (fun hHeld => ?_)
              clear hK K
              refine norm_ (a' := ?_) ?_ ?_
              rotate_left
              · show Act.put _ (some 39) _ = _
                simp only [Act.put, List.setIfInBounds_toArray, List.set_cons_zero, List.set_cons_succ]
                rfl
              refine one_ (i := 4) (N := some 37) #[true, true, true, true, true, true, true, false, true, true, true, false, false] rfl rfl (by kernel_rfl) (by decide) (fun K hK => ?_)
              refine step_appS w2 rfl (.tmp 33) (.tmp 36) rfl B1 (.slice (some ⟨N1, 0, none⟩) 0 0) 0 [] (by rfl) (owns_empty hNB1 k1) (some ⟨g, 0, none⟩) i cp (l.take i) (by rfl) (by first | (simp; done) | (simp; omega)) ((hs1).below b2 (hold1)) (by omega) (by omega) (by omega) ?_
              intro v1 w3 o1 g1 e3 z1
              have b3 : Below B1 w w3 := b2.trans e3
              have k2 := (g1.block N2 (by omega) (by simp [Value.ownBlock]; omega)).trans k2
              have s3 := b3.size
              refine hK.out _ _ trivial (fun hHeld => ?_)
              clear hK K
              refine norm_ (a' := ?_) ?_ ?_
              rotate_left
              · show Act.put _ (some 37) _ = _
                simp only [Act.put, List.setIfInBounds_toArray, List.set_cons_zero, List.set_cons_succ]
                rfl
              exact norm_ (by simp only [putAll, Act.put, List.setIfInBounds_toArray, List.set_cons_zero, List.set_cons_succ]) (hCont (N1, N2, v1) _ ⟨o1, k2, b3, by omega⟩)
          · skip
            obtain ⟨N2, hN2⟩ : ∃ N, w.drew.heap.size = N := ⟨_, rfl⟩
            have hNB2 : B1 ≤ N2 := by have := (Below.refl B1 w).drew.size; omega
            refine step_build1S w.drew rfl 38 rfl sx HE.out.symm N2 hN2 ?_
            intro w1 k2 l2 e1
            have b1 : Below B1 w w1 := (Below.refl B1 w).drew.trans (e1.mono hNB2)
            have s1 := b1.size
            refine hK.out _ _ trivial (fun hHeld => ?_)
            clear hK K
            refine norm_ (a' := ?_) ?_ ?_
            rotate_left
            · show Act.put _ (some 39) _ = _
              simp only [Act.put, List.setIfInBounds_toArray, List.set_cons_zero, List.set_cons_succ]
              rfl
            refine one_ (i := 0) (N := some 33) #[true, true, true, true, false, true, true, false, true, true, true, false, false] rfl rfl (by kernel_rfl) (by decide) (fun K hK => ?_)
            obtain ⟨N1, hN1⟩ : ∃ N, w1.heap.size = N := ⟨_, rfl⟩
            have hNB1 : B1 ≤ N1 := by have := b1.size; omega
            refine step_build0S w1 rfl rfl N1 hN1 ?_
            intro w2 k1 l1 e2
            have b2 : Below B1 w w2 := b1.trans (e2.mono hNB1)
            have k2 := (e2.block N2 (by omega)).trans k2
            have s2 := b2.size
            refine hK.out _ _ trivial (fun hHeld => ?_)
            clear hK K
            refine norm_ (a' := ?_) ?_ ?_
            rotate_left
            · show Act.put _ (some 33) _ = _
              simp only [Act.put, List.setIfInBounds_toArray, List.set_cons_zero, List.set_cons_succ]
              rfl
            refine one_ (i := 4) (N := some 37) #[true, true, true, true, true, true, true, false, true, true, true, false, false] rfl rfl (by kernel_rfl) (by decide) (fun K hK => ?_)
            refine step_appS w2 rfl (.tmp 33) (.tmp 36) rfl B1 (.slice (some ⟨N1, 0, none⟩) 0 0) 0 [] (by rfl) (owns_empty hNB1 k1) (some ⟨g, 0, none⟩) i cp (l.take i) (by rfl) (by first | (simp; done) | (simp; omega)) ((hs1).below b2 (hold1)) (by omega) (by omega) (by omega) ?_
            intro v1 w3 o1 g1 e3 z1
            have b3 : Below B1 w w3 := b2.trans e3
            have k2 := (g1.block N2 (by omega) (by simp [Value.ownBlock]; omega)).trans k2
            have s3 := b3.size
            refine hK.out _ _ trivial (fun hHeld => ?_)
            clear hK K
            refine norm_ (a' := ?_) ?_ ?_
            rotate_left
            · show Act.put _ (some 37) _ = _
              simp only [Act.put, List.setIfInBounds_toArray, List.set_cons_zero, List.set_cons_succ]
              rfl
            exact norm_ (by simp only [putAll, Act.put, List.setIfInBounds_toArray, List.set_cons_zero, List.set_cons_succ]) (hCont (N1, N2, v1) _ ⟨o1, k2, b3, by omega⟩)
        rintro ⟨N1, N2, v1⟩ w4 ⟨o1, k2, b4, s4⟩
        have hHeld : True := trivial
        refine norm_ (a' := ?_) ?_ ?_
        rotate_left
        · simp only [putAll, Act.put, List.setIfInBounds_toArray, List.set_cons_zero, List.set_cons_succ]
          rfl
        refine one_ (i := 7) (N := some 40) #[true, true, true, true, true, true, true, true, true, true, true, false, false] rfl rfl (by kernel_rfl) (by decide) (fun K hK => ?_)
        refine step_appS w4 rfl (.tmp 37) (.tmp 39) rfl B1 v1 (0 + i) ([] ++ (l.take i)) (by rfl) o1 (some ⟨N2, 0, none⟩) 1 1 [sx] (by rfl) rfl (SrcS.one k2) (by omega) (by omega) (by omega) ?_
        intro v2 w5 o2 g2 e5 z2
        have b5 : Below B1 w w5 := b4.trans e5
        have s5 := b5.size
        refine hK.out _ _ trivial (fun hHeld => ?_)
        clear hK K
        refine norm_ (a' := ?_) ?_ ?_
        rotate_left
        · show Act.put _ (some 40) _ = _
          simp only [Act.put, List.setIfInBounds_toArray, List.set_cons_zero, List.set_cons_succ]
          rfl
        refine one_ (i := 11) (N := some 44) #[true, true, true, true, true, true, true, true, true, true, true, true, false] rfl rfl (by kernel_rfl) (by decide) (fun K hK => ?_)
        refine step_appS w5 rfl (.tmp 40) (.tmp 43) rfl B1 v2 (0 + i + 1) ([] ++ (l.take i) ++ [sx]) (by rfl) o2 (if cp = i then some ⟨g, 0, none⟩ else some ⟨g, i, none⟩) (l.length - i) (cp - i) (l.drop i) (by rfl) (by simp) ((hs2).below b5 (hold2)) (by omega) (by omega) (by omega) ?_
        intro v3 w6 o3 g3 e6 z3
        have b6 : Below B1 w w6 := b5.trans e6
        have s6 := b6.size
        refine hK.out _ _ trivial (fun hHeld => ?_)
        clear hK K
        refine norm_ (a' := ?_) ?_ ?_
        rotate_left
        · show Act.put _ (some 44) _ = _
          simp only [Act.put, List.setIfInBounds_toArray, List.set_cons_zero, List.set_cons_succ]
          rfl
        refine pure_ (i := 12) (N := some 4) (v := ?_) (a' := ?_) #[true, true, true, true, true, true, true, true, true, true, true, true, true] rfl rfl (by kernel_rfl) (fun _ _ _ h => h) (Or.inl ⟨by rfl, ?_⟩) ?_ ?_
        rotate_left
        · intro w'
          go_simp
          with_reducible rfl
        rotate_left
        · simp only [Act.put, List.setIfInBounds_toArray, List.set_cons_zero, List.set_cons_succ]
          rfl
        refine done_ (by kernel_rfl) ?_
        generalize (if cp = i then (some ⟨g, 0, none⟩ : Option Addr) else some ⟨g, i, none⟩) = A2'
        go_wp2_with fail
        go_ret
        refine ⟨_, rfl, ?_, .inr (fun k e => owns_ge o3 e), hB1 ▸ b6⟩
        exact (row_of_owns o3 HI.out (by first | (simp; done) | (simp; omega))).lower hBB

/-- Rising, none twice. -/
def Rising (R : List (List UInt8)) : Prop := R.Pairwise (fun x y => x < y)

theorem Rising.nodup {R : List (List UInt8)} (h : Rising R) : R.Nodup := List.Pairwise.imp (fun hlt e => by subst e; exact absurd hlt (List.lt_irrefl _)) h

theorem rising_same {L R : List (List UInt8)} (hL : Rising L) (hR : Rising R) (h : ∀ x, x ∈ L ↔ x ∈ R) : L = R :=
  List.Perm.eq_of_pairwise (le := fun x y => x < y) (fun _ _ _ _ h1 h2 => absurd (List.lt_trans h1 h2) (List.lt_irrefl _)) hL hR ((List.perm_ext_iff_of_nodup hL.nodup hR.nodup).2 h)

theorem sorted_le (l : List (List UInt8)) : (l.mergeSort leS).Pairwise (fun x y => x ≤ y) := by
  have := List.pairwise_mergeSort (le := leS) (fun a b c h1 h2 => by simp only [leS, decide_eq_true_eq] at *; exact List.le_trans h1 h2) (fun a b => by simp only [leS, Bool.or_eq_true, decide_eq_true_eq]; exact List.le_total a b) l
  exact this.imp (fun h => by simpa [leS] using h)

theorem ins_rising {s : List UInt8} {l : List (List UInt8)} (h : Rising l) : Rising (insS s l) ∧ ∀ x, x ∈ insS s l ↔ x = s ∨ x ∈ l := by
  induction l with
  | nil => exact ⟨by simp [insS, Rising], fun x => by simp [insS]⟩
  | cons y t ih =>
    obtain ⟨hy, ht⟩ := List.pairwise_cons.1 h
    obtain ⟨i1, i2⟩ := ih ht
    by_cases hlt : y < s
    · have e : insS s (y :: t) = y :: insS s t := by
        unfold insS
        rw [List.takeWhile_cons, List.dropWhile_cons, bytesLess_eq, decide_eq_true hlt]
        simp
      rw [e]
      refine ⟨List.pairwise_cons.2 ⟨fun z hz => ?_, i1⟩, fun x => ?_⟩
      · rcases (i2 z).1 hz with rfl | hz
        · exact hlt
        · exact hy z hz
      · rw [List.mem_cons, i2, List.mem_cons]
        constructor
        · rintro (h | h | h)
          · exact .inr (.inl h)
          · exact .inl h
          · exact .inr (.inr h)
        · rintro (h | h | h)
          · exact .inr (.inl h)
          · exact .inl h
          · exact .inr (.inr h)
    · have hge : s ≤ y := List.not_lt.1 hlt
      by_cases he : y = s
      · have e : insS s (y :: t) = y :: t := by
          unfold insS
          rw [List.takeWhile_cons, List.dropWhile_cons, bytesLess_eq, decide_eq_false hlt]
          simp [he]
        rw [e]
        exact ⟨h, fun x => by rw [List.mem_cons, he]; constructor; exact fun h => .inr h; rintro (h | h); exact .inl h; exact h⟩
      · have e : insS s (y :: t) = s :: y :: t := by
          unfold insS
          rw [List.takeWhile_cons, List.dropWhile_cons, bytesLess_eq, decide_eq_false hlt]
          simp [he]
        rw [e]
        have hsy : s < y := List.not_le.1 (fun h' => he (List.le_antisymm h' hge))
        refine ⟨List.pairwise_cons.2 ⟨fun z hz => ?_, h⟩, fun x => by rw [List.mem_cons]⟩
        rcases List.mem_cons.1 hz with rfl | hz
        · exact hsy
        · exact List.lt_trans hsy (hy z hz)

theorem ins_len (s : List UInt8) (l : List (List UInt8)) : (insS s l).length ≤ l.length + 1 := by
  have h := congrArg List.length (List.takeWhile_append_dropWhile (p := fun x => Op.bytesLess x s) (l := l))
  rw [List.length_append] at h
  unfold insS
  rw [List.length_append]
  split
  · rename_i e; rw [e] at h; simp at h ⊢; omega
  · rename_i x t e
    rw [e] at h
    split <;> simp at h ⊢ <;> omega
/-- Sorted names, none twice, are rising. -/
theorem sort_rising {l : List (List UInt8)} (h : l.Nodup) : Rising (l.mergeSort leS) := by
  have h1 := sorted_le l
  have h2 : (l.mergeSort leS).Nodup := (List.mergeSort_perm l leS).nodup_iff.2 h
  unfold Rising
  rw [List.nodup_iff_pairwise_ne] at h2
  exact (h1.and h2).imp (fun {a b} ⟨h3, h4⟩ => List.not_le.1 (fun h5 => h4 (List.le_antisymm h3 h5)))
end Go.Proofs.YtnkmpkhiilnigaaGreatDoor.PB
