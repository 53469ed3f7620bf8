/- Names of configurations, label's functions, numerals; the document's chapter 1. -/
import Derived.Test.YtnkmpkhiilnigaaGreatDoorSBaseB
import Derived.Test.YtnkmpkhiilnigaaGreatDoorPBx1
set_option linter.unusedSimpArgs false
set_option linter.unusedVariables false
namespace Go.Proofs.YtnkmpkhiilnigaaGreatDoor.PB
open Go.RowKit Go.Shelf Go.Lib Go.Sort Go.Maps Go.Proofs.YtnkmpkhiilnigaaGreatDoorW.PrintWords Go.Proofs.YtnkmpkhiilnigaaGreatDoorW.PrintLast

/-- A name that may be. -/
def signN (c : Nat) : Bool := (decide (97 ≤ c) && decide (c ≤ 122)) || (decide (48 ≤ c) && decide (c ≤ 57)) || decide (c = 45)
structure ValidN (s : ByteArray) : Prop where
  lo : 1 ≤ s.size
  hi : s.size ≤ 16
  all : ∀ i (h : i < s.size), signN (s[i]'h).toNat = true
  fst : ∀ h : 0 < s.size, 97 ≤ (s[0]'h).toNat ∧ (s[0]'h).toNat ≤ 122
  lst : ∀ h : s.size - 1 < s.size, (s[s.size - 1]'h).toNat ≠ 45

theorem sign_f {c : Nat} (h : signN c = true) : label_sign.f (c : Int) = some true := by
  unfold label_sign.f label_letter.f
  simp only [signN, Bool.or_eq_true, Bool.and_eq_true, decide_eq_true_eq] at h
  by_cases e : (c : Int) ≥ 97
  · rw [if_pos e, Option.bind_some]
    by_cases e2 : (c : Int) ≤ 122
    · rw [if_pos (by simpa using e2)]
    · omega
  · rw [if_neg e, Option.bind_some, if_neg (by simp)]
    by_cases e3 : (c : Int) ≥ 48
    · rw [if_pos e3]
      by_cases e4 : (c : Int) ≤ 57
      · rw [if_pos e4]
      · omega
    · rw [if_neg e3]
      have : (c : Int) = 45 := by omega
      rw [this]
      rfl
theorem letter_f {c : Nat} (h : 97 ≤ c ∧ c ≤ 122) : label_letter.f (c : Int) = some true := by
  unfold label_letter.f
  rw [if_pos (by omega), decide_eq_true (by omega)]
theorem signN_lt {c : Nat} (h : signN c = true) : c < 128 := by
  simp only [signN, Bool.or_eq_true, Bool.and_eq_true, decide_eq_true_eq] at h
  omega

/-- The sign ahead. -/
def lastN (s : ByteArray) : Nat → Int
  | 0 => 45
  | i + 1 => ((s.data.toList.getD i 0).toNat : Int)
theorem lastN_succ (s : ByteArray) (i : Nat) (h : i < s.size) : lastN s (i + 1) = ((s[i]'h).toNat : Int) := by
  show ((s.data.toList.getD i 0).toNat : Int) = _
  have : s.data.toList.getD i 0 = s[i]'h := by
    have hl : i < s.data.toList.length := by rw [Array.length_toList]; exact h
    rw [List.getD_eq_getElem?_getD, List.getElem?_eq_getElem hl, Option.getD_some, Array.getElem_toList]
    rfl
  rw [this]

set_option maxHeartbeats 4000000 in
theorem short_calls (s : ByteArray) (h : ValidN s) (w : World) :
    Calls Tryz.prog 67 #[.string s, .int .i64 16] w fun e w' => e = .returned (.bool true) ∧ Below w.heap.size w w' := by
  have hk0 : (w.iter s 0).heap[w.heap.size]? = some (.stringIter s 0) := World.iter_heap w s 0
  have hb0 : Below w.heap.size w (w.iter s 0) := (Below.refl _ w).alloc (Nat.le_refl _) _
  have H := Lib.hid h
  have hlo := h.lo
  have hhi := h.hi
  clear h
  go_enter Tryz.func67, Tryz.ntmps67
  go_wp2_with fail
  go_loopw [5] (fun v5 wr => ∃ pos : Nat, pos ≤ s.size ∧ v5 = .int .i32 (lastN s pos) ∧ wr.heap[w.heap.size]? = some (.stringIter s pos) ∧ Hid (Below w.heap.size w wr)) (fun _ wr => s.size - wr.iterPos w.heap.size)
  case atStart => exact ⟨0, Nat.zero_le _, rfl, hk0, Lib.hid hb0⟩
  case round =>
    obtain ⟨pos, hps, rfl, hk, hnx⟩ := hrel
    clear hk0 hb0
    by_cases hp : pos < s.size
    · have hsg := H.out.all pos hp
      have h128 := signN_lt hsg
      have hnext : ∀ ty, (Instr.next (.pointer (some ⟨w.heap.size, 0, none⟩)) true ty).run Tryz.prog wr = _ := fun ty => Lib.run_next_ascii_at wr w.heap.size s pos ty hk hp h128
      have hk1 := Lib.iterAt_heap wr w.heap.size s pos (pos + 1) hk
      have hnx1 := Lib.hid (Lib.below_iterAt hnx.out (Nat.le_refl _) s (pos + 1))
      have hmu : wr.iterPos w.heap.size = pos := by simp [World.iterPos, hk]
      have hls := Lib.hid (lastN_succ s pos hp)
      have hl0 : pos = 0 → 97 ≤ (s[pos]'hp).toNat ∧ (s[pos]'hp).toNat ≤ 122 := fun e => by subst e; exact H.out.fst hp
      have HL := Lib.hid hl0
      have HSG := Lib.hid (sign_f hsg)
      clear hsg hl0 hk
      generalize wr.iterAt w.heap.size s (pos + 1) = W1 at hnext hk1 hnx1
      generalize (s[pos]'hp).toNat = c at hnext hls HL HSG h128
      by_cases e0 : pos = 0
      · have hq : ((pos : Int) == 0) = true := by simp [e0]
        have hlf := Lib.hid (letter_f (HL.out e0))
        have hlf2 := HL.out e0
        go_wp2_with (first
          | (go_at_call 73; (with_reducible refine (label_sign.calls (c : Int) true _ HSG.out).mono ?_); rintro e w' ⟨rfl, hd⟩)
          | (go_at_call 74; (with_reducible refine (label_letter.calls (c : Int) true _ hlf.out).mono ?_); rintro e w' ⟨rfl, hd2⟩))
        obtain ⟨⟨n1, rfl⟩⟩ := hd
        obtain ⟨⟨n2, rfl⟩⟩ := hd2
        go_roundw
        case rel => exact ⟨pos + 1, by omega, by rw [hls.out], hk1, Lib.hid (hnx1.out.trans ⟨rfl, rfl, rfl, Nat.le_refl _, fun _ _ => rfl⟩)⟩
        case measure =>
          have hmu2 : ((W1.drewN n1).drewN n2).iterPos w.heap.size = pos + 1 := by
            show World.iterPos W1 w.heap.size = _
            simp [World.iterPos, hk1]
          rw [hmu, hmu2]
          omega
      · have hq : ((pos : Int) == 0) = false := by simpa using e0
        go_wp2_with (go_at_call 73; (with_reducible refine (label_sign.calls (c : Int) true _ HSG.out).mono ?_); rintro e w' ⟨rfl, hd⟩)
        obtain ⟨⟨n1, rfl⟩⟩ := hd
        go_roundw
        case rel => exact ⟨pos + 1, by omega, by rw [hls.out], hk1, Lib.hid (hnx1.out.trans ⟨rfl, rfl, rfl, Nat.le_refl _, fun _ _ => rfl⟩)⟩
        case measure =>
          have hmu2 : (W1.drewN n1).iterPos w.heap.size = pos + 1 := by
            show World.iterPos W1 w.heap.size = _
            simp [World.iterPos, hk1]
          rw [hmu, hmu2]
          omega
    · obtain rfl : pos = s.size := by omega
      have hnext : ∀ ty, (Instr.next (.pointer (some ⟨w.heap.size, 0, none⟩)) true ty).run Tryz.prog wr = _ := fun ty => Lib.run_next_end_at wr w.heap.size s s.size ty hk hp
      have hne : (lastN s s.size != 45) = true := by
        have h1 := H.out.lst (by omega)
        have h2 := lastN_succ s (s.size - 1) (by omega)
        rw [show s.size - 1 + 1 = s.size by omega] at h2
        rw [h2]
        simp
        omega
      generalize lastN s s.size = c at hne
      have hz : decide ((s.size : Int) ≤ 16) = true := decide_eq_true (by omega)
      go_wp2_with fail
      go_ret
      exact ⟨rfl, hnx.out⟩

theorem lname_calls (s : ByteArray) (h : ValidN s) (w : World) :
    Calls Tryz.prog 55 #[.string s] w fun e w' => e = .returned (.bool true) ∧ Below w.heap.size w w' := by
  have H := Lib.hid h
  clear h
  go_enter Tryz.func55, Tryz.ntmps55
  go_wp2_with fail
  refine (short_calls s H.out _).mono ?_
  rintro e w' ⟨rfl, hb⟩
  go_wp2_with fail
  go_ret
  exact ⟨rfl, hb⟩

/-- A revision's name. -/
def revN (s : ByteArray) (g : Int) : ByteArray := s ++ ⟨#[45]⟩ ++ ⟨(Lib.itoa g).toArray⟩
theorem rev_calls (s : ByteArray) (h : ValidN s) (g : Int) (h0 : 1 ≤ g) (h1 : g ≤ 999999) (w : World) (ht : ∀ w', Below w.heap.size w w' → Pow10 w') :
    Calls Tryz.prog 37 #[.string s, .int .i64 g] w fun e w' => e = .returned (.string (revN s g)) ∧ Below w.heap.size w w' := by
  have H := Lib.hid h
  have HT := Lib.hid ht
  have hlo := h.lo
  have hhi := h.hi
  clear h ht
  go_enter Tryz.func37, Tryz.ntmps37
  go_wp2_with fail
  refine (lname_calls s H.out _).mono ?_
  rintro e w1 ⟨rfl, hb1⟩
  have HB1 := Lib.hid hb1
  clear hb1
  go_wp2_with fail
  refine (itoa_calls g (by omega) (by omega) _ (HT.out _ HB1.out)).mono ?_
  rintro e w2 ⟨rfl, hb2⟩
  have hb := Lib.hid (below_step HB1.out hb2)
  have hlen := Lib.itoa_length_le g (by omega) (by omega)
  clear hb2
  go_wp2_with fail
  go_ret
  exact ⟨rfl, hb.out⟩

/-! #### The document's -/
theorem w64 {n : Int} (h0 : -9223372036854775808 ≤ n) (h1 : n < 9223372036854775808) : wrap64 n = n := by unfold wrap64; omega
/-- Go's remainder, made not negative. -/
theorem within_ex (a n : Int) (h1 : 1 ≤ n) (h2 : n ≤ 4611686018427387904) : (if n = 0 then (none : Option Int) else (if (Int.tmod a n) < 0 then (some (wrap64 ((Int.tmod a n) + n))) else (some (Int.tmod a n)))) = some (a % n) := by
  rw [if_neg (by omega)]
  have hb0 := Int.emod_nonneg a (b := n) (by omega)
  have hb1 := Int.emod_lt_of_pos a (b := n) (by omega)
  have h3 : (n.natAbs : Int) = n := by omega
  have := Int.tmod_eq_emod (a := a) (b := n)
  by_cases hd : 0 ≤ a ∨ n ∣ a
  · rw [if_pos hd] at this
    rw [if_neg (by omega)]
    congr 1; omega
  · rw [if_neg hd] at this
    have : a % n ≠ 0 := fun h => hd (.inr (Int.dvd_of_emod_eq_zero h))
    rw [if_pos (by omega), w64 (by omega) (by omega)]
    congr 1; omega

theorem within12 (a n : Int) (h1 : 1 ≤ n) (h2 : n ≤ 4611686018427387904) : damperlaw13_within.f a n = some (a % n) := within_ex a n h1 h2
theorem le_up {α : Type} (f : Nat → Option α) (hm : ∀ k, LeO (f k) (f (k + 1))) {r : α} {k : Nat} (h : f k = some r) : ∀ j, k ≤ j → f j = some r := fun j => by
  induction j with
  | zero => intro hj; obtain rfl : k = 0 := by omega
            exact h
  | succ j ih =>
    intro hj
    by_cases e : k = j + 1
    · subst e; exact h
    · exact hm j _ (ih (by omega))
theorem rsign_f {c : Nat} (h : signN c = true) : damperref1_sign.f (c : Int) = some true := by
  unfold damperref1_sign.f
  simp only [signN, Bool.or_eq_true, Bool.and_eq_true, decide_eq_true_eq] at h
  by_cases e : (c : Int) ≥ 97
  · rw [if_pos e]
    by_cases e2 : (c : Int) ≤ 122
    · rw [if_pos e2]
    · omega
  · rw [if_neg e]
    by_cases e3 : (c : Int) ≥ 48
    · rw [if_pos e3]
      by_cases e4 : (c : Int) ≤ 57
      · rw [if_pos e4]
      · omega
    · rw [if_neg e3]
      have : (c : Int) = 45 := by omega
      rw [this]
      rfl
theorem bt_nat (s : ByteArray) (i : Nat) (h : i < s.size) : bt s (i : Int) = ((s[i]'h).toNat : Int) := by
  have := bt_at s (i : Int) (by simpa using h)
  rw [← this]
  simp
theorem rname_rest (s : ByteArray) (h : ValidN s) : ∀ m i : Nat, i + m = s.size → damperref1_Name.l0 (m + 1) s (i : Int) = some true := by
  intro m
  induction m with
  | zero =>
    intro i hi
    unfold damperref1_Name.l0
    rw [if_neg (by omega)]
  | succ m ih =>
    intro i hi
    have hlt : i < s.size := by omega
    have hh := h.hi
    unfold damperref1_Name.l0
    rw [if_pos (by omega), if_pos (by omega), bt_nat s i hlt, rsign_f (h.all i hlt), Option.bind_some, if_pos rfl, w64 (by omega) (by omega)]
    have := ih (i + 1) (by omega)
    rw [show ((i + 1 : Nat) : Int) = (i : Int) + 1 by omega] at this
    exact this
theorem rname_f (s : ByteArray) (h : ValidN s) : damperref1_Name.f (s.size + 2) s = some true := by
  have h0 := h.lo
  have h1 := h.hi
  have hf := h.fst (by omega)
  have hl := h.lst (by omega)
  have b0 : bt s 0 = ((s[0]'(by omega)).toNat : Int) := bt_nat s 0 (by omega)
  have e1 : wrap64 ((s.size : Int) - 1) = ((s.size - 1 : Nat) : Int) := by rw [w64 (by omega) (by omega)]; omega
  have b1 := bt_nat s (s.size - 1) (by omega)
  unfold damperref1_Name.f
  rw [if_neg (by omega), if_neg (by omega), if_pos (by omega), b0, if_neg (by omega), if_neg (by omega), e1, if_pos (by omega), if_pos (by omega), b1]
  have hq : ((((s[s.size - 1]'(by omega)).toNat : Int)) == 45) = false := by simp; omega
  rw [hq, show s.size + 2 = (s.size + 1) + 1 from rfl]
  simp only [damperref1_Name.j0]
  rw [if_neg (by decide)]
  exact rname_rest s h s.size 0 (by omega)
theorem strOf_one (c : Int) (h0 : 0 ≤ c) (h1 : c ≤ 9) : strOfNums [(wrap64 (48 + c)) % 256] = ⟨(Lib.decDigits c.toNat).toArray⟩ := by
  obtain ⟨n, rfl⟩ := Int.eq_ofNat_of_zero_le h0
  have hn : n < 10 := by omega
  rw [Int.toNat_natCast, Lib.decDigits_one hn]
  have hw : wrap64 (48 + (n : Int)) % 256 = ((48 + n : Nat) : Int) := by rw [w64 (by omega) (by omega)]; omega
  rw [hw]
  rfl
theorem digits_f : ∀ (k n : Nat), n < 10 ^ k → k ≤ 10 → damperref1_Digits.f (k + 1) (n : Int) = some ⟨(Lib.decDigits n).toArray⟩ := by
  intro k
  induction k with
  | zero =>
    intro n hn _
    have : n = 0 := by simpa using hn
    subst this
    unfold damperref1_Digits.f
    rw [if_neg (by omega), if_neg (by omega)]
    exact congrArg some (strOf_one 0 (by omega) (by omega))
  | succ k ih =>
    intro n hn hk
    have hp : 10 ^ (k + 1) ≤ 10 ^ 10 := Nat.pow_le_pow_right (by omega) hk
    have hp1 : 10 ^ (k + 1) = 10 ^ k * 10 := Nat.pow_succ _ _
    unfold damperref1_Digits.f
    rw [if_neg (by omega)]
    by_cases e : (n : Int) ≥ 10
    · have hk1 : 1 ≤ k := by
        rcases Nat.eq_zero_or_pos k with rfl | h
        · rw [show (10 : Nat) ^ (0 + 1) = 10 from rfl] at hn; omega
        · exact h
      have hp2 : 10 ^ 1 ≤ 10 ^ k := Nat.pow_le_pow_right (by omega) hk1
      have t1 : Int.tdiv (n : Int) 10 = ((n / 10 : Nat) : Int) := by rw [Int.tdiv_eq_ediv_of_nonneg (by omega)]; omega
      have t2 : Int.tmod (n : Int) 10 = ((n % 10 : Nat) : Int) := by rw [Int.tmod_eq_emod_of_nonneg (by omega)]; omega
      rw [if_pos e, t1, t2, w64 (by omega) (by omega), ih (n / 10) (by omega) (by omega), ih (n % 10) (by omega) (by omega), Option.bind_some, Option.bind_some]
      have hl : ∀ m : Nat, m < 10 ^ 10 → (⟨(Lib.decDigits m).toArray⟩ : ByteArray).size ≤ 21 := fun m hm => by
        have := Lib.itoa_length_le (m : Int) (by omega) (by omega)
        unfold Lib.itoa at this
        rw [if_neg (by omega), Int.toNat_natCast] at this
        show (Lib.decDigits m).toArray.size ≤ 21
        simpa using this
      have l1 := hl (n / 10) (by omega)
      have l2 := hl (n % 10) (by omega)
      rw [if_pos (by omega)]
      have hd : Lib.decDigits n = Lib.decDigits (n / 10) ++ Lib.decDigits (n % 10) := by
        rw [Lib.decDigits, dif_neg (by omega), Lib.decDigits_one (by omega : n % 10 < 10)]
      rw [hd]
      congr 1
    · rw [if_neg e]
      have := strOf_one (n : Int) (by omega) (by omega)
      rw [Int.toNat_natCast] at this
      exact congrArg some this
theorem rname_40 (s : ByteArray) (h : ValidN s) : damperref1_Name.f 40 s = some true := by
  have hhi := h.hi
  exact le_up (fun k => damperref1_Name.f k s) (fun k => damperref1_Name.mono s k) (k := s.size + 2) (rname_f s h) 40 (by omega)
theorem digits_40 (g : Int) (h0 : 0 ≤ g) (h1 : g ≤ 999999) : damperref1_Digits.f 40 g = some ⟨(Lib.itoa g).toArray⟩ := by
  obtain ⟨n, rfl⟩ := Int.eq_ofNat_of_zero_le h0
  have h6 : (10 : Nat) ^ 6 = 1000000 := by decide
  have hd := le_up (fun k => damperref1_Digits.f k (n : Int)) (fun k => damperref1_Digits.mono (n : Int) k) (k := 7) (digits_f 6 n (by omega) (by omega)) 40 (by omega)
  have hi : Lib.itoa (n : Int) = Lib.decDigits n := by unfold Lib.itoa; rw [if_neg (by omega), Int.toNat_natCast]
  rw [hi]
  exact hd
theorem rrev_calls (s : ByteArray) (h : ValidN s) (g : Int) (h0 : 1 ≤ g) (h1 : g ≤ 999999) (w : World) :
    Calls Tryz.prog 20 #[.string s, .int .i64 g] w fun e w' => e = .returned (.string (revN s g)) ∧ Below w.heap.size w w' := by
  have HN := Lib.hid (rname_40 s h)
  have HD := Lib.hid (digits_40 g (by omega) h1)
  have hlo := h.lo
  have hhi := h.hi
  clear h
  go_enter Tryz.func20, Tryz.ntmps20
  go_wp2_with fail
  refine (damperref1_Name.calls 40 s true _ HN.out).mono ?_
  rintro e w1 ⟨rfl, hd1⟩
  have HB1 := Lib.hid hd1.below
  clear hd1
  go_wp2_with fail
  refine (damperref1_Digits.calls 40 g ⟨(Lib.itoa g).toArray⟩ _ HD.out).mono ?_
  rintro e w2 ⟨rfl, hb2⟩
  have hb := Lib.hid (below_step HB1.out hb2)
  have hlen := Lib.itoa_length_le g (by omega) (by omega)
  clear hb2
  go_wp2_with fail
  go_ret
  exact ⟨rfl, hb.out⟩

/-! #### Names are told apart -/
theorem revN_list (s : ByteArray) (g : Int) : (revN s g).data.toList = s.data.toList ++ 45 :: Lib.itoa g := by
  unfold revN
  simp
theorem itoa_nat {g : Int} (h : 0 ≤ g) : Lib.itoa g = Lib.decDigits g.toNat := by unfold Lib.itoa; rw [if_neg (by omega)]
theorem revN_ne (s : ByteArray) (g : Int) : (revN s g).toList ≠ [] := by
  rw [ByteArray.toList_eq, revN_list]
  simp
theorem revN_size (s : ByteArray) (hs : s.size ≤ 16) (g : Int) (h0 : 0 ≤ g) (h1 : g ≤ 999999) : (revN s g).size ≤ 100 := by
  have := Lib.itoa_length_le g (by omega) (by omega)
  have h2 : (revN s g).size = (revN s g).data.toList.length := by rw [Array.length_toList]; rfl
  have h3 : s.data.toList.length = s.size := by rw [Array.length_toList]; rfl
  rw [h2, revN_list, List.length_append, List.length_cons]
  omega

end Go.Proofs.YtnkmpkhiilnigaaGreatDoor.PB
