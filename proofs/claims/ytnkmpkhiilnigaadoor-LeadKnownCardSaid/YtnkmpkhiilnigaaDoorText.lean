/- The document's Text. (Printed by genx.py from text.src.) -/
import Derived.Test.YtnkmpkhiilnigaaDoorGShares
import Derived.Test.YtnkmpkhiilnigaaDoorPBx1
import Derived.Test.YtnkmpkhiilnigaaDoorPBx0
/- What Text's walk leans on, on the lead's door seat. -/

set_option linter.unusedSimpArgs false
set_option linter.unusedVariables false
namespace Go.Proofs.YtnkmpkhiilnigaaDoor.PA
open Go.RowKit Go.Shelf Go.Lib Go.Sort Go.Proofs.YtnkmpkhiilnigaaDoorW.PrintWords Go.Proofs.YtnkmpkhiilnigaaDoorW.PrintLast

theorem tx_step {w0 w1 w2 : World} (h : Below w0.heap.size w0 w1) (k : Below w1.heap.size w1 w2) : Below w0.heap.size w0 w2 := h.trans (k.mono h.size)
/-- The number in a slot, for a loop's measure. -/
def tI : Value → Int
  | .int _ q => q
  | _ => 0
theorem tx_tags_at {w : World} {A : Option Addr} {n : Nat} {xs : List S47} (h : Kd.C k47 w A n xs) (hn : 0 < n) : ∃ b o, A = some ⟨b, o, none⟩ ∧ b < w.heap.size ∧ ∀ j, j < xs.length → w.cell? ⟨b, o + j * 2, none⟩ = some (.string (xs.getD j z47).f0) ∧ w.cell? ⟨b, o + j * 2 + 1, none⟩ = some (.string (xs.getD j z47).f1) := by
  obtain ⟨hl, _, hc⟩ := h
  obtain ⟨ad, rfl, hc2⟩ := hc hn
  obtain ⟨b, o, s⟩ := ad
  have hcell : ∀ j, j < xs.length → w.cell? ((⟨b, o, s⟩ : Addr).add (j * 2)) = some (.string (xs.getD j z47).f0) ∧ w.cell? ((⟨b, o, s⟩ : Addr).add (j * 2 + 1)) = some (.string (xs.getD j z47).f1) := fun j hj => by
    obtain ⟨c, _, hk, hcell⟩ := hc2 j _ (List.getElem?_eq_getElem hj)
    have e := k47_open hk
    have hg : xs.getD j z47 = xs[j] := by simp [List.getD_eq_getElem?_getD, hj]
    rw [hg]
    exact ⟨hcell 0 _ (by rw [e]; rfl), hcell 1 _ (by rw [e]; rfl)⟩
  have h0 := (hcell 0 (by omega)).1
  have hs : s = none := by simpa [Addr.add] using World.cell?_spot h0
  subst hs
  refine ⟨b, o, rfl, ?_, fun j hj => ?_⟩
  · rcases Nat.lt_or_ge b w.heap.size with hlt | hge
    · exact hlt
    · unfold World.cell? at h0
      rw [Array.getElem?_eq_none (by simpa [Addr.add] using hge)] at h0
      simp at h0
  · have h1 := hcell j hj
    rw [add_at, add_at] at h1
    exact h1
/-- What Text puts down for a Share; for a Tag. -/
def txOne (dig : Int → ByteArray) (s : ByteArray) (x : S45) : ByteArray := s ++ ⟨#[32]⟩ ++ x.f0 ++ ⟨#[58]⟩ ++ dig x.f1
def txTag (s : ByteArray) (x : S47) : ByteArray := s ++ ⟨#[32]⟩ ++ x.f0 ++ ⟨#[61]⟩ ++ x.f1
def txS (dig : Int → ByteArray) (sh : List S45) : ByteArray := sh.foldl (txOne dig) ⟨#[]⟩
def txT (dig : Int → ByteArray) (sh : List S45) (tg : List S47) : ByteArray := tg.foldl txTag (txS dig sh)
/-- The text: without the blank ahead. -/
def textOf (dig : Int → ByteArray) (sh : List S45) (tg : List S47) : ByteArray := if (txT dig sh tg).size = 0 then ⟨#[]⟩ else (txT dig sh tg).extract 1 (txT dig sh tg).size
theorem txS_size (dig : Int → ByteArray) : ∀ (sh : List S45) (s : ByteArray), (∀ x ∈ sh, x.f0.size ≤ 100 ∧ (dig x.f1).size ≤ 100) → (sh.foldl (txOne dig) s).size ≤ s.size + 202 * sh.length
  | [], s, _ => by simp
  | x :: t, s, h => by
    have ih := txS_size dig t (txOne dig s x) (fun y hy => h y (List.mem_cons_of_mem _ hy))
    have hx := h x List.mem_cons_self
    have h1 : (txOne dig s x).size = s.size + 1 + x.f0.size + 1 + (dig x.f1).size := by unfold txOne; simp only [ByteArray.size_append]; rfl
    rw [List.foldl_cons, List.length_cons]
    omega
theorem txT_size : ∀ (tg : List S47) (s : ByteArray), (∀ x ∈ tg, x.f0.size ≤ 100 ∧ x.f1.size ≤ 100) → (tg.foldl txTag s).size ≤ s.size + 202 * tg.length
  | [], s, _ => by simp
  | x :: t, s, h => by
    have ih := txT_size t (txTag s x) (fun y hy => h y (List.mem_cons_of_mem _ hy))
    have hx := h x List.mem_cons_self
    have h1 : (txTag s x).size = s.size + 1 + x.f0.size + 1 + x.f1.size := by unfold txTag; simp only [ByteArray.size_append]; rfl
    rw [List.foldl_cons, List.length_cons]
    omega
theorem txS_succ (dig : Int → ByteArray) {sh : List S45} {i : Nat} (h : i < sh.length) : txS dig (sh.take (i + 1)) = txOne dig (txS dig (sh.take i)) sh[i] := by
  unfold txS
  rw [List.take_succ_eq_append_getElem h, List.foldl_append]
  rfl
theorem txT_succ (dig : Int → ByteArray) (sh : List S45) {tg : List S47} {i : Nat} (h : i < tg.length) : txT dig sh (tg.take (i + 1)) = txTag (txT dig sh (tg.take i)) tg[i] := by
  unfold txT
  rw [List.take_succ_eq_append_getElem h, List.foldl_append]
  rfl

set_option maxRecDepth 100000 in
set_option maxHeartbeats 8000000 in
theorem text_calls {A : Option Addr} {c : Nat} {sh : List S45} {B : Option Addr} {d : Nat} {tg : List S47} (dig : Int → ByteArray) (w : World) (h0 : Kd.C k45 w A sh.length sh) (h1 : Kd.C k47 w B tg.length tg)
    (hd : ∀ x ∈ sh, PB.damperref1_Digits.f 40 x.f1 = some (dig x.f1)) (hs : ∀ x ∈ sh, x.f0.size ≤ 100 ∧ (dig x.f1).size ≤ 100) (ht : ∀ x ∈ tg, x.f0.size ≤ 100 ∧ x.f1.size ≤ 100) (z0 : sh.length ≤ 1000) (z1 : tg.length ≤ 1000) :
    Calls Tryd.prog 14 #[.agg #[.slice A sh.length c, .slice B tg.length d]] w fun e w' => e = .returned (.string (textOf dig sh tg)) ∧ Below w.heap.size w w' := by
  have H0 := Lib.hid h0
  have H1 := Lib.hid h1
  have HD := Lib.hid hd
  have HS := Lib.hid hs
  have HT := Lib.hid ht
  clear h0 h1 hd hs ht
  go_enter Tryd.func14, Tryd.ntmps14
  obtain ⟨W, hW⟩ : ∃ W, W = w.alloc (.cells #[.slice A sh.length c, .slice B tg.length d] 41) := ⟨_, rfl⟩
  have bW : Below w.heap.size w W := by rw [hW]; exact (Below.refl _ _).alloc (Nat.le_refl _) _
  have kW : Blk W w.heap.size #[.slice A sh.length c, .slice B tg.length d] 41 := by rw [hW]; exact Blk.new _ _ _
  obtain ⟨g, hg⟩ : ∃ g, g = w.heap.size := ⟨_, rfl⟩
  rw [← hg] at kW
  have KW := Lib.hid kW
  have BW := Lib.hid bW
  clear kW bW
  go_upto_region 1 with fail
  rw [← hW, ← hg]
  clear hW hg
  go_wp2_with fail
  go_loopw [3, 4] (fun v3 v4 wr => ∃ (i : Nat), i ≤ sh.length ∧ v4 = .int .i64 i ∧ v3 = .string (txS dig (sh.take i)) ∧ Hid (Blk wr g #[.slice A sh.length c, .slice B tg.length d] 41) ∧ Hid (Below w.heap.size w wr)) (fun _ v4 _ => sh.length - (tI v4).toNat)
  case atStart => exact ⟨0, by omega, rfl, rfl, KW, BW⟩
  case round =>
    clear KW BW
    obtain ⟨i, hi, rfl, rfl, KK, BB⟩ := hrel
    have q0 := KK.out.cell 0
    have q1 := KK.out.cell 1
    simp only [List.getElem?_toArray, List.getElem?_cons_zero, List.getElem?_cons_succ] at q0 q1
    by_cases hlt : i < sh.length
    · obtain ⟨b, o, rfl, hb, hcs⟩ := shares_at H0.out (by omega)
      have HC := Lib.hid hcs
      have hlt' : (i : Int) < (sh.length : Int) := by omega
      have hsz : (txS dig (sh.take i)).size ≤ 202 * 1000 := by
        have := txS_size dig (sh.take i) ⟨#[]⟩ (fun x hx => HS.out x (List.mem_of_mem_take hx))
        have h2 : (sh.take i).length ≤ 1000 := by rw [List.length_take]; omega
        have h3 : (⟨#[]⟩ : ByteArray).size = 0 := rfl
        have h4 : (txS dig (sh.take i)).size ≤ (⟨#[]⟩ : ByteArray).size + 202 * (sh.take i).length := this
        omega
      obtain ⟨x0, x1, hx⟩ : ∃ x0 x1, sh[i] = ⟨x0, x1⟩ := ⟨_, _, rfl⟩
      have hg1 : sh.getD i z45 = ⟨x0, x1⟩ := by simp [List.getD_eq_getElem?_getD, hlt, hx]
      have hxs := HS.out sh[i] (List.getElem_mem hlt)
      have hxd := HD.out sh[i] (List.getElem_mem hlt)
      have hsu := txS_succ dig hlt
      rw [hx] at hxs hxd hsu
      obtain ⟨hx0, hx1⟩ := hxs
      obtain ⟨ac, hac⟩ : ∃ ac, ac = txS dig (sh.take i) := ⟨_, rfl⟩
      rw [← hac] at hsz hsu ⊢
      obtain ⟨dg, hdg⟩ : ∃ dg, dg = dig x1 := ⟨_, rfl⟩
      have hx1 : dg.size ≤ 100 := by rw [hdg]; exact hx1
      have hxd : PB.damperref1_Digits.f 40 x1 = some dg := by rw [hdg]; exact hxd
      have hx0 : x0.size ≤ 100 := hx0
      have hsu : txS dig (sh.take (i + 1)) = ac ++ ⟨#[32]⟩ ++ x0 ++ ⟨#[58]⟩ ++ dg := by rw [hsu, hdg]; rfl
      have HSU := Lib.hid hsu
      have HXD := Lib.hid hxd
      clear hx hac hdg hsu hxd hcs
      have hbw : ∀ w', Below w.heap.size w w' → w'.cell? ⟨b, o + i * 2, none⟩ = some (.string x0) ∧ w'.cell? ⟨b, o + i * 2 + 1, none⟩ = some (.int .i64 x1) := fun w' h => by
        have := HC.out i hlt
        rw [hg1] at this
        exact ⟨(h.cell (p := ⟨b, o + i * 2, none⟩) hb).trans this.1, (h.cell (p := ⟨b, o + i * 2 + 1, none⟩) hb).trans this.2⟩
      have HB := Lib.hid hbw
      clear hbw hg1
      have n1 : ¬ 9223372036854775807 < ac.size + 1 := by omega
      have n2 : ¬ 9223372036854775807 < ac.size + 1 + x0.size := by omega
      have n3 : ¬ 9223372036854775807 < ac.size + 1 + x0.size + 1 := by omega
      have n4 : ¬ 9223372036854775807 < ac.size + 1 + x0.size + 1 + dg.size := by omega
      have dr := (Below.refl wr.heap.size wr).drew
      have KD := Lib.hid (KK.out.below dr KK.out.lt)
      have BD := Lib.hid (tx_step BB.out dr)
      clear dr
      go_wp2_with fail
      refine start_ (n := 19) (S := fun w' => w'.cell? ⟨g, 0, none⟩ = some (.slice (some ⟨b, o, none⟩) sh.length c) ∧ w'.cell? ⟨b, o + i * 2, none⟩ = some (.string x0) ∧ w'.cell? ⟨b, o + i * 2 + 1, none⟩ = some (.int .i64 x1)) (ds := []) #[false, false, false, false, false, false, false, false, false, false, false, false, false, false, false, false, false, false, false] (by kernel_rfl) rfl rfl ⟨KD.out.cell 0, (HB.out _ BD.out).1, (HB.out _ BD.out).2⟩ (fun hHeld => ?_)
      refine pure_ (i := 0) (N := some 13) (v := ?_) (a' := ?_) #[true, false, false, false, false, false, false, false, false, false, false, false, false, false, false, false, false, false, false] rfl rfl (by kernel_rfl) (fun _ _ _ h => h) (Or.inl ⟨by rfl, ?_⟩) ?_ ?_
      rotate_left
      · intro w'
        go_simp
        with_reducible rfl
      rotate_left
      · simp only [Act.put, List.setIfInBounds_toArray, List.set_cons_zero, List.set_cons_succ]
        rfl
      refine pure_ (i := 1) (N := some 14) (v := ?_) (a' := ?_) #[true, true, false, false, false, false, false, false, false, false, false, false, false, false, false, false, false, false, false] rfl rfl (by kernel_rfl) (fun _ _ _ h => h) (Or.inl ⟨by rfl, ?_⟩) ?_ ?_
      rotate_left
      · intro w'
        go_simp
        with_reducible rfl
      rotate_left
      · simp only [Act.put, List.setIfInBounds_toArray, List.set_cons_zero, List.set_cons_succ]
        rfl
      refine pure_ (i := 2) (N := some 15) (v := ?_) (a' := ?_) #[true, true, true, false, false, false, false, false, false, false, false, false, false, false, false, false, false, false, false] rfl rfl (by kernel_rfl) (fun _ _ _ h => h) (Or.inl ⟨by rfl, ?_⟩) ?_ ?_
      rotate_left
      · intro w'
        go_simp
        with_reducible rfl
      rotate_left
      · simp only [Act.put, List.setIfInBounds_toArray, List.set_cons_zero, List.set_cons_succ]
        rfl
      refine pure_ (i := 4) (N := some 17) (v := ?_) (a' := ?_) #[true, true, true, false, true, false, false, false, false, false, false, false, false, false, false, false, false, false, false] rfl rfl (by kernel_rfl) (fun _ _ _ h => h) (Or.inl ⟨by rfl, ?_⟩) ?_ ?_
      rotate_left
      · intro w'
        go_simp
        with_reducible rfl
      rotate_left
      · simp only [Act.put, List.setIfInBounds_toArray, List.set_cons_zero, List.set_cons_succ]
        rfl
      refine pure_ (i := 10) (N := some 23) (v := ?_) (a' := ?_) #[true, true, true, false, true, false, false, false, false, false, true, false, false, false, false, false, false, false, false] rfl rfl (by kernel_rfl) (fun _ _ _ h => h) (Or.inl ⟨by rfl, ?_⟩) ?_ ?_
      rotate_left
      · intro w'
        go_simp
        with_reducible rfl
      rotate_left
      · simp only [Act.put, List.setIfInBounds_toArray, List.set_cons_zero, List.set_cons_succ]
        rfl
      refine pure_ (i := 12) (N := some 25) (v := ?_) (a' := ?_) #[true, true, true, false, true, false, false, false, false, false, true, false, true, false, false, false, false, false, false] rfl rfl (by kernel_rfl) (fun _ _ _ h => h) (Or.inl ⟨by rfl, ?_⟩) ?_ ?_
      rotate_left
      · intro w'
        go_simp
        with_reducible rfl
      rotate_left
      · simp only [Act.put, List.setIfInBounds_toArray, List.set_cons_zero, List.set_cons_succ]
        rfl
      refine take_ (i := 3) (N := some 16) (v := ?_) (a' := ?_) #[true, true, true, true, true, false, false, false, false, false, true, false, true, false, false, false, false, false, false] rfl rfl (by kernel_rfl) (fun _ _ _ h => h) (Or.inl ⟨by rfl, ?_⟩) hHeld ?_ ?_
      rotate_left
      · rintro w' ⟨s0, s1, s2⟩
        go_simp
        with_reducible rfl
      rotate_left
      · simp only [Act.put, List.setIfInBounds_toArray, List.set_cons_zero, List.set_cons_succ]
        rfl
      refine pure_ (i := 5) (N := some 18) (v := ?_) (a' := ?_) #[true, true, true, true, true, true, false, false, false, false, true, false, true, false, false, false, false, false, false] rfl rfl (by kernel_rfl) (fun _ _ _ h => h) (Or.inl ⟨by rfl, ?_⟩) ?_ ?_
      rotate_left
      · intro w'
        go_simp
        with_reducible rfl
      rotate_left
      · simp only [Act.put, List.setIfInBounds_toArray, List.set_cons_zero, List.set_cons_succ]
        rfl
      refine pure_ (i := 6) (N := some 19) (v := ?_) (a' := ?_) #[true, true, true, true, true, true, true, false, false, false, true, false, true, false, false, false, false, false, false] rfl rfl (by kernel_rfl) (fun _ _ _ h => h) (Or.inl ⟨by rfl, ?_⟩) ?_ ?_
      rotate_left
      · intro w'
        go_simp
        with_reducible rfl
      rotate_left
      · simp only [Act.put, List.setIfInBounds_toArray, List.set_cons_zero, List.set_cons_succ]
        rfl
      refine take_ (i := 7) (N := some 20) (v := ?_) (a' := ?_) #[true, true, true, true, true, true, true, true, false, false, true, false, true, false, false, false, false, false, false] rfl rfl (by kernel_rfl) (fun _ _ _ h => h) (Or.inl ⟨by rfl, ?_⟩) hHeld ?_ ?_
      rotate_left
      · rintro w' ⟨s0, s1, s2⟩
        go_simp
        with_reducible rfl
      rotate_left
      · simp only [Act.put, List.setIfInBounds_toArray, List.set_cons_zero, List.set_cons_succ]
        rfl
      refine pure_ (i := 8) (N := some 21) (v := ?_) (a' := ?_) #[true, true, true, true, true, true, true, true, true, false, true, false, true, false, false, false, false, false, false] rfl rfl (by kernel_rfl) (fun _ _ _ h => h) (Or.inl ⟨by rfl, ?_⟩) ?_ ?_
      rotate_left
      · intro w'
        go_simp
        with_reducible rfl
      rotate_left
      · simp only [Act.put, List.setIfInBounds_toArray, List.set_cons_zero, List.set_cons_succ]
        rfl
      refine pure_ (i := 9) (N := some 22) (v := ?_) (a' := ?_) #[true, true, true, true, true, true, true, true, true, true, true, false, true, false, false, false, false, false, false] rfl rfl (by kernel_rfl) (fun _ _ _ h => h) (Or.inl ⟨by rfl, ?_⟩) ?_ ?_
      rotate_left
      · intro w'
        go_simp
        with_reducible rfl
      rotate_left
      · simp only [Act.put, List.setIfInBounds_toArray, List.set_cons_zero, List.set_cons_succ]
        rfl
      refine take_ (i := 11) (N := some 24) (v := ?_) (a' := ?_) #[true, true, true, true, true, true, true, true, true, true, true, true, true, false, false, false, false, false, false] rfl rfl (by kernel_rfl) (fun _ _ _ h => h) (Or.inl ⟨by rfl, ?_⟩) hHeld ?_ ?_
      rotate_left
      · rintro w' ⟨s0, s1, s2⟩
        go_simp
        with_reducible rfl
      rotate_left
      · simp only [Act.put, List.setIfInBounds_toArray, List.set_cons_zero, List.set_cons_succ]
        rfl
      refine pure_ (i := 13) (N := some 26) (v := ?_) (a' := ?_) #[true, true, true, true, true, true, true, true, true, true, true, true, true, true, false, false, false, false, false] rfl rfl (by kernel_rfl) (fun _ _ _ h => h) (Or.inl ⟨by rfl, ?_⟩) ?_ ?_
      rotate_left
      · intro w'
        go_simp
        with_reducible rfl
      rotate_left
      · simp only [Act.put, List.setIfInBounds_toArray, List.set_cons_zero, List.set_cons_succ]
        rfl
      refine pure_ (i := 14) (N := some 27) (v := ?_) (a' := ?_) #[true, true, true, true, true, true, true, true, true, true, true, true, true, true, true, false, false, false, false] rfl rfl (by kernel_rfl) (fun _ _ _ h => h) (Or.inl ⟨by rfl, ?_⟩) ?_ ?_
      rotate_left
      · intro w'
        go_simp
        with_reducible rfl
      rotate_left
      · simp only [Act.put, List.setIfInBounds_toArray, List.set_cons_zero, List.set_cons_succ]
        rfl
      refine take_ (i := 15) (N := some 28) (v := ?_) (a' := ?_) #[true, true, true, true, true, true, true, true, true, true, true, true, true, true, true, true, false, false, false] rfl rfl (by kernel_rfl) (fun _ _ _ h => h) (Or.inl ⟨by rfl, ?_⟩) hHeld ?_ ?_
      rotate_left
      · rintro w' ⟨s0, s1, s2⟩
        go_simp
        with_reducible rfl
      rotate_left
      · simp only [Act.put, List.setIfInBounds_toArray, List.set_cons_zero, List.set_cons_succ]
        rfl
      refine one_ (i := 16) (N := some 29) #[true, true, true, true, true, true, true, true, true, true, true, true, true, true, true, true, true, false, false] rfl rfl (by kernel_rfl) (by decide) (fun K hK => ?_)
      refine goes_ Tryd.func20 (by kernel_rfl) rfl #[.int .i64 x1] (by rfl) rfl rfl (by simp only [List.map_toArray, List.map_cons, List.map_nil]; rfl) ?_
      with_reducible refine (PB.damperref1_Digits.calls 40 x1 dg _ HXD.out).mono ?_
      rintro e w2 ⟨rfl, hb2⟩
      have K2 := Lib.hid (KD.out.below hb2 KD.out.lt)
      have B2 := Lib.hid (tx_step BD.out hb2)
      refine ⟨_, rfl, ?_⟩
      refine hK.out _ _ ⟨K2.out.cell 0, (HB.out _ B2.out).1, (HB.out _ B2.out).2⟩ (fun hHeld => ?_)
      clear hK K
      refine norm_ (a' := ?_) ?_ ?_
      rotate_left
      · show Act.put _ (some 29) _ = _
        simp only [Act.put, List.setIfInBounds_toArray, List.set_cons_zero, List.set_cons_succ]
        rfl
      refine pure_ (i := 17) (N := some 30) (v := ?_) (a' := ?_) #[true, true, true, true, true, true, true, true, true, true, true, true, true, true, true, true, true, true, false] rfl rfl (by kernel_rfl) (fun _ _ _ h => h) (Or.inl ⟨by rfl, ?_⟩) ?_ ?_
      rotate_left
      · intro w'
        go_simp
        with_reducible rfl
      rotate_left
      · simp only [Act.put, List.setIfInBounds_toArray, List.set_cons_zero, List.set_cons_succ]
        rfl
      refine pure_ (i := 18) (N := some 3) (v := ?_) (a' := ?_) #[true, true, true, true, true, true, true, true, true, true, true, true, true, true, true, true, true, true, true] rfl rfl (by kernel_rfl) (fun _ _ _ h => h) (Or.inl ⟨by rfl, ?_⟩) ?_ ?_
      rotate_left
      · intro w'
        go_simp
        with_reducible rfl
      rotate_left
      · simp only [Act.put, List.setIfInBounds_toArray, List.set_cons_zero, List.set_cons_succ]
        rfl
      refine done_ (by kernel_rfl) ?_
      clear KD BD KK BB HB hb2 q0 q1
      go_wp2_with fail
      go_roundw
      case rel => exact ⟨i + 1, by omega, by go_num, by rw [HSU.out], K2, B2⟩
      case measure => simp [tI]; omega
    · obtain rfl : i = sh.length := by omega
      rw [List.take_length]
      clear hlt hi
      go_wp2_with fail
      go_loopw [3, 5] (fun v3 v5 wr => ∃ (i : Nat), i ≤ tg.length ∧ v5 = .int .i64 i ∧ v3 = .string (txT dig sh (tg.take i)) ∧ Hid (Blk wr g #[.slice A sh.length c, .slice B tg.length d] 41) ∧ Hid (Below w.heap.size w wr)) (fun _ v5 _ => tg.length - (tI v5).toNat)
      case atStart => exact ⟨0, by omega, rfl, rfl, KK, BB⟩
      case round =>
        clear KK BB q0 q1
        obtain ⟨i, hi, rfl, rfl, KK, BB⟩ := hrel
        have q0 := KK.out.cell 0
        have q1 := KK.out.cell 1
        simp only [List.getElem?_toArray, List.getElem?_cons_zero, List.getElem?_cons_succ] at q0 q1
        have hsz : (txT dig sh (tg.take i)).size ≤ 500000 := by
          have a1 := txS_size dig sh ⟨#[]⟩ HS.out
          have a2 := txT_size (tg.take i) (txS dig sh) (fun x hx => HT.out x (List.mem_of_mem_take hx))
          have h2 : (tg.take i).length ≤ 1000 := by rw [List.length_take]; omega
          have h3 : (⟨#[]⟩ : ByteArray).size = 0 := rfl
          have h4 : (txS dig sh).size ≤ (⟨#[]⟩ : ByteArray).size + 202 * sh.length := a1
          have h5 : (txT dig sh (tg.take i)).size ≤ (txS dig sh).size + 202 * (tg.take i).length := a2
          omega
        by_cases hlt : i < tg.length
        · obtain ⟨b, o, rfl, hb, hcs⟩ := tx_tags_at H1.out (by omega)
          have HC := Lib.hid hcs
          have hlt' : (i : Int) < (tg.length : Int) := by omega
          obtain ⟨x0, x1, hx⟩ : ∃ x0 x1, tg[i] = ⟨x0, x1⟩ := ⟨_, _, rfl⟩
          have hg1 : tg.getD i z47 = ⟨x0, x1⟩ := by simp [List.getD_eq_getElem?_getD, hlt, hx]
          have hxs := HT.out tg[i] (List.getElem_mem hlt)
          have hsu := txT_succ dig sh hlt
          rw [hx] at hxs hsu
          obtain ⟨hx0, hx1⟩ := hxs
          have hx0 : x0.size ≤ 100 := hx0
          have hx1 : x1.size ≤ 100 := hx1
          obtain ⟨ac, hac⟩ : ∃ ac, ac = txT dig sh (tg.take i) := ⟨_, rfl⟩
          rw [← hac] at hsz hsu ⊢
          have hsu : txT dig sh (tg.take (i + 1)) = ac ++ ⟨#[32]⟩ ++ x0 ++ ⟨#[61]⟩ ++ x1 := hsu
          have HSU := Lib.hid hsu
          clear hx hac hsu hcs
          have hbw : ∀ w', Below w.heap.size w w' → w'.cell? ⟨b, o + i * 2, none⟩ = some (.string x0) ∧ w'.cell? ⟨b, o + i * 2 + 1, none⟩ = some (.string x1) := fun w' h => by
            have := HC.out i hlt
            rw [hg1] at this
            exact ⟨(h.cell (p := ⟨b, o + i * 2, none⟩) hb).trans this.1, (h.cell (p := ⟨b, o + i * 2 + 1, none⟩) hb).trans this.2⟩
          have HB := Lib.hid hbw
          clear hbw hg1
          have n1 : ¬ 9223372036854775807 < ac.size + 1 := by omega
          have n2 : ¬ 9223372036854775807 < ac.size + 1 + x0.size := by omega
          have n3 : ¬ 9223372036854775807 < ac.size + 1 + x0.size + 1 := by omega
          have n4 : ¬ 9223372036854775807 < ac.size + 1 + x0.size + 1 + x1.size := by omega
          have dr := (Below.refl wr.heap.size wr).drew
          have KD := Lib.hid (KK.out.below dr KK.out.lt)
          have BD := Lib.hid (tx_step BB.out dr)
          clear dr
          go_wp2_with fail
          refine start_ (n := 18) (S := fun w' => w'.cell? ⟨g, 1, none⟩ = some (.slice (some ⟨b, o, none⟩) tg.length d) ∧ w'.cell? ⟨b, o + i * 2, none⟩ = some (.string x0) ∧ w'.cell? ⟨b, o + i * 2 + 1, none⟩ = some (.string x1)) (ds := []) #[false, false, false, false, false, false, false, false, false, false, false, false, false, false, false, false, false, false] (by kernel_rfl) rfl rfl ⟨KD.out.cell 1, (HB.out _ BD.out).1, (HB.out _ BD.out).2⟩ (fun hHeld => ?_)
          refine pure_ (i := 0) (N := some 38) (v := ?_) (a' := ?_) #[true, false, false, false, false, false, false, false, false, false, false, false, false, false, false, false, false, false] rfl rfl (by kernel_rfl) (fun _ _ _ h => h) (Or.inl ⟨by rfl, ?_⟩) ?_ ?_
          rotate_left
          · intro w'
            go_simp
            with_reducible rfl
          rotate_left
          · simp only [Act.put, List.setIfInBounds_toArray, List.set_cons_zero, List.set_cons_succ]
            rfl
          refine pure_ (i := 1) (N := some 39) (v := ?_) (a' := ?_) #[true, true, false, false, false, false, false, false, false, false, false, false, false, false, false, false, false, false] rfl rfl (by kernel_rfl) (fun _ _ _ h => h) (Or.inl ⟨by rfl, ?_⟩) ?_ ?_
          rotate_left
          · intro w'
            go_simp
            with_reducible rfl
          rotate_left
          · simp only [Act.put, List.setIfInBounds_toArray, List.set_cons_zero, List.set_cons_succ]
            rfl
          refine pure_ (i := 2) (N := some 40) (v := ?_) (a' := ?_) #[true, true, true, false, false, false, false, false, false, false, false, false, false, false, false, false, false, false] rfl rfl (by kernel_rfl) (fun _ _ _ h => h) (Or.inl ⟨by rfl, ?_⟩) ?_ ?_
          rotate_left
          · intro w'
            go_simp
            with_reducible rfl
          rotate_left
          · simp only [Act.put, List.setIfInBounds_toArray, List.set_cons_zero, List.set_cons_succ]
            rfl
          refine pure_ (i := 4) (N := some 42) (v := ?_) (a' := ?_) #[true, true, true, false, true, false, false, false, false, false, false, false, false, false, false, false, false, false] rfl rfl (by kernel_rfl) (fun _ _ _ h => h) (Or.inl ⟨by rfl, ?_⟩) ?_ ?_
          rotate_left
          · intro w'
            go_simp
            with_reducible rfl
          rotate_left
          · simp only [Act.put, List.setIfInBounds_toArray, List.set_cons_zero, List.set_cons_succ]
            rfl
          refine pure_ (i := 10) (N := some 48) (v := ?_) (a' := ?_) #[true, true, true, false, true, false, false, false, false, false, true, false, false, false, false, false, false, false] rfl rfl (by kernel_rfl) (fun _ _ _ h => h) (Or.inl ⟨by rfl, ?_⟩) ?_ ?_
          rotate_left
          · intro w'
            go_simp
            with_reducible rfl
          rotate_left
          · simp only [Act.put, List.setIfInBounds_toArray, List.set_cons_zero, List.set_cons_succ]
            rfl
          refine pure_ (i := 12) (N := some 50) (v := ?_) (a' := ?_) #[true, true, true, false, true, false, false, false, false, false, true, false, true, false, false, false, false, false] rfl rfl (by kernel_rfl) (fun _ _ _ h => h) (Or.inl ⟨by rfl, ?_⟩) ?_ ?_
          rotate_left
          · intro w'
            go_simp
            with_reducible rfl
          rotate_left
          · simp only [Act.put, List.setIfInBounds_toArray, List.set_cons_zero, List.set_cons_succ]
            rfl
          refine take_ (i := 3) (N := some 41) (v := ?_) (a' := ?_) #[true, true, true, true, true, false, false, false, false, false, true, false, true, false, false, false, false, false] rfl rfl (by kernel_rfl) (fun _ _ _ h => h) (Or.inl ⟨by rfl, ?_⟩) hHeld ?_ ?_
          rotate_left
          · rintro w' ⟨s0, s1, s2⟩
            go_simp
            with_reducible rfl
          rotate_left
          · simp only [Act.put, List.setIfInBounds_toArray, List.set_cons_zero, List.set_cons_succ]
            rfl
          refine pure_ (i := 5) (N := some 43) (v := ?_) (a' := ?_) #[true, true, true, true, true, true, false, false, false, false, true, false, true, false, false, false, false, false] rfl rfl (by kernel_rfl) (fun _ _ _ h => h) (Or.inl ⟨by rfl, ?_⟩) ?_ ?_
          rotate_left
          · intro w'
            go_simp
            with_reducible rfl
          rotate_left
          · simp only [Act.put, List.setIfInBounds_toArray, List.set_cons_zero, List.set_cons_succ]
            rfl
          refine pure_ (i := 6) (N := some 44) (v := ?_) (a' := ?_) #[true, true, true, true, true, true, true, false, false, false, true, false, true, false, false, false, false, false] rfl rfl (by kernel_rfl) (fun _ _ _ h => h) (Or.inl ⟨by rfl, ?_⟩) ?_ ?_
          rotate_left
          · intro w'
            go_simp
            with_reducible rfl
          rotate_left
          · simp only [Act.put, List.setIfInBounds_toArray, List.set_cons_zero, List.set_cons_succ]
            rfl
          refine take_ (i := 7) (N := some 45) (v := ?_) (a' := ?_) #[true, true, true, true, true, true, true, true, false, false, true, false, true, false, false, false, false, false] rfl rfl (by kernel_rfl) (fun _ _ _ h => h) (Or.inl ⟨by rfl, ?_⟩) hHeld ?_ ?_
          rotate_left
          · rintro w' ⟨s0, s1, s2⟩
            go_simp
            with_reducible rfl
          rotate_left
          · simp only [Act.put, List.setIfInBounds_toArray, List.set_cons_zero, List.set_cons_succ]
            rfl
          refine pure_ (i := 8) (N := some 46) (v := ?_) (a' := ?_) #[true, true, true, true, true, true, true, true, true, false, true, false, true, false, false, false, false, false] rfl rfl (by kernel_rfl) (fun _ _ _ h => h) (Or.inl ⟨by rfl, ?_⟩) ?_ ?_
          rotate_left
          · intro w'
            go_simp
            with_reducible rfl
          rotate_left
          · simp only [Act.put, List.setIfInBounds_toArray, List.set_cons_zero, List.set_cons_succ]
            rfl
          refine pure_ (i := 9) (N := some 47) (v := ?_) (a' := ?_) #[true, true, true, true, true, true, true, true, true, true, true, false, true, false, false, false, false, false] rfl rfl (by kernel_rfl) (fun _ _ _ h => h) (Or.inl ⟨by rfl, ?_⟩) ?_ ?_
          rotate_left
          · intro w'
            go_simp
            with_reducible rfl
          rotate_left
          · simp only [Act.put, List.setIfInBounds_toArray, List.set_cons_zero, List.set_cons_succ]
            rfl
          refine take_ (i := 11) (N := some 49) (v := ?_) (a' := ?_) #[true, true, true, true, true, true, true, true, true, true, true, true, true, false, false, false, false, false] rfl rfl (by kernel_rfl) (fun _ _ _ h => h) (Or.inl ⟨by rfl, ?_⟩) hHeld ?_ ?_
          rotate_left
          · rintro w' ⟨s0, s1, s2⟩
            go_simp
            with_reducible rfl
          rotate_left
          · simp only [Act.put, List.setIfInBounds_toArray, List.set_cons_zero, List.set_cons_succ]
            rfl
          refine pure_ (i := 13) (N := some 51) (v := ?_) (a' := ?_) #[true, true, true, true, true, true, true, true, true, true, true, true, true, true, false, false, false, false] rfl rfl (by kernel_rfl) (fun _ _ _ h => h) (Or.inl ⟨by rfl, ?_⟩) ?_ ?_
          rotate_left
          · intro w'
            go_simp
            with_reducible rfl
          rotate_left
          · simp only [Act.put, List.setIfInBounds_toArray, List.set_cons_zero, List.set_cons_succ]
            rfl
          refine pure_ (i := 14) (N := some 52) (v := ?_) (a' := ?_) #[true, true, true, true, true, true, true, true, true, true, true, true, true, true, true, false, false, false] rfl rfl (by kernel_rfl) (fun _ _ _ h => h) (Or.inl ⟨by rfl, ?_⟩) ?_ ?_
          rotate_left
          · intro w'
            go_simp
            with_reducible rfl
          rotate_left
          · simp only [Act.put, List.setIfInBounds_toArray, List.set_cons_zero, List.set_cons_succ]
            rfl
          refine take_ (i := 15) (N := some 53) (v := ?_) (a' := ?_) #[true, true, true, true, true, true, true, true, true, true, true, true, true, true, true, true, false, false] rfl rfl (by kernel_rfl) (fun _ _ _ h => h) (Or.inl ⟨by rfl, ?_⟩) hHeld ?_ ?_
          rotate_left
          · rintro w' ⟨s0, s1, s2⟩
            go_simp
            with_reducible rfl
          rotate_left
          · simp only [Act.put, List.setIfInBounds_toArray, List.set_cons_zero, List.set_cons_succ]
            rfl
          refine pure_ (i := 16) (N := some 54) (v := ?_) (a' := ?_) #[true, true, true, true, true, true, true, true, true, true, true, true, true, true, true, true, true, false] rfl rfl (by kernel_rfl) (fun _ _ _ h => h) (Or.inl ⟨by rfl, ?_⟩) ?_ ?_
          rotate_left
          · intro w'
            go_simp
            with_reducible rfl
          rotate_left
          · simp only [Act.put, List.setIfInBounds_toArray, List.set_cons_zero, List.set_cons_succ]
            rfl
          refine pure_ (i := 17) (N := some 3) (v := ?_) (a' := ?_) #[true, true, true, true, true, true, true, true, true, true, true, true, true, true, true, true, true, true] rfl rfl (by kernel_rfl) (fun _ _ _ h => h) (Or.inl ⟨by rfl, ?_⟩) ?_ ?_
          rotate_left
          · intro w'
            go_simp
            with_reducible rfl
          rotate_left
          · simp only [Act.put, List.setIfInBounds_toArray, List.set_cons_zero, List.set_cons_succ]
            rfl
          refine done_ (by kernel_rfl) ?_
          clear KK BB HB q0 q1
          go_wp2_with fail
          go_roundw
          case rel => exact ⟨i + 1, by omega, by go_num, by rw [HSU.out], KD, BD⟩
          case measure => simp [tI]; omega
        · obtain rfl : i = tg.length := by omega
          rw [List.take_length] at hsz ⊢
          clear hlt hi
          obtain ⟨tx, htx⟩ : ∃ tx, tx = txT dig sh tg := ⟨_, rfl⟩
          rw [← htx] at hsz ⊢
          have HTX := Lib.hid (show textOf dig sh tg = if tx.size = 0 then ⟨#[]⟩ else tx.extract 1 tx.size from by rw [htx]; rfl)
          clear htx
          by_cases hz : tx.size = 0
          · have hte : tx = ⟨#[]⟩ := by
              apply ByteArray.ext
              exact Array.eq_empty_of_size_eq_zero hz
            rw [hte] at HTX ⊢
            go_wp2_with fail
            go_ret
            exact ⟨by rw [HTX.out]; rfl, BB.out⟩
          · have hne : (tx.toList == (⟨#[]⟩ : ByteArray).toList) = false := by
              rw [beq_eq_false_iff_ne]
              intro e
              rw [ByteArray.toList_eq, ByteArray.toList_eq] at e
              apply hz
              have := congrArg List.length e
              simpa using this
            have hne2 : tx.toList.isEmpty = false := by
              rw [List.isEmpty_eq_false_iff]
              intro e
              rw [ByteArray.toList_eq] at e
              apply hz
              have := congrArg List.length e
              simpa using this
            have h1s : 1 ≤ tx.size := by omega
            go_wp2_with fail
            go_ret
            exact ⟨by rw [HTX.out, if_neg hz]; rfl, BB.out⟩

end Go.Proofs.YtnkmpkhiilnigaaDoor.PA
