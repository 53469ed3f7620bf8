/- StampFamily: the walk. (Printed by stamplaws.py and genx.py.) -/
import Derived.Test.YtmiojmnifnnncaaDoorSLatest
set_option linter.unusedSimpArgs false
set_option linter.unusedVariables false
namespace Go.Proofs.YtmiojmnifnnncaaDoor.PA
open Go.RowKit Go.Shelf Go.Lib Go.Sort Go.Maps Go.Proofs.YtmiojmnifnnncaaDoorW.PrintWords Go.Proofs.YtmiojmnifnnncaaDoorW.PrintLast

abbrev nmWeb : ByteArray := ⟨#[119, 101, 98]⟩
abbrev nmWeb1 : ByteArray := ⟨#[119, 101, 98, 45, 49]⟩
theorem nmWeb_valid : ValidN nmWeb := ⟨by decide, by decide, by decide, by decide, by decide⟩
theorem nmWeb1_valid : ValidN nmWeb1 := ⟨by decide, by decide, by decide, by decide, by decide⟩
def cWeb : CfgM := ⟨nmWeb, 0, 1, 0, 1, 0⟩
def cWeb1 : CfgM := ⟨nmWeb1, 0, 2, 0, 1, 0⟩
theorem web_ne : nmWeb.toList ≠ nmWeb1.toList := by rw [ByteArray.toList_eq, ByteArray.toList_eq]; decide
theorem family_find {x y : Int} (hx : 0 ≤ x) (hy : 0 ≤ y) : findR [⟨cWeb, x, false⟩] (revN nmWeb1 y).data.toList = none := by
  unfold findR
  rw [List.find?_eq_none]
  intro r hr
  rw [List.mem_singleton.1 hr]
  simp only [beq_iff_eq]
  intro e
  have := (revN_inj (s := nmWeb) (t := nmWeb1) hx hy e).1
  exact web_ne (by rw [this])
theorem family_get {x y : Int} (hx : 0 ≤ x) (hy : 0 ≤ y) : findR [⟨cWeb, x, false⟩, ⟨cWeb1, y, false⟩] (revN nmWeb1 y).data.toList = some ⟨cWeb1, y, false⟩ := by
  have h := family_find hx hy
  unfold findR at h ⊢
  rw [List.find?_eq_none] at h
  have h0 := h _ (List.mem_singleton.2 rfl)
  rw [List.find?_cons_of_neg (p := fun r : RevM => r.key == (revN nmWeb1 y).data.toList) h0, List.find?_cons_of_pos (p := fun r : RevM => r.key == (revN nmWeb1 y).data.toList) (show ((⟨cWeb1, y, false⟩ : RevM).key == (revN nmWeb1 y).data.toList) = true from beq_self_eq_true _)]
theorem family_latest {x y : Int} : latestN [⟨cWeb, x, false⟩, ⟨cWeb1, y, false⟩] nmWeb (fun _ => true) = revN nmWeb x ∧ latestN [⟨cWeb, x, false⟩, ⟨cWeb1, y, false⟩] nmWeb1 (fun _ => true) = revN nmWeb1 y := by
  have p0 : askR nmWeb (fun _ => true) ⟨cWeb, x, false⟩ = true := by unfold askR; simp [cWeb]
  have p1 : askR nmWeb (fun _ => true) ⟨cWeb1, y, false⟩ = false := by unfold askR; simp [cWeb1, Ne.symm web_ne]
  have p2 : askR nmWeb1 (fun _ => true) ⟨cWeb, x, false⟩ = false := by unfold askR; simp [cWeb, web_ne]
  have p3 : askR nmWeb1 (fun _ => true) ⟨cWeb1, y, false⟩ = true := by unfold askR; simp [cWeb1]
  constructor
  · unfold latestN
    simp [bestR, p0, p1]
    rfl
  · unfold latestN
    simp [bestR, p2, p3]
    rfl

set_option maxRecDepth 100000 in
set_option maxHeartbeats 4000000 in
theorem family_law (a0 : Int) (a1 : Int) (w : World) (ht : ∀ w', Below w.heap.size w w' → Pow10 w')  :
    Calls Tryd.prog 9 #[.int .i64 a0, .int .i64 a1] w fun e w' => e = .returned (.bool true) ∧ Below w.heap.size w w' := by
  have HT := Lib.hid ht
  clear ht
  go_enter Tryd.func9, Tryd.ntmps9
  go_wp2_with fail
  refine (known12 w HT.out).mono ?_
  rintro e w1 ⟨rfl, hb1⟩
  go_wp2_with fail
  refine (new_calls w1).mono ?_
  rintro e w2 ⟨p, b1, b2, rfl, hB, ⟨hp, h1, h2⟩, hb2⟩
  have z1 := hb1.size
  have hp : w.heap.size ≤ p := by omega
  have h1 : w.heap.size ≤ b1 := by omega
  have h2 : w.heap.size ≤ b2 := by omega
  have HB2 := Lib.hid hB
  have B2 := Lib.hid (below_step hb1 hb2)
  clear hB hb1 hb2 z1
  go_wp2_with fail
  have hwi := Lib.hid (within12 a0 99 (by omega) (by omega))
  have x0 := Int.emod_nonneg a0 (b := 99) (by omega)
  have x1 := Int.emod_lt_of_pos a0 (b := 99) (by omega)
  refine (damperlaw12_within.calls a0 99 (a0 % 99) _ hwi.out).mono ?_
  rintro e w3 ⟨rfl, hdr_⟩
  have hd_ := hdr_.below
  clear hdr_
  clear hwi
  obtain ⟨xq, hxq⟩ : ∃ xq, xq = a0 % 99 := ⟨_, rfl⟩
  rw [← hxq] at x0 x1 ⊢
  have HB3 := Lib.hid (HB2.out.below hd_)
  have B3 := Lib.hid (below_step B2.out hd_)
  obtain ⟨x, hx⟩ : ∃ x, x = 1 + xq := ⟨_, rfl⟩
  have HX := Lib.hid hx
  have hx0 : 1 ≤ x := by omega
  have hx1 : x ≤ 99 := by omega
  clear hd_ HB2 B2 hxq hx
  go_wp2_with fail
  have hwi := Lib.hid (within12 a1 99 (by omega) (by omega))
  have y0 := Int.emod_nonneg a1 (b := 99) (by omega)
  have y1 := Int.emod_lt_of_pos a1 (b := 99) (by omega)
  refine (damperlaw12_within.calls a1 99 (a1 % 99) _ hwi.out).mono ?_
  rintro e w4 ⟨rfl, hdr_⟩
  have hd_ := hdr_.below
  clear hdr_
  clear hwi
  obtain ⟨yq, hyq⟩ : ∃ yq, yq = a1 % 99 := ⟨_, rfl⟩
  rw [← hyq] at y0 y1 ⊢
  have HB4 := Lib.hid (HB3.out.below hd_)
  have B4 := Lib.hid (below_step B3.out hd_)
  obtain ⟨y, hy⟩ : ∃ y, y = 1 + yq := ⟨_, rfl⟩
  have HY := Lib.hid hy
  have hy0 : 1 ≤ y := by omega
  have hy1 : y ≤ 99 := by omega
  clear hd_ HB3 B3 hyq hy
  go_upto_region 7 with fail
  rw [← HX.out, ← HY.out]
  clear HX HY x0 x1 y0 y1
  go_wp2_with fail
  refine (stamp_calls HB4.out OkL.nil cWeb nmWeb_valid x (by omega) (by omega) (fun w' hb => HT.out w' (below_step B4.out hb))).mono ?_
  rintro e w5 ⟨rfl, hB5, hc5⟩
  have hL5 := OkL.nil.stamp (c := cWeb) nmWeb_valid (g := x) (by omega) (by omega) (by simp)
  rw [stampL_nil] at hB5 hL5
  have HB5 := Lib.hid hB5
  have HL5 := Lib.hid hL5
  have B5 := Lib.hid (hc5.below_of B4.out B4.out.size (fun k hk e => by omega))
  clear hB5 hc5 hL5 HB4 B4
  go_wp2_with fail
  refine (stamp_calls HB5.out HL5.out cWeb1 nmWeb1_valid y (by omega) (by omega) (fun w' hb => HT.out w' (below_step B5.out hb))).mono ?_
  rintro e w6 ⟨rfl, hB6, hc6⟩
  have hff := family_find (x := x) (y := y) (by omega) (by omega)
  have hst : stampL [⟨cWeb, x, false⟩] cWeb1 y = [⟨cWeb, x, false⟩, ⟨cWeb1, y, false⟩] := by
    unfold stampL
    rw [show cWeb1.nm = nmWeb1 from rfl, hff]
    rfl
  have hL6 := HL5.out.stamp (c := cWeb1) nmWeb1_valid (g := y) (by omega) (by omega) (by simp)
  rw [hst] at hB6 hL6
  have HB6 := Lib.hid hB6
  have HL6 := Lib.hid hL6
  have B6 := Lib.hid (hc6.below_of B5.out B5.out.size (fun k hk e => by omega))
  clear hB6 hc6 hL6 HB5 B5 HL5 hff hst
  go_wp2_with fail
  refine (both_calls HB6.out HL6.out nmWeb).mono ?_
  rintro e w7 ⟨rfl, hb7⟩
  have hfl := family_latest (x := x) (y := y)
  rw [hfl.1]
  have HB7 := Lib.hid (HB6.out.below hb7)
  have B7 := Lib.hid (below_step B6.out hb7)
  generalize latestN [⟨cWeb, x, false⟩, ⟨cWeb1, y, false⟩] nmWeb (provedL [⟨cWeb, x, false⟩, ⟨cWeb1, y, false⟩]) = n1
  clear hb7 HB6 B6 hfl
  go_wp2_with fail
  refine (both_calls HB7.out HL6.out nmWeb1).mono ?_
  rintro e w8 ⟨rfl, hb8⟩
  have hfl := family_latest (x := x) (y := y)
  rw [hfl.2]
  have HB8 := Lib.hid (HB7.out.below hb8)
  have B8 := Lib.hid (below_step B7.out hb8)
  generalize latestN [⟨cWeb, x, false⟩, ⟨cWeb1, y, false⟩] nmWeb1 (provedL [⟨cWeb, x, false⟩, ⟨cWeb1, y, false⟩]) = n2
  clear hb8 HB7 B7 hfl
  go_wp2_with fail
  refine (rrev_calls nmWeb1 nmWeb1_valid y (by omega) (by omega) _).mono ?_
  rintro e w9 ⟨rfl, hb9⟩
  have HB9 := Lib.hid (HB8.out.below hb9)
  have B9 := Lib.hid (below_step B8.out hb9)
  clear hb9 HB8 B8
  go_wp2_with fail
  have hsz := revN_size nmWeb1 (by decide) y (by omega) (by omega)
  refine (get_some HB9.out (revN nmWeb1 y) (by omega) (family_get (x := x) (y := y) (by omega) (by omega)) (n := revN nmWeb1 y) (nm := nmWeb1) (g := y) (x1 := 0) (x2 := 2) (x3 := 0) (x4 := 1) (x5 := 0) rfl).mono ?_
  rintro e w10 ⟨rfl, hb10⟩
  obtain ⟨Wa, hWa⟩ : ∃ Wa, Wa = w10.alloc (.cells #[.string (revN nmWeb1 y), .int .i64 y, .string nmWeb1, .int .i64 0, .int .i64 2, .int .i64 0, .int .i64 1, .int .i64 0] 42) := ⟨_, rfl⟩
  have bWa : Below w10.heap.size w10 Wa := by rw [hWa]; exact (Below.refl _ _).alloc (Nat.le_refl _) _
  have kr : Blk Wa w10.heap.size #[.string (revN nmWeb1 y), .int .i64 y, .string nmWeb1, .int .i64 0, .int .i64 2, .int .i64 0, .int .i64 1, .int .i64 0] 42 := by rw [hWa]; exact Blk.new _ _ _
  obtain ⟨gr, hgr⟩ : ∃ gr, gr = w10.heap.size := ⟨_, rfl⟩
  rw [← hgr] at kr
  have HWa := Lib.hid hWa
  have HGR := Lib.hid hgr
  have KR := Lib.hid kr
  have HBa := Lib.hid (HB9.out.below (below_step hb10 bWa))
  have Ba := Lib.hid (below_step B9.out (below_step hb10 bWa))
  clear hWa hgr kr bWa hb10 HB9 B9
  go_upto_region 12 with fail
  rw [← HWa.out, ← HGR.out]
  clear HWa HGR hsz
  obtain ⟨q0, q1, q2, q3, q4, q5, q6, q7⟩ := Blk.cells8 KR.out
  have hN2 : (([⟨cWeb, x, false⟩, ⟨cWeb1, y, false⟩] : List RevM).map RevM.key).length = 2 := rfl
  go_wp2_with (first
    | (go_at_call 16; (with_reducible refine (rrev_calls nmWeb nmWeb_valid x (by omega) (by omega) _).mono ?_); rintro e u1 ⟨rfl, hu1⟩; have KU1 := Lib.hid (KR.out.below hu1 KR.out.lt); have HU1 := Lib.hid (HBa.out.below hu1); have BU1 := Lib.hid (below_step Ba.out hu1); clear hu1)
    | (go_at_call 16; (with_reducible refine (rrev_calls nmWeb1 nmWeb1_valid y (by omega) (by omega) _).mono ?_); rintro e u2 ⟨rfl, hu2⟩; have KU2 := Lib.hid (KU1.out.below hu2 KU1.out.lt); have HU2 := Lib.hid (HU1.out.below hu2); have BU2 := Lib.hid (below_step BU1.out hu2); clear hu2 q0 q1 q2 q3 q4 q5 q6 q7; obtain ⟨q0, q1, q2, q3, q4, q5, q6, q7⟩ := Blk.cells8 KU2.out)
    | (go_at_call 21; (with_reducible refine (all_calls HU2.out HL6.out).mono ?_); rintro e u3 ⟨v, rfl, r3, hu3⟩; obtain ⟨A3, c3, hv3, _, _⟩ := RowG.toS r3; subst hv3; rw [List.length_mergeSort, hN2]; have BU3 := Lib.hid (below_step BU2.out hu3); clear r3 hu3))
  go_ret
  exact ⟨rfl, BU3.out⟩

end Go.Proofs.YtmiojmnifnnncaaDoor.PA
