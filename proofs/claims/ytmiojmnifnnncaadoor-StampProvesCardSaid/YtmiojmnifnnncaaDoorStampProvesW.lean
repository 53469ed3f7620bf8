/- StampProves: the walk. (Printed by stamplaws.py and genx.py.) -/
import Derived.Test.YtmiojmnifnnncaaDoorSPlain
set_option linter.unusedSimpArgs false
set_option linter.unusedVariables false
namespace Go.Proofs.YtmiojmnifnnncaaDoor.PA
open Go.RowKit Go.Shelf Go.Lib Go.Sort Go.Maps Go.Proofs.YtmiojmnifnnncaaDoorW.PrintWords Go.Proofs.YtmiojmnifnnncaaDoorW.PrintLast

theorem cfgA_enc : encC cfgA = .agg #[.string nmA, .int .i64 0, .int .i64 1, .int .i64 0, .int .i64 1, .int .i64 0] := rfl
theorem cfgA_nm : cfgA.nm = nmA := rfl
theorem nmA_v : ValidN cfgA.nm := nmA_valid
theorem encA_lit (n : ByteArray) (h : n = nmA) : encC cfgA = .agg #[.string n, .int .i64 0, .int .i64 1, .int .i64 0, .int .i64 1, .int .i64 0] := by subst h; rfl
theorem revA (g : Int) : revN (⟨#[97]⟩ : ByteArray) g = revN nmA g := rfl
theorem revA99 : (⟨#[97, 45, 57, 57]⟩ : ByteArray) = revN nmA 99 := by
  unfold revN
  rw [itoa_nat (by decide), show (99 : Int).toNat = 99 from rfl, Lib.decDigits_two (by decide) (by decide)]
  rfl
/-- Numbers 1 to j, each once; which are proved. -/
structure SeqA (L : List RevM) (j : Nat) (b : Int → Bool) : Prop where
  all : AllOf cfgA L
  len : L.length = j
  each : ∀ r ∈ L, 1 ≤ r.g ∧ r.g ≤ j ∧ r.ok = b r.g
  has : ∀ g : Int, 1 ≤ g → g ≤ j → ∃ r ∈ L, r.g = g
theorem SeqA.nil : SeqA [] 0 (fun _ => false) := ⟨AllOf.nil _, rfl, fun r hr => by simp at hr, fun g h0 h1 => by omega⟩
theorem SeqA.step {L : List RevM} {j : Nat} (h : SeqA L j (fun _ => false)) (hL : OkL L) : findR L (revN nmA ((j : Int) + 1)).data.toList = none ∧ SeqA (stampL L cfgA ((j : Int) + 1)) (j + 1) (fun _ => false) := by
  have hf : findR L (revN cfgA.nm ((j : Int) + 1)).data.toList = none := find_gen_none h.all hL (by omega) (fun r hr e => by have := (h.each r hr).2.1; omega)
  refine ⟨hf, ?_⟩
  have hst : stampL L cfgA ((j : Int) + 1) = L ++ [⟨cfgA, (j : Int) + 1, false⟩] := by unfold stampL; rw [hf]; rfl
  refine ⟨h.all.stamp _, by rw [hst, List.length_append, h.len]; rfl, fun r hr => ?_, fun g h0 h1 => ?_⟩
  · rcases stamp_inv hr with hr | rfl
    · obtain ⟨h1, h2, h3⟩ := h.each r hr
      exact ⟨h1, by omega, h3⟩
    · exact ⟨by show 1 ≤ (j : Int) + 1; omega, by show (j : Int) + 1 ≤ ((j + 1 : Nat) : Int); omega, rfl⟩
  · by_cases e : g ≤ j
    · obtain ⟨r, hr, hg⟩ := h.has g h0 e
      exact ⟨r, stamp_mem hr, hg⟩
    · rw [hst]
      exact ⟨_, List.mem_append_right _ (List.mem_singleton.2 rfl), by show (j : Int) + 1 = g; omega⟩
theorem SeqA.prove {L : List RevM} {j : Nat} {b : Int → Bool} (h : SeqA L j b) (hL : OkL L) {k : Int} (h0 : 1 ≤ k) (hb : ∀ g : Int, (b g = true ∨ g = k) ↔ g = k) : SeqA (proveL L (revN nmA k).data.toList) j (fun g => decide (g = k)) := by
  refine ⟨h.all.prove _, by unfold proveL; rw [List.length_map]; exact h.len, fun r hr => ?_, fun g h1 h2 => ?_⟩
  · obtain ⟨s, hs, _, e2, e3⟩ := prove_inv hr
    obtain ⟨q1, q2, q3⟩ := h.each s hs
    refine ⟨by omega, by omega, ?_⟩
    have hkey : s.key = (revN nmA k).data.toList ↔ s.g = k := by
      constructor
      · intro e
        exact (revN_inj (by omega) (by omega) (show (revN s.c.nm s.g).data.toList = _ from e)).2
      · intro e
        show (revN s.c.nm s.g).data.toList = _
        rw [h.all s hs, e]
        rfl
    have : r.ok = true ↔ r.g = k := by rw [e3, hkey, q3, e2]; exact hb s.g
    cases hr : r.ok with
    | true => exact (decide_eq_true (this.1 hr)).symm
    | false => exact (decide_eq_false (fun e => by rw [this.2 e] at hr; cases hr)).symm
  · obtain ⟨s, hs, hg⟩ := h.has g h1 h2
    obtain ⟨r, hr, _, e, _⟩ := prove_mem (x := (revN nmA k).data.toList) hs
    exact ⟨r, hr, by omega⟩

set_option maxRecDepth 100000 in
set_option maxHeartbeats 8000000 in
theorem proves_law (a0 : Int) (a1 : Int) (a2 : Int) (w : World) (ht : ∀ w', Below w.heap.size w w' → Pow10 w')  :
    Calls Tryd.prog 6 #[.int .i64 a0, .int .i64 a1, .int .i64 a2] w fun e w' => e = .returned (.bool true) ∧ Below w.heap.size w w' := by
  have HT := Lib.hid ht
  clear ht
  go_enter Tryd.func6, Tryd.ntmps6
  go_wp2_with fail
  refine (known12 w HT.out).mono ?_
  rintro e w1 ⟨rfl, hb1⟩
  go_wp2_with fail
  refine (new_calls w1).mono ?_
  rintro e w2 ⟨p, b1, b2, rfl, hB, ⟨hp, h1, h2⟩, hb2⟩
  have z1 := hb1.size
  have hp : w.heap.size ≤ p := by omega
  have h1 : w.heap.size ≤ b1 := by omega
  have h2 : w.heap.size ≤ b2 := by omega
  have HB2 := Lib.hid hB
  have B2 := Lib.hid (below_step hb1 hb2)
  clear hB hb1 hb2 z1
  go_wp2_with fail
  have hwi := Lib.hid (within12 a0 9 (by omega) (by omega))
  have x0 := Int.emod_nonneg a0 (b := 9) (by omega)
  have x1 := Int.emod_lt_of_pos a0 (b := 9) (by omega)
  refine (damperlaw12_within.calls a0 9 (a0 % 9) _ hwi.out).mono ?_
  rintro e w3 ⟨rfl, hdr_⟩
  have hd_ := hdr_.below
  clear hdr_
  clear hwi
  have HB3 := Lib.hid (HB2.out.below hd_)
  have B3 := Lib.hid (below_step B2.out hd_)
  obtain ⟨xq, hxq⟩ := Int.eq_ofNat_of_zero_le x0
  rw [hxq] at x1 ⊢
  obtain ⟨nn, hnn⟩ : ∃ nn : Nat, nn = 1 + xq := ⟨_, rfl⟩
  have hnx : (1 : Int) + (xq : Int) = (nn : Int) := by omega
  have hn1 : 1 ≤ nn := by omega
  have hn9 : nn ≤ 9 := by omega
  have HNX := Lib.hid hnx
  have hxq9 : xq < 9 := by omega
  clear hd_ HB2 B2 hxq hnn hnx x0 x1
  go_upto_region 7 with fail
  rw [HNX.out]
  clear HNX hxq9
  go_wp2_with fail
  go_loopw [8] (fun v8 wr => ∃ (j : Nat) (L : List RevM), j ≤ nn ∧ v8 = .int .i64 ((j : Int) + 1) ∧ Hid (BookAt wr p b1 b2 L) ∧ Hid (OkL L) ∧ Hid (SeqA L j (fun _ => false)) ∧ Hid (Below w.heap.size w wr)) (fun v8 _ => nn + 1 - (vI v8).toNat)
  case atStart => exact ⟨0, [], by omega, rfl, HB3, Lib.hid OkL.nil, Lib.hid SeqA.nil, B3⟩
  case round =>
    clear HB3 B3
    obtain ⟨j, L, hj, rfl, HB, HL, HS, BB⟩ := hrel
    by_cases hlt : j < nn
    · have hle : decide ((j : Int) + 1 ≤ (nn : Int)) = true := decide_eq_true (by omega)
      go_wp2_with fail
      with_reducible refine (stamp_callsE HB.out HL.out cfgA nmA_v ((j : Int) + 1) (by omega) (by omega) (fun w' hb => HT.out w' (below_step BB.out hb)) (encA_lit ⟨#[97]⟩ rfl) (nm := nmA) cfgA_nm).mono ?_
      rintro e w4 ⟨rfl, hB4, hc4⟩
      obtain ⟨hf, hs⟩ := HS.out.step HL.out
      rw [hf]
      have HB4 := Lib.hid hB4
      have HL4 := Lib.hid (HL.out.stamp (c := cfgA) nmA_v (g := (j : Int) + 1) (by omega) (by omega) (by have := HS.out.len; omega))
      have HS4 := Lib.hid hs
      have B4 := Lib.hid (hc4.below_of BB.out BB.out.size (fun k hk e => by omega))
      generalize stampL L cfgA ((j : Int) + 1) = L4 at HB4 HL4 HS4
      clear hf hs hB4 hc4 HB HL HS BB
      have hno : (none : Option RevM).isNone = true := rfl
      rw [hno]
      go_wp2_with fail
      go_roundw
      case rel => exact ⟨j + 1, L4, by omega, by go_num, HB4, HL4, HS4, B4⟩
      case measure => simp [vI]; omega
    · have hle : decide ((j : Int) + 1 ≤ (nn : Int)) = false := decide_eq_false (by omega)
      obtain rfl : j = nn := by omega
      clear hlt
      go_wp2_with fail
      have hwi := Lib.hid (within12 a1 (j : Int) (by omega) (by omega))
      have k0 := Int.emod_nonneg a1 (b := (j : Int)) (by omega)
      have k1 := Int.emod_lt_of_pos a1 (b := (j : Int)) (by omega)
      with_reducible refine (damperlaw12_within.calls a1 (j : Int) (a1 % (j : Int)) _ hwi.out).mono ?_
      rintro e w5 ⟨rfl, hdr_⟩
      have hd_ := hdr_.below
      have HB5 := Lib.hid (HB.out.below hd_)
      have B5 := Lib.hid (below_step BB.out hd_)
      generalize a1 % (j : Int) = kq at k0 k1 ⊢
      obtain ⟨k, hk⟩ : ∃ k, k = 1 + kq := ⟨_, rfl⟩
      have hk0 : 1 ≤ k := by omega
      have hk1 : k ≤ j := by omega
      have HK := Lib.hid hk
      clear hwi hdr_ hd_ HB BB hk
      go_upto_region 14 with fail
      rw [← HK.out]
      clear HK k0 k1
      have hwz := Lib.hid (within12 a2 3 (by omega) (by omega))
      have z0 := Int.emod_nonneg a2 (b := 3) (by omega)
      have z1 := Int.emod_lt_of_pos a2 (b := 3) (by omega)
      have HB5 := Lib.hid HB5.out
      generalize a2 % 3 = z at hwz z0 z1
      go_wp2_with fail
      go_loopw [12] (fun v12 wr => ∃ (i : Nat) (L : List RevM) (b : Int → Bool), (i : Int) ≤ 3 ∧ v12 = .int .i64 (i : Int) ∧ Hid (BookAt wr p b1 b2 L) ∧ Hid (OkL L) ∧ Hid (SeqA L j b) ∧ Hid ((i = 0 ∧ b = fun _ => false) ∨ (1 ≤ i ∧ b = fun g => decide (g = k))) ∧ Hid (Below w.heap.size w wr)) (fun v12 _ => 4 - (vI v12).toNat)
      case atStart => exact ⟨0, L, _, by omega, rfl, HB5, HL, HS, Lib.hid (.inl ⟨rfl, rfl⟩), B5⟩
      case round =>
        clear HB5 HL HS B5
        obtain ⟨i, L, b, hi, rfl, HB, HL, HS, HBs, BB⟩ := hrel
        by_cases hiz : (i : Int) ≤ z
        · have hdz : decide ((i : Int) ≤ z) = true := decide_eq_true hiz
          go_wp2_with (go_at_call 13; (with_reducible refine (damperlaw12_within.calls a2 3 z _ hwz.out).mono ?_); rintro e w6 ⟨rfl, hdr⟩; have hd6 := Lib.hid hdr.below; clear hdr)
          have HB6 := Lib.hid (HB.out.below hd6.out)
          have B6 := Lib.hid (below_step BB.out hd6.out)
          clear HB BB hd6
          refine (rrev_calls nmA nmA_valid k (by omega) (by omega) _).mono ?_
          rintro e w7 ⟨rfl, hb7⟩
          have HB7 := Lib.hid (HB6.out.below hb7)
          have B7 := Lib.hid (below_step B6.out hb7)
          clear hb7 HB6 B6
          obtain ⟨s, hs, hsg⟩ := HS.out.has k hk0 hk1
          have hsz := revN_size nmA (by decide) k (by omega) (by omega)
          have hpc := prove_calls HB7.out HL.out (revN nmA k) (by omega)
          have hfg := find_gen HS.out.all HL.out hk0 hs hsg
          rw [show revN cfgA.nm k = revN nmA k from rfl] at hfg
          rw [hfg] at hpc
          have HPC := Lib.hid hpc
          clear hpc hfg hs hsg hsz
          go_wp2_with fail
          with_reducible refine HPC.out.mono ?_
          rintro e w8 ⟨rfl, hB8, hc8⟩
          have HB8 := Lib.hid hB8
          have HL8 := Lib.hid (HL.out.prove (revN nmA k).data.toList)
          have HS8 := Lib.hid (HS.out.prove HL.out hk0 (fun g => by
            rcases HBs.out with ⟨_, rfl⟩ | ⟨_, rfl⟩ <;> simp))
          have B8 := Lib.hid (hc8.below_of B7.out B7.out.size (fun k hk e => by omega))
          generalize proveL L (revN nmA k).data.toList = L8 at HB8 HL8 HS8
          clear hB8 hc8 HPC HB7 B7 HL HS
          have h00 : ((0 : Int) != 0) = false := rfl
          go_wp2_with fail
          go_roundw
          case rel => exact ⟨i + 1, L8, _, by omega, by go_num, HB8, HL8, HS8, Lib.hid (.inr ⟨by omega, rfl⟩), B8⟩
          case measure => simp [vI]; omega
        · have hdz : decide ((i : Int) ≤ z) = false := decide_eq_false hiz
          have HSk := Lib.hid (show SeqA L j (fun g => decide (g = k)) from by
            rcases HBs.out with ⟨h, _⟩ | ⟨_, h⟩
            · omega
            · rw [← h]; exact HS.out)
          clear HS HBs
          go_wp2_with (go_at_call 13; (with_reducible refine (damperlaw12_within.calls a2 3 z _ hwz.out).mono ?_); rintro e w6 ⟨rfl, hdr⟩; have hd6 := Lib.hid hdr.below; clear hdr)
          have HB6 := Lib.hid (HB.out.below hd6.out)
          have B6 := Lib.hid (below_step BB.out hd6.out)
          clear HB BB hd6
          go_loopw [13] (fun v13 wr => ∃ (t : Nat), t ≤ j ∧ v13 = .int .i64 ((t : Int) + 1) ∧ Hid (BookAt wr p b1 b2 L) ∧ Hid (Below w.heap.size w wr)) (fun v13 _ => j + 1 - (vI v13).toNat)
          case atStart => exact ⟨0, by omega, rfl, HB6, B6⟩
          case round =>
            clear HB6 B6
            obtain ⟨t, ht, rfl, HB, BB⟩ := hrel
            by_cases hlt : t < j
            · have hle : decide ((t : Int) + 1 ≤ (j : Int)) = true := decide_eq_true (by omega)
              obtain ⟨g, hg⟩ : ∃ g, g = (t : Int) + 1 := ⟨_, rfl⟩
              have hg0 : 1 ≤ g := by omega
              have hg9 : g ≤ j := by omega
              have HGE := Lib.hid hg
              rw [← hg] at hle ⊢
              clear hg
              go_wp2_with fail
              refine (rrev_calls nmA nmA_valid g (by omega) (by omega) _).mono ?_
              rintro e w7 ⟨rfl, hb7⟩
              have HB7 := Lib.hid (HB.out.below hb7)
              have B7 := Lib.hid (below_step BB.out hb7)
              clear hb7 HB BB
              obtain ⟨s, hs, hsg⟩ := HSk.out.has g hg0 hg9
              have hsz := revN_size nmA (by decide) g (by omega) (by omega)
              have hpc := proved_calls HB7.out (revN nmA g) (by omega)
              have hpv : provedL L (revN nmA g).data.toList = decide (g = k) := by
                have h1 := provedL_mem HL.out hs
                have h2 : s.key = (revN nmA g).data.toList := by
                  show (revN s.c.nm s.g).data.toList = _
                  rw [HSk.out.all s hs, hsg]
                  rfl
                rw [h2] at h1
                rw [h1, (HSk.out.each s hs).2.2, hsg]
              rw [hpv] at hpc
              have HPC := Lib.hid hpc
              clear hpc hpv hs hsg hsz
              by_cases hgk : g = k
              · have hq : (g == k) = true := by simp [hgk]
                have hq2 : decide (g = k) = true := decide_eq_true hgk
                rw [hq2] at HPC
                clear hgk hq2
                go_wp2_with (go_at_call 20; (with_reducible refine HPC.out.mono ?_); rintro e w8 ⟨rfl, hw8⟩; rw [hw8])
                go_roundw
                case rel => exact ⟨t + 1, by omega, by rw [HGE.out]; go_num, HB7, B7⟩
                case measure => simp [vI]; have := HGE.out; omega
              · have hq : (g == k) = false := by simpa using hgk
                have hq2 : decide (g = k) = false := decide_eq_false hgk
                rw [hq2] at HPC
                go_wp2_with (go_at_call 20; (with_reducible refine HPC.out.mono ?_); rintro e w8 ⟨rfl, hw8⟩; rw [hw8])
                go_roundw
                case rel => exact ⟨t + 1, by omega, by rw [HGE.out]; go_num, HB7, B7⟩
                case measure => simp [vI]; have := HGE.out; omega
            · have hle : decide ((t : Int) + 1 ≤ (j : Int)) = false := decide_eq_false (by omega)
              go_wp2_with fail
              with_reducible refine (all_calls HB.out HL.out).mono ?_
              rintro e w8 ⟨v, rfl, r8, hb8⟩
              obtain ⟨A8, c8, hv8, _, _⟩ := RowG.toS r8
              subst hv8
              have HB8 := Lib.hid (HB.out.below hb8)
              have B8 := Lib.hid (below_step BB.out hb8)
              have hnl : ((L.map RevM.key).mergeSort leS).length = j := by rw [List.length_mergeSort, List.length_map]; exact HSk.out.len
              rw [hnl]
              have hpc := proved_calls HB8.out ⟨#[97, 45, 57, 57]⟩ (by decide)
              have hpv : provedL L (⟨#[97, 45, 57, 57]⟩ : ByteArray).data.toList = false := by
                rw [Bool.eq_false_iff]
                intro h
                obtain ⟨s, hs, h2⟩ := List.any_eq_true.1 h
                simp only [Bool.and_eq_true, beq_iff_eq] at h2
                have h3 := HSk.out.each s hs
                have h4 := h2.1
                have h6 : (⟨#[97, 45, 57, 57]⟩ : ByteArray).data.toList = (revN nmA 99).data.toList := by rw [revA99]
                have h4 : s.key = (revN nmA 99).data.toList := h4.trans h6
                have h5 := (revN_inj (by omega) (by omega) (show (revN s.c.nm s.g).data.toList = _ from h4)).2
                omega
              rw [hpv] at hpc
              have HPC := Lib.hid hpc
              clear hpc hpv hnl r8 hb8
              go_wp2_with (go_at_call 20; (with_reducible refine HPC.out.mono ?_); rintro e w9 ⟨rfl, hw9⟩; rw [hw9])
              go_ret
              exact ⟨rfl, B8.out⟩

end Go.Proofs.YtmiojmnifnnncaaDoor.PA
