/- stamp's Book: the latest. (Printed by genx.py from slatest.src.) -/
import Derived.Test.YtnkmpkhiilnigaaGreatDoorSBookB
set_option linter.unusedSimpArgs false
set_option linter.unusedVariables false
namespace Go.Proofs.YtnkmpkhiilnigaaGreatDoor.PB
open Go.RowKit Go.Shelf Go.Lib Go.Sort Go.Maps Go.Proofs.YtnkmpkhiilnigaaGreatDoorW.PrintWords Go.Proofs.YtnkmpkhiilnigaaGreatDoorW.PrintLast

/-- Which are asked. -/
def askR (cfg : ByteArray) (B : List UInt8 → Bool) (r : RevM) : Bool := (r.c.nm.toList == cfg.toList) && B r.key
/-- The one with the greatest number. -/
def bestR (p : RevM → Bool) : List RevM → Option RevM
  | [] => none
  | r :: t => match bestR p t with
    | none => if p r then some r else none
    | some b => if p r && decide (b.g < r.g) then some r else some b
theorem bestR_in {p : RevM → Bool} : ∀ {L : List RevM} {b : RevM}, bestR p L = some b → b ∈ L ∧ p b = true
  | [], b, h => by cases h
  | r :: t, b, h => by
    unfold bestR at h
    cases e : bestR p t with
    | none =>
      rw [e] at h
      by_cases hp : p r = true
      · simp only [hp, if_true] at h
        cases h
        exact ⟨List.mem_cons_self .., hp⟩
      · simp only [hp] at h
        cases h
    | some b' =>
      rw [e] at h
      by_cases hp : (p r && decide (b'.g < r.g)) = true
      · simp only [hp, if_true] at h
        cases h
        simp only [Bool.and_eq_true] at hp
        exact ⟨List.mem_cons_self .., hp.1⟩
      · simp only [hp] at h
        cases h
        obtain ⟨h1, h2⟩ := bestR_in e
        exact ⟨List.mem_cons_of_mem _ h1, h2⟩
theorem bestR_ge {p : RevM → Bool} : ∀ {L : List RevM} {r : RevM}, r ∈ L → p r = true → ∃ b, bestR p L = some b ∧ r.g ≤ b.g
  | z :: t, r, hr, hp => by
    unfold bestR
    rcases List.mem_cons.1 hr with rfl | hr'
    · cases e : bestR p t with
      | none => simp only [hp, if_true]; exact ⟨_, rfl, Int.le_refl _⟩
      | some b =>
        by_cases hc : b.g < r.g
        · simp only [hp, hc, decide_true, Bool.and_self, if_true]; exact ⟨_, rfl, Int.le_refl _⟩
        · simp only [hp, hc, decide_false, Bool.and_false]; exact ⟨_, rfl, by omega⟩
    · obtain ⟨b, hb, hg⟩ := bestR_ge hr' hp
      rw [hb]
      by_cases hc : (p z && decide (b.g < z.g)) = true
      · simp only [hc, if_true]
        simp only [Bool.and_eq_true, decide_eq_true_eq] at hc
        exact ⟨_, rfl, by omega⟩
      · simp only [hc]
        exact ⟨_, rfl, hg⟩
def latestN (L : List RevM) (cfg : ByteArray) (B : List UInt8 → Bool) : ByteArray := match bestR (askR cfg B) L with | none => ⟨#[]⟩ | some b => b.nm

/-- What the loop has found among the names that it has seen. -/
def BestIs (L : List RevM) (p : RevM → Bool) (ss : List (List UInt8)) (n : ByteArray) (g : Int) : Prop :=
  (n = ⟨#[]⟩ ∧ g = 0 ∧ ∀ r ∈ L, r.key ∈ ss → p r = false) ∨ ∃ b ∈ L, p b = true ∧ n = b.nm ∧ g = b.g ∧ ∀ r ∈ L, r.key ∈ ss → p r = true → r.g ≤ b.g
theorem BestIs.done {L : List RevM} {cfg : ByteArray} {B : List UInt8 → Bool} {ss : List (List UInt8)} {n : ByteArray} {g : Int} (h : BestIs L (askR cfg B) ss n g) (hs : ∀ r ∈ L, r.key ∈ ss) : n = latestN L cfg B := by
  unfold latestN
  rcases h with ⟨rfl, _, h⟩ | ⟨b, hb, hp, rfl, _, h⟩
  · cases e : bestR (askR cfg B) L with
    | none => rfl
    | some b =>
      obtain ⟨h1, h2⟩ := bestR_in e
      rw [h b h1 (hs b h1)] at h2
      cases h2
  · obtain ⟨b', e, hg⟩ := bestR_ge hb hp
    obtain ⟨h1, h2⟩ := bestR_in e
    rw [e]
    have hg' := h b' h1 (hs b' h1) h2
    have hc : ∀ r : RevM, askR cfg B r = true → r.c.nm.data.toList = cfg.data.toList := fun r hr => by
      unfold askR at hr
      simp only [Bool.and_eq_true, beq_iff_eq] at hr
      have := hr.1
      rwa [ByteArray.toList_eq, ByteArray.toList_eq] at this
    have e1 : b.c.nm = b'.c.nm := ba_ext ((hc b hp).trans (hc b' h2).symm)
    have e2 : b.g = b'.g := by omega
    show revN b.c.nm b.g = revN b'.c.nm b'.g
    rw [e1, e2]
theorem BestIs.start (L : List RevM) (p : RevM → Bool) : BestIs L p [] ⟨#[]⟩ 0 := .inl ⟨rfl, rfl, fun r _ h => by simp at h⟩
theorem BestIs.skip {L : List RevM} {p : RevM → Bool} {ss : List (List UInt8)} {n : ByteArray} {g : Int} (h : BestIs L p ss n g) (hL : OkL L) {r : RevM} (hr : r ∈ L) (hn : p r = true → r.g ≤ g) : BestIs L p (ss ++ [r.key]) n g := by
  have hu : ∀ s ∈ L, s.key = r.key → s = r := fun s hs e => by
    have h1 := findR_mem hL.nodup hs
    have h2 := findR_mem hL.nodup hr
    rw [e, h2] at h1
    exact (Option.some.inj h1).symm
  rcases h with ⟨rfl, rfl, h⟩ | ⟨b, hb, hp, rfl, rfl, h⟩
  · refine .inl ⟨rfl, rfl, fun s hs hk => ?_⟩
    rcases List.mem_append.1 hk with hk | hk
    · exact h s hs hk
    · rw [hu s hs (List.mem_singleton.1 hk)]
      cases e : p r with
      | false => rfl
      | true => have := hn e; have := (hL.each r hr).2.1; omega
  · refine .inr ⟨b, hb, hp, rfl, rfl, fun s hs hk hps => ?_⟩
    rcases List.mem_append.1 hk with hk | hk
    · exact h s hs hk hps
    · rw [hu s hs (List.mem_singleton.1 hk)] at hps ⊢
      exact hn hps
theorem BestIs.take {L : List RevM} {p : RevM → Bool} {ss : List (List UInt8)} {n : ByteArray} {g : Int} (h : BestIs L p ss n g) (hL : OkL L) {r : RevM} (hr : r ∈ L) (hp : p r = true) (hg : g < r.g) : BestIs L p (ss ++ [r.key]) r.nm r.g := by
  have hu : ∀ s ∈ L, s.key = r.key → s = r := fun s hs e => by
    have h1 := findR_mem hL.nodup hs
    have h2 := findR_mem hL.nodup hr
    rw [e, h2] at h1
    exact (Option.some.inj h1).symm
  refine .inr ⟨r, hr, hp, rfl, rfl, fun s hs hk hps => ?_⟩
  rcases List.mem_append.1 hk with hk | hk
  · rcases h with ⟨_, _, h⟩ | ⟨b, _, _, _, e, h⟩
    · rw [h s hs hk] at hps; cases hps
    · have := h s hs hk hps; omega
  · rw [hu s hs (List.mem_singleton.1 hk)]
    exact Int.le_refl _

theorem always_calls (s : ByteArray) (w : World) : Calls Tryz.prog 59 #[.string s] w fun e w' => e = .returned (.bool true) ∧ w' = w := by
  go_enter Tryz.func59, Tryz.ntmps59
  go_wp2_with fail
  go_ret
  exact ⟨rfl, rfl⟩

/-- A cell of a row of names. -/
theorem str_cell {w : World} {base : Nat} {v : Value} {N : List (List UInt8)} (h : RowG elS w base v N) {i : Nat} (hi : i < N.length) {nm : ByteArray} (hn : N[i] = nm.data.toList) : ∃ g c, v = .slice (some ⟨g, 0, none⟩) N.length c ∧ w.cell? ⟨g, i, none⟩ = some (.string nm) := by
  obtain ⟨g, c, e, _, _, _, _, hcs⟩ := h.cells (by omega)
  refine ⟨g, c, e, ?_⟩
  have h1 := hcs i hi 0 (by decide)
  rw [show elS.size = 1 from rfl, Nat.mul_one, Nat.add_zero] at h1
  rw [h1, hn]
  rfl

set_option maxRecDepth 100000 in
set_option maxHeartbeats 4000000 in
theorem latest_calls {w : World} {p b1 b2 : Nat} {L : List RevM} (h : BookAt w p b1 b2 L) (hL : OkL L) (cfg : ByteArray) (F : Value) (B : List UInt8 → Bool)
    (hF : (F = .func (.func 59) #[] #[] ∧ ∀ x, B x = true) ∨ (F = .func (.func 43) #[.pointer (some ⟨p, 0, none⟩)] #[] ∧ ∀ x, B x = provedL L x)) :
    Calls Tryz.prog 58 #[.pointer (some ⟨p, 0, none⟩), .string cfg, F] w fun e w' => e = .returned (.string (latestN L cfg B)) ∧ Below w.heap.size w w' := by
  have hlen := hL.len
  obtain ⟨W1, hW1⟩ : ∃ W1, W1 = w.alloc (.cells #[.string ⟨#[]⟩, .int .i64 0, .string ⟨#[]⟩, .int .i64 0, .int .i64 0, .int .i64 0, .int .i64 0, .int .i64 0] 88) := ⟨_, rfl⟩
  have bW1 : Below w.heap.size w W1 := by rw [hW1]; exact (Below.refl _ _).alloc (Nat.le_refl _) _
  have k1 : Blk W1 w.heap.size #[.string ⟨#[]⟩, .int .i64 0, .string ⟨#[]⟩, .int .i64 0, .int .i64 0, .int .i64 0, .int .i64 0, .int .i64 0] 88 := by rw [hW1]; exact Blk.new _ _ _
  have hB := h.below bW1
  have c0 := hB.blk.cell 0
  simp only [List.getElem?_toArray, List.getElem?_cons_zero] at c0
  have H := Lib.hid h
  have HOL := Lib.hid hL
  have HF := Lib.hid hF
  have HW1 := Lib.hid hW1
  have BW1 := Lib.hid bW1
  have K1 := Lib.hid k1
  have hplt := h.lt
  obtain ⟨_, _, ⟨S, f, a1, a2, _⟩, _⟩ := hB
  have hp : S.Perm (L.map RevM.key) := (List.perm_ext_iff_of_nodup a1.nodup hL.nodup).2 (fun x => by rw [a2, List.mem_map])
  have hSl : S.length ≤ 1000 := by rw [hp.length_eq, List.length_map]; exact hlen
  obtain ⟨N, hN⟩ : ∃ N, N = (L.map RevM.key).mergeSort leS := ⟨_, rfl⟩
  have HS := Lib.hid ((sort_perm hp).trans hN.symm)
  have hll : N.length ≤ 1000 := by rw [hN, List.length_mergeSort, List.length_map]; exact hlen
  have HMem := Lib.hid (show ∀ x, x ∈ N ↔ x ∈ L.map RevM.key from fun x => by rw [hN]; exact (List.mergeSort_perm _ _).mem_iff)
  have A1 := Lib.hid a1
  obtain ⟨res, hres⟩ : ∃ res, res = latestN L cfg B := ⟨_, rfl⟩
  have HRES := Lib.hid hres
  rw [← hres]
  clear a1 a2 hN hp hW1 bW1 k1 h hL hF hres
  go_enter Tryz.func58, Tryz.ntmps58
  go_upto_region 2 with fail
  rw [← HW1.out]
  clear HW1
  go_wp2_with fail
  refine (names_calls W1 A1.out (by omega)).mono ?_
  rintro e w2 ⟨v, rfl, r1, hb1⟩
  rw [HS.out] at r1
  have R1 := Lib.hid r1
  have K2 := Lib.hid (K1.out.below hb1 K1.out.lt)
  have B2 := Lib.hid (below_step BW1.out hb1)
  have zW1 : w.heap.size < W1.heap.size := K1.out.lt
  obtain ⟨A, c, hv, _, _⟩ := RowG.toS R1.out
  subst hv
  clear r1 hb1 K1 BW1 c0 A1 HS
  go_wp2_with fail
  go_loopw [18] (fun v18 wr => ∃ (i : Nat) (bn : ByteArray) (bg : Int) (bc : CfgM), i ≤ N.length ∧ v18 = .int .i64 i ∧ Hid (BestIs L (askR cfg B) (N.take i) bn bg) ∧ Hid (Blk wr w.heap.size (cellsR bn bg bc) 88) ∧ Hid (RowG elS wr W1.heap.size (.slice A N.length c) N) ∧ Hid (Below w.heap.size w wr)) (fun v18 _ => N.length - (vI v18).toNat)
  case atStart => exact ⟨0, ⟨#[]⟩, 0, zeroC, by omega, rfl, Lib.hid (by rw [List.take_zero]; exact BestIs.start _ _), K2, R1, B2⟩
  case round =>
    clear K2 R1 B2
    obtain ⟨i, bn, bg, bc, hi, rfl, BI, KB, RR, BB⟩ := hrel
    have hzw : w.heap.size < wr.heap.size := KB.out.lt
    by_cases hlt : i < N.length
    · have hlt' : (i : Int) < (N.length : Int) := by omega
      obtain ⟨r, hr, hk⟩ := List.mem_map.1 ((HMem.out _).1 (List.getElem_mem hlt))
      obtain ⟨g, c', e, hc0⟩ := str_cell RR.out hlt (nm := r.nm) hk.symm
      cases e
      have hrv := HOL.out.each r hr
      have hsz : r.nm.size ≤ 100 := revN_size r.c.nm hrv.1.hi r.g (by omega) hrv.2.2
      have HBk := H.out.below BB.out
      have d0 := HBk.blk.cell 0
      simp only [List.getElem?_toArray, List.getElem?_cons_zero] at d0
      have hlk := HBk.look r.nm (by omega)
      rw [show r.nm.data.toList = r.key from rfl, findR_mem HOL.out.nodup hr] at hlk
      simp only [encR, cellsR] at hlk
      have HBK := Lib.hid HBk
      have HTK := Lib.hid (show N.take (i + 1) = N.take i ++ [r.key] from by rw [List.take_succ_eq_append_getElem hlt, hk])
      have HR := Lib.hid hr
      have hpv := Lib.hid (HBk.lookp r.nm (by omega))
      clear hk HBk hrv hr
      obtain ⟨Wa, hWa⟩ : ∃ Wa, Wa = wr.alloc (.cells #[.string r.nm, .int .i64 r.g, .string r.c.nm, .int .i64 r.c.img, .int .i64 r.c.conc, .int .i64 r.c.mn, .int .i64 r.c.mx, .int .i64 r.c.grc] 88) := ⟨_, rfl⟩
      have bWa : Below wr.heap.size wr Wa := by rw [hWa]; exact (Below.refl _ _).alloc (Nat.le_refl _) _
      have kr : Blk Wa wr.heap.size #[.string r.nm, .int .i64 r.g, .string r.c.nm, .int .i64 r.c.img, .int .i64 r.c.conc, .int .i64 r.c.mn, .int .i64 r.c.mx, .int .i64 r.c.grc] 88 := by rw [hWa]; exact Blk.new _ _ _
      have HWa := Lib.hid hWa
      have KR := Lib.hid kr
      have BWa := Lib.hid bWa
      have KBa := Lib.hid (KB.out.below bWa KB.out.lt)
      have RRa := Lib.hid (RowG.below RR.out bWa (Nat.le_refl _))
      have BBa := Lib.hid (below_step BB.out bWa)
      have HBa := Lib.hid (HBK.out.below bWa)
      clear hWa kr bWa
      go_upto_region 6 with fail
      rw [← HWa.out]
      clear HWa hlk hc0 d0 KB RR BB hpv HBK
      obtain ⟨q0, q1, q2, q3, q4, q5, q6, q7⟩ := Blk.cells8 KR.out
      have hkb := KBa.out
      unfold cellsR at hkb
      obtain ⟨s0, s1, s2, s3, s4, s5, s6, s7⟩ := Blk.cells8 hkb
      have HKB := Lib.hid hkb
      have hzr : wr.heap.size < Wa.heap.size := KR.out.lt
      clear hkb
      by_cases hc : r.c.nm.toList = cfg.toList
      · have g1 : (r.c.nm.toList == cfg.toList) = true := by simpa using hc
        have g1' : (cfg.toList == cfg.toList) = true := by simp
        by_cases hg : bg < r.g
        · have g2 : decide (bg < r.g) = true := decide_eq_true hg
          obtain ⟨f0, f1, f2, f3, f4, f5, f6, f7⟩ := Blk.frozen8 HKB.out
          rcases HF.out with ⟨hFe, hB⟩ | ⟨hFe, hB⟩
          · have hbv : B r.key = true := hB _
            have hp : askR cfg B r = true := by unfold askR; rw [g1, hbv]; rfl
            clear HF hB
            subst hFe
            go_wp2_with (go_at_call 59; refine (always_calls r.nm _).mono ?_; rintro e w' ⟨rfl, hw'⟩; rw [hw'])
            have k9 := Blk.set8 HKB.out (.string r.nm) (.int .i64 r.g) (.string r.c.nm) (.int .i64 r.c.img) (.int .i64 r.c.conc) (.int .i64 r.c.mn) (.int .i64 r.c.mx) (.int .i64 r.c.grc)
            have c9 := Chg.set8 Wa w.heap.size (.string r.nm) (.int .i64 r.g) (.string r.c.nm) (.int .i64 r.c.img) (.int .i64 r.c.conc) (.int .i64 r.c.mn) (.int .i64 r.c.mx) (.int .i64 r.c.grc)
            go_roundw
            case rel => exact ⟨i + 1, r.nm, r.g, r.c, by omega, by go_num, Lib.hid (by rw [HTK.out]; exact BI.out.take HOL.out HR.out hp hg), Lib.hid k9, Lib.hid (RowG.moved RRa.out (fun k hk hk' => c9.block k hk' (by omega))), Lib.hid (c9.below_of BBa.out BBa.out.size (fun k hk e => by omega))⟩
            case measure => simp [vI]; omega
          · have hpc := proved_calls HBa.out r.nm (by omega)
            rw [show provedL L r.nm.data.toList = B r.key from (hB _).symm] at hpc
            have HPC := Lib.hid hpc
            clear HF hB hpc
            subst hFe
            cases hbv : B r.key with
            | true =>
              have hp : askR cfg B r = true := by unfold askR; rw [g1, hbv]; rfl
              rw [hbv] at HPC
              go_wp2_with (go_at_call 43; refine HPC.out.mono ?_; rintro e w' ⟨rfl, hw'⟩; rw [hw'])
              have k9 := Blk.set8 HKB.out (.string r.nm) (.int .i64 r.g) (.string r.c.nm) (.int .i64 r.c.img) (.int .i64 r.c.conc) (.int .i64 r.c.mn) (.int .i64 r.c.mx) (.int .i64 r.c.grc)
              have c9 := Chg.set8 Wa w.heap.size (.string r.nm) (.int .i64 r.g) (.string r.c.nm) (.int .i64 r.c.img) (.int .i64 r.c.conc) (.int .i64 r.c.mn) (.int .i64 r.c.mx) (.int .i64 r.c.grc)
              go_roundw
              case rel => exact ⟨i + 1, r.nm, r.g, r.c, by omega, by go_num, Lib.hid (by rw [HTK.out]; exact BI.out.take HOL.out HR.out hp hg), Lib.hid k9, Lib.hid (RowG.moved RRa.out (fun k hk hk' => c9.block k hk' (by omega))), Lib.hid (c9.below_of BBa.out BBa.out.size (fun k hk e => by omega))⟩
              case measure => simp [vI]; omega
            | false =>
              rw [hbv] at HPC
              go_wp2_with (go_at_call 43; refine HPC.out.mono ?_; rintro e w' ⟨rfl, hw'⟩; rw [hw'])
              go_roundw
              case rel => exact ⟨i + 1, bn, bg, bc, by omega, by go_num, Lib.hid (by rw [HTK.out]; exact BI.out.skip HOL.out HR.out (fun hp => by unfold askR at hp; rw [hbv, Bool.and_false] at hp; cases hp)), KBa, RRa, BBa⟩
              case measure => simp [vI]; omega
        · have g2 : decide (bg < r.g) = false := decide_eq_false hg
          go_wp2_with fail
          go_roundw
          case rel => exact ⟨i + 1, bn, bg, bc, by omega, by go_num, Lib.hid (by rw [HTK.out]; exact BI.out.skip HOL.out HR.out (fun _ => by omega)), KBa, RRa, BBa⟩
          case measure => simp [vI]; omega
      · have g1 : (r.c.nm.toList == cfg.toList) = false := by simpa using hc
        go_wp2_with fail
        go_roundw
        case rel => exact ⟨i + 1, bn, bg, bc, by omega, by go_num, Lib.hid (by rw [HTK.out]; exact BI.out.skip HOL.out HR.out (fun hp => by unfold askR at hp; rw [g1] at hp; cases hp)), KBa, RRa, BBa⟩
        case measure => simp [vI]; omega
    · obtain rfl : i = N.length := by omega
      have hkb := KB.out
      unfold cellsR at hkb
      obtain ⟨s0, s1, s2, s3, s4, s5, s6, s7⟩ := Blk.cells8 hkb
      rw [List.take_length] at BI
      have hn := Lib.hid (BI.out.done (fun r hr => (HMem.out _).2 (List.mem_map.2 ⟨r, hr, rfl⟩)))
      clear hkb
      go_wp2_with fail
      go_ret
      have hE : bn = res := by rw [HRES.out, ← hn.out]
      exact ⟨congrArg (fun x => Ending.returned (Value.string x)) hE, BB.out⟩

theorem both_calls {w : World} {p b1 b2 : Nat} {L : List RevM} (h : BookAt w p b1 b2 L) (hL : OkL L) (cfg : ByteArray) :
    Calls Tryz.prog 41 #[.pointer (some ⟨p, 0, none⟩), .string cfg] w fun e w' => e = .returned (.tuple #[.string (latestN L cfg (fun _ => true)), .string (latestN L cfg (provedL L))]) ∧ Below w.heap.size w w' := by
  have H := Lib.hid h
  have HL := Lib.hid hL
  clear h hL
  have hmf : ∀ (fn : Fn) (first cap : Array Value) (w : World), (Instr.makeFunc fn first cap).run Tryz.prog w = .ok (.func fn first cap) w := fun _ _ _ _ => rfl
  go_enter Tryz.func41, Tryz.ntmps41
  go_wp2_with fail
  refine (latest_calls H.out HL.out cfg _ (fun _ => true) (.inl ⟨rfl, fun _ => rfl⟩)).mono ?_
  rintro e w1 ⟨rfl, hb1⟩
  have HB1 := Lib.hid hb1
  clear hb1
  go_wp2_with fail
  refine (latest_calls (H.out.below HB1.out) HL.out cfg _ (provedL L) (.inr ⟨rfl, fun _ => rfl⟩)).mono ?_
  rintro e w2 ⟨rfl, hb2⟩
  have HB2 := Lib.hid (below_step HB1.out hb2)
  clear hb2
  go_wp2_with fail
  exact bodyPost_ret (v := .tuple #[.string (latestN L cfg (fun _ => true)), .string (latestN L cfg (provedL L))]) (by simp [results, Tryz.results41, go_sem]) rfl ⟨rfl, HB2.out⟩

/-- Get, at a name that is there; that is not. -/
theorem get_some {w : World} {p b1 b2 : Nat} {L : List RevM} (h : BookAt w p b1 b2 L) (s : ByteArray) (hs : s.size ≤ 1000) {r : RevM} (hf : findR L s.data.toList = some r) {n nm : ByteArray} {g x1 x2 x3 x4 x5 : Int} (hE : encR r = .agg #[.string n, .int .i64 g, .string nm, .int .i64 x1, .int .i64 x2, .int .i64 x3, .int .i64 x4, .int .i64 x5]) :
    Calls Tryz.prog 42 #[.pointer (some ⟨p, 0, none⟩), .string s] w fun e w' => e = .returned (.tuple #[.agg #[.string n, .int .i64 g, .string nm, .int .i64 x1, .int .i64 x2, .int .i64 x3, .int .i64 x4, .int .i64 x5], .bool true]) ∧ Below w.heap.size w w' := by
  have hg := get_calls h s hs
  rw [hf] at hg
  simp only [hE, Option.isSome_some] at hg
  exact hg
theorem get_none {w : World} {p b1 b2 : Nat} {L : List RevM} (h : BookAt w p b1 b2 L) (s : ByteArray) (hs : s.size ≤ 1000) (hf : findR L s.data.toList = none) :
    Calls Tryz.prog 42 #[.pointer (some ⟨p, 0, none⟩), .string s] w fun e w' => e = .returned (.tuple #[.agg #[.string ⟨#[]⟩, .int .i64 0, .string ⟨#[]⟩, .int .i64 0, .int .i64 0, .int .i64 0, .int .i64 0, .int .i64 0], .bool false]) ∧ Below w.heap.size w w' := by
  have hg := get_calls h s hs
  rw [hf] at hg
  exact hg

end Go.Proofs.YtnkmpkhiilnigaaGreatDoor.PB
