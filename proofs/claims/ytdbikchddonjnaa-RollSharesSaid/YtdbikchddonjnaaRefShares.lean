/- The document's Shares: the walk. (Printed by genx.py from refshares.src.) -/
import Derived.Test.YtdbikchddonjnaaRefPut
import Derived.OwnWalk
import Derived.BigQuiet
import Derived.IntWalk
namespace Go.Proofs.Ytdbikchddonjnaa.PA
open Go.RowKit Go.Shelf Go.Lib Go.Sort Go.Proofs.YtdbikchddonjnaaW.PrintWords Go.Proofs.YtdbikchddonjnaaW.PrintLast

theorem ins_rising {s : List UInt8} {l : List (List UInt8)} (h : Rising l) : Rising (insS s l) ∧ ∀ x, x ∈ insS s l ↔ x = s ∨ x ∈ l := by
  induction l with
  | nil => exact ⟨by simp [insS, Rising], fun x => by simp [insS]⟩
  | cons y t ih =>
    obtain ⟨hy, ht⟩ := List.pairwise_cons.1 h
    obtain ⟨i1, i2⟩ := ih ht
    by_cases hlt : y < s
    · have e : insS s (y :: t) = y :: insS s t := by
        unfold insS
        rw [List.takeWhile_cons, List.dropWhile_cons, bytesLess_eq, decide_eq_true hlt]
        simp
      rw [e]
      refine ⟨List.pairwise_cons.2 ⟨fun z hz => ?_, i1⟩, fun x => ?_⟩
      · rcases (i2 z).1 hz with rfl | hz
        · exact hlt
        · exact hy z hz
      · rw [List.mem_cons, i2, List.mem_cons]
        constructor
        · rintro (h | h | h)
          · exact .inr (.inl h)
          · exact .inl h
          · exact .inr (.inr h)
        · rintro (h | h | h)
          · exact .inr (.inl h)
          · exact .inl h
          · exact .inr (.inr h)
    · have hge : s ≤ y := List.not_lt.1 hlt
      by_cases he : y = s
      · have e : insS s (y :: t) = y :: t := by
          unfold insS
          rw [List.takeWhile_cons, List.dropWhile_cons, bytesLess_eq, decide_eq_false hlt]
          simp [he]
        rw [e]
        exact ⟨h, fun x => by rw [List.mem_cons, he]; constructor; exact fun h => .inr h; rintro (h | h); exact .inl h; exact h⟩
      · have e : insS s (y :: t) = s :: y :: t := by
          unfold insS
          rw [List.takeWhile_cons, List.dropWhile_cons, bytesLess_eq, decide_eq_false hlt]
          simp [he]
        rw [e]
        have hsy : s < y := List.not_le.1 (fun h' => he (List.le_antisymm h' hge))
        refine ⟨List.pairwise_cons.2 ⟨fun z hz => ?_, h⟩, fun x => by rw [List.mem_cons]⟩
        rcases List.mem_cons.1 hz with rfl | hz
        · exact hsy
        · exact List.lt_trans hsy (hy z hz)

theorem rcell_lt {w : World} {p : Addr} {v : Value} (h : w.cell? p = some v) : p.block < w.heap.size := by
  unfold World.cell? at h
  cases e : w.heap[p.block]? with
  | none => rw [e] at h; simp at h
  | some o => exact (Array.getElem?_eq_some_iff.1 e).1

/-- Names, one put behind the other. -/
def putAll_ (L : List (List UInt8)) (l : List S39) : List (List UInt8) := l.foldl (fun L s => insS s.f0.toList L) L
theorem putAll_rising : ∀ (l : List S39) (L : List (List UInt8)), Rising L → Rising (putAll_ L l) ∧ ∀ x, x ∈ putAll_ L l ↔ x ∈ L ∨ x ∈ keys l
  | [], L, h => ⟨h, fun x => by simp [putAll_, keys]⟩
  | s :: t, L, h => by
    obtain ⟨h1, h2⟩ := ins_rising (s := s.f0.toList) h
    obtain ⟨h3, h4⟩ := putAll_rising t _ h1
    refine ⟨h3, fun x => ?_⟩
    show x ∈ putAll_ (insS s.f0.toList L) t ↔ _
    rw [h4, h2]
    simp only [keys, List.map_cons, List.mem_cons]
    constructor
    · rintro ((h | h) | h)
      · exact .inr (.inl h)
      · exact .inl h
      · exact .inr (.inr h)
    · rintro (h | h | h)
      · exact .inl (.inr h)
      · exact .inl (.inl h)
      · exact .inr h
theorem ref_names (l0 l1 : List S39) : putAll_ (putAll_ [] l0) l1 = namesOf (l0 ++ l1) := by
  obtain ⟨h1, h2⟩ := putAll_rising l0 [] (by simp [Rising])
  obtain ⟨h3, h4⟩ := putAll_rising l1 _ h1
  refine rising_same h3 (names_rising _) (fun x => ?_)
  rw [h4, h2, mem_names]
  unfold keys
  rw [List.map_append, List.mem_append]
  simp
theorem ins_len (s : List UInt8) (l : List (List UInt8)) : (insS s l).length ≤ l.length + 1 := by
  have h := congrArg List.length (List.takeWhile_append_dropWhile (p := fun x => Op.bytesLess x s) (l := l))
  rw [List.length_append] at h
  unfold insS
  rw [List.length_append]
  split
  · rename_i e; rw [e] at h; simp at h ⊢; omega
  · rename_i x t e
    rw [e] at h
    split <;> simp at h ⊢ <;> omega
theorem putAll_len : ∀ (l : List S39) (L : List (List UInt8)), (putAll_ L l).length ≤ L.length + l.length
  | [], L => by simp [putAll_]
  | s :: t, L => by
    have h := putAll_len t (insS s.f0.toList L)
    have := ins_len s.f0.toList L
    show (putAll_ (insS s.f0.toList L) t).length ≤ _
    rw [List.length_cons]
    omega
theorem putAll_snoc (L : List (List UInt8)) (l : List S39) (i : Nat) (hi : i < l.length) : putAll_ L (l.take (i + 1)) = insS (l.getD i z39).f0.toList (putAll_ L (l.take i)) := by
  unfold putAll_
  rw [List.take_succ_eq_append_getElem hi, List.foldl_append]
  simp [List.getD_eq_getElem?_getD, hi]

theorem refw_qq {l : List S39} (hl : l.length ≤ 1000000) (A : Option Addr) (c : Nat) (r : ByteArray) (w : World) (hC : Kd.C k39 w A l.length l) (hc : l.length ≤ c) :
    Calls Try.prog 20 #[.slice A l.length c, .string r] w fun e w' => e = .returned (.int .i64 (wt l r)) ∧ ∃ n, w' = w.drewN n :=
  (damperref6_Weight.calls (l.length + 1) A c l r (wt l r) w hC hc (refw_f hl r _ (Nat.le_refl _))).mono fun _ _ ⟨h1, h2⟩ => ⟨h1, h2.out⟩

set_option maxRecDepth 100000 in
set_option maxHeartbeats 8000000 in
theorem rshares_way (A0 : Option Addr) (c0 : Nat) (l0 : List S39) (A1 : Option Addr) (c1 : Nat) (l1 : List S39) (gone whole : Int) (w : World) (hr0 : Kd.C k39 w A0 l0.length l0) (hr1 : Kd.C k39 w A1 l1.length l1) (hc0 : l0.length ≤ c0) (hc1 : l1.length ≤ c1)
    (hf0 : Fine l0) (hf1 : Fine l1) (g0 : 0 < gone) (g1 : gone < whole) (hw : whole ≤ 1000000000) (hk0 : l0.length ≤ 400) (hk1 : l1.length ≤ 400) (ns : List (List UInt8)) (hns : ns = putAll_ (putAll_ [] l0) l1) (gs : List Int) (hgs : gs = gains l0 l1 gone whole ns) :
    Calls Try.prog 17 #[.slice A0 l0.length c0, .slice A1 l1.length c1, .int .i64 gone, .int .i64 whole] w fun e w' => ∃ v, e = .returned v ∧ RowG el39 w' w.heap.size v (ns.foldl (stepR l0 l1 gone whole) (gs.sum, [])).2 ∧ Below w.heap.size w w' := by
  have hnl : ns.length ≤ 2000 := by
    have h1 := putAll_len l0 []
    have h2 := putAll_len l1 (putAll_ [] l0)
    rw [hns]
    simp at h1
    omega
  have hgl : gs.length = ns.length := by rw [hgs]; simp [gains]
  have HNS := Lib.hid hns
  have HGS := Lib.hid hgs
  have HGL := Lib.hid hgl
  have HF0 := Lib.hid hf0
  have HF1 := Lib.hid hf1
  have HR0 := Lib.hid hr0
  have HR1 := Lib.hid hr1
  clear hns hgs hgl hf0 hf1 hr0 hr1
  have nl1 : ¬ whole ≤ 0 := by omega
  have nl2 : ¬ whole ≤ gone := by omega
  have nl3 : ¬ gone ≤ 0 := by omega
  have q1 : decide (whole ≤ 0) = false := decide_eq_false nl1
  have q2 : decide (whole ≤ gone) = false := decide_eq_false nl2
  have q3 : decide (gone ≤ 0) = false := decide_eq_false nl3
  obtain ⟨B, hB⟩ : ∃ B, B = w.heap.size := ⟨_, rfl⟩
  have HB := Lib.hid hB
  clear hB
  go_enter Try.func17, Try.ntmps17
  go_wp2_with fail
  go_loopw [9, 10] (fun v9 v10 wr => ∃ (i : Nat), i ≤ l0.length ∧ v10 = .int .i64 i ∧ Hid (RowG elS wr w.heap.size v9 (putAll_ [] (l0.take i))) ∧ Hid (Below w.heap.size w wr)) (fun _ v10 _ => l0.length - (vI v10).toNat)
  case atStart => exact ⟨0, by omega, rfl, Lib.hid (RowG.nil _ _ _), Lib.hid (Below.refl _ _)⟩
  case round =>
    obtain ⟨i, hi, rfl, hrow, hbw⟩ := hrel
    by_cases hlt : i < l0.length
    · have hlt' : (i : Int) < (l0.length : Int) := by omega
      obtain ⟨b, o, rfl, hbl, hcs⟩ := shares_at HR0.out (by omega)
      have hce := (hbw.out.cell (p := ⟨b, o + i * 2, none⟩) hbl).trans (hcs i hlt).1
      have hsn := Lib.hid (putAll_snoc [] l0 i hlt)
      clear hcs
      generalize (l0.getD i z39).f0 = nm at hce hsn
      have hLl := Lib.hid (show (putAll_ [] (l0.take i)).length ≤ 1000 from by have := putAll_len (l0.take i) []; simp at this; omega)
      go_wp2_with fail
      refine (put_calls w.heap.size _ _ nm _ hrow.out hbw.out.size hLl.out).mono ?_
      rintro e w1 ⟨v', rfl, hrow1, hb1⟩
      rw [← hsn.out] at hrow1
      have HRW := Lib.hid hrow1
      have HBW := Lib.hid (below_step hbw.out hb1)
      clear hrow1 hb1 hrow hbw hLl hsn
      go_wp2_with fail
      go_roundw
      case rel => exact ⟨i + 1, by omega, by go_num, HRW, HBW⟩
      case measure => simp [vI]; omega
    · obtain rfl : i = l0.length := by omega
      rw [List.take_length] at hrow
      go_wp2_with fail
      go_loopw [9, 11] (fun v9 v11 wr => ∃ (i : Nat), i ≤ l1.length ∧ v11 = .int .i64 i ∧ Hid (RowG elS wr w.heap.size v9 (putAll_ (putAll_ [] l0) (l1.take i))) ∧ Hid (Below w.heap.size w wr)) (fun _ v11 _ => l1.length - (vI v11).toNat)
      case atStart => exact ⟨0, by omega, rfl, hrow, hbw⟩
      case round =>
        clear hrow hbw
        obtain ⟨i, hi, rfl, hrow, hbw⟩ := hrel
        by_cases hlt : i < l1.length
        · have hlt' : (i : Int) < (l1.length : Int) := by omega
          obtain ⟨b, o, rfl, hbl, hcs⟩ := shares_at HR1.out (by omega)
          have hce := (hbw.out.cell (p := ⟨b, o + i * 2, none⟩) hbl).trans (hcs i hlt).1
          have hsn := Lib.hid (putAll_snoc (putAll_ [] l0) l1 i hlt)
          clear hcs
          generalize (l1.getD i z39).f0 = nm at hce hsn
          have hLl := Lib.hid (show (putAll_ (putAll_ [] l0) (l1.take i)).length ≤ 1000 from by have := putAll_len (l1.take i) (putAll_ [] l0); have h2 := putAll_len l0 []; simp at this h2; omega)
          go_wp2_with fail
          refine (put_calls w.heap.size _ _ nm _ hrow.out hbw.out.size hLl.out).mono ?_
          rintro e w1 ⟨v', rfl, hrow1, hb1⟩
          rw [← hsn.out] at hrow1
          have HRW := Lib.hid hrow1
          have HBW := Lib.hid (below_step hbw.out hb1)
          clear hrow1 hb1 hrow hbw hLl hsn
          go_wp2_with fail
          go_roundw
          case rel => exact ⟨i + 1, by omega, by go_num, HRW, HBW⟩
          case measure => simp [vI]; omega
        · obtain rfl : i = l1.length := by omega
          rw [List.take_length, ← HNS.out] at hrow
          obtain ⟨A9, c9, hv9, hc9, hsh⟩ := hrow.out.shape
          clear hsh
          have hcells : Hid (0 < ns.length → ∃ g9, A9 = some ⟨g9, 0, none⟩ ∧ g9 < wr.heap.size ∧ ∀ j (hj : j < ns.length), wr.cell? ⟨g9, j, none⟩ = some (.string (bs ns[j]))) := Lib.hid (fun hp => by
            obtain ⟨g, c, he, _, _, h1, h2, h3⟩ := hrow.out.cells hp
            rw [he] at hv9
            cases hv9
            refine ⟨g, rfl, h2, fun j hj => ?_⟩
            have := h3 j hj 0 (by show 0 < 1; omega)
            rw [show j * elS.size + 0 = j from by show j * 1 + 0 = j; omega] at this
            rw [this]
            rfl)
          subst hv9
          have BW := Lib.hid hbw.out
          have ZW := hbw.out.size
          clear hrow hbw hlt
          obtain ⟨W3, hW3⟩ : ∃ W3, W3 = wr := ⟨_, rfl⟩
          rw [← hW3] at hcells BW ZW ⊢
          clear hW3
          go_wp2_with fail
          go_loopw [12, 13] (fun v12 v13 wr => ∃ (i : Nat), i ≤ ns.length ∧ v13 = .int .i64 i ∧ v12 = .int .i64 ((gs.take i).sum) ∧ Hid (Drawn0 W3 wr)) (fun _ v13 _ => ns.length - (vI v13).toNat)
          case atStart => exact ⟨0, by omega, rfl, by simp, Lib.hid (Drawn0.refl _)⟩
          case round =>
            obtain ⟨i, hi, rfl, rfl, hD⟩ := hrel
            by_cases hlt : i < ns.length
            · obtain ⟨g9, rfl, hg9, hcs⟩ := hcells.out (by omega)
              have hlt' : (i : Int) < (ns.length : Int) := by omega
              have hce := (hD.out.below.cell (p := ⟨g9, i, none⟩) hg9).trans (hcs i hlt)
              clear hcs
              have hgi := Lib.hid (show gs.getD i 0 = gainI l0 l1 gone whole ns[i] from by
                rw [HGS.out]
                simp [gains, List.getD_eq_getElem?_getD, hlt])
              have HSUM := Lib.hid (show (gs.take (i + 1)).sum = (gs.take i).sum + gs.getD i 0 from by
                have hi' : i < gs.length := by rw [HGL.out]; exact hlt
                rw [List.take_succ_eq_append_getElem hi', List.sum_append]
                simp [List.getD_eq_getElem?_getD, hi'])
              have hsb := Lib.hid (show 0 ≤ (gs.take i).sum ∧ (gs.take i).sum ≤ 2000000 from by
                have h1 := sum_fine (gainI l0 l1 gone whole) 1000 (by omega) (ns.take i) (fun x _ => ⟨(gain_fine HF0.out HF1.out g0 g1 x).1, (gain_fine HF0.out HF1.out g0 g1 x).2.1⟩)
                rw [HGS.out]
                unfold gains
                rw [← List.map_take]
                have : (ns.take i).length ≤ 2000 := by simp; omega
                omega)
              generalize ns[i] = nm at hce hgi
              obtain ⟨x0, x1⟩ := wt_fine HF0.out.2 (bs nm)
              obtain ⟨y0, y1⟩ := wt_fine HF1.out.2 (bs nm)
              have hgf := Lib.hid (gain_fine HF0.out HF1.out g0 g1 nm)
              have QA := Lib.hid (refw_qq (l := l0) (by omega) A0 c0 (bs nm))
              have QB := Lib.hid (refw_qq (l := l1) (by omega) A1 c1 (bs nm))
              have CA := Lib.hid (Kd.C_below (Kd.C_below HR0.out BW.out) hD.out.below)
              have CB := Lib.hid (Kd.C_below (Kd.C_below HR1.out BW.out) hD.out.below)
              have HDO := Lib.hid (show dOf l0 l1 nm = wt l1 (bs nm) - wt l0 (bs nm) from rfl)
              obtain ⟨a, hae⟩ : ∃ a, a = wt l0 (bs nm) := ⟨_, rfl⟩
              obtain ⟨b, hbe⟩ : ∃ b, b = wt l1 (bs nm) := ⟨_, rfl⟩
              rw [← hae] at x0 x1 QA HDO
              rw [← hbe] at y0 y1 QB HDO
              clear hae hbe
              have hsub : IntKind.i64.wrap (b - a) = b - a := IntWalk.i64_in _ (by omega)
              go_wp2_with fail
              go_quiet (first
                | (go_at_call 20; (with_reducible refine (QB.out _ ?side1 hc1).mono ?_); (case side1 => repeat (first | exact CB.out | (with_reducible refine Kd.C_drewN ?_ _) | (with_reducible refine Kd.C_drew ?_))); rintro e w' ⟨rfl, ⟨nd, rfl⟩⟩; (try first | exact ⟨rfl, _, World.drewN_drewN _ _ _⟩ | exact ⟨rfl, _, Eq.trans (World.drewN_drewN _ _ _) (congrArg (World.drewN _) (Nat.add_assoc _ _ _))⟩))
                | (go_at_call 20; (with_reducible refine (QA.out _ ?side1 hc0).mono ?_); (case side1 => repeat (first | exact CA.out | (with_reducible refine Kd.C_drewN ?_ _) | (with_reducible refine Kd.C_drew ?_))); rintro e w' ⟨rfl, ⟨nd, rfl⟩⟩; (try first | exact ⟨rfl, _, World.drewN_drewN _ _ _⟩ | exact ⟨rfl, _, Eq.trans (World.drewN_drewN _ _ _) (congrArg (World.drewN _) (Nat.add_assoc _ _ _))⟩)))
              obtain ⟨d, hde⟩ : ∃ d, d = b - a := ⟨_, rfl⟩
              rw [← hde] at HDO hsub ⊢
              have hd1 : d ≤ 1000 := by omega
              have hD2 := Lib.hid (hD.out.step nq)
              clear hde hsub QA QB CA CB hce x0 x1 y0 y1
              by_cases hd0 : 0 < d
              · have hq : gainI l0 l1 gone whole nm = d * gone / whole := by unfold gainI; rw [HDO.out, if_pos hd0]
                have hp0 : 0 ≤ d * gone := Int.mul_nonneg (by omega) (by omega)
                have hp1 : d * gone ≤ 1000 * 1000000000 := Int.mul_le_mul hd1 (by omega) (by omega) (by omega)
                obtain ⟨q0, q1, _⟩ := hgf.out
                obtain ⟨s0, s1⟩ := hsb.out
                have hwm : IntKind.i64.wrap (d * gone) = d * gone := IntWalk.i64_in _ (by omega)
                have hdv : (d * gone).tdiv whole = gs.getD i 0 := by rw [hgi.out, hq, Int.tdiv_eq_ediv_of_nonneg hp0]
                rw [← hgi.out] at q0 q1
                clear hq
                obtain ⟨q, hqe⟩ : ∃ q, q = gs.getD i 0 := ⟨_, rfl⟩
                rw [← hqe] at hdv q0 q1
                have HQ := Lib.hid hqe
                clear hqe
                go_wp2_with fail
                go_roundw
                case rel => exact ⟨i + 1, by omega, by go_num, by rw [HSUM.out, HQ.out], hD2⟩
                case measure => simp [vI]; omega
              · have hq : gs.getD i 0 = 0 := by rw [hgi.out]; unfold gainI; rw [HDO.out, if_neg hd0]
                have hd1 : d ≤ 0 := by omega
                have HQ := Lib.hid hq
                clear hq hd0
                go_wp2_with fail
                go_roundw
                case rel => exact ⟨i + 1, by omega, by go_num, by rw [HSUM.out, HQ.out]; simp, hD2⟩
                case measure => simp [vI]; omega
            · obtain rfl : ns.length = i := by omega
              have hsumE : (gs.take ns.length).sum = gs.sum := by rw [List.take_of_length_le (by rw [HGL.out]; omega)]
              rw [hsumE]
              clear hsumE
              have hss := Lib.hid (show 0 ≤ gs.sum ∧ gs.sum ≤ 2000000 from by
                have h1 := sum_fine (gainI l0 l1 gone whole) 1000 (by omega) ns (fun x _ => ⟨(gain_fine HF0.out HF1.out g0 g1 x).1, (gain_fine HF0.out HF1.out g0 g1 x).2.1⟩)
                rw [HGS.out]
                unfold gains
                omega)
              obtain ⟨Bo, hBo⟩ : ∃ Bo, Bo = wr.heap.size := ⟨_, rfl⟩
              have hB3 : Below W3.heap.size W3 wr := hD.out.below
              have zBo : W3.heap.size ≤ Bo := by rw [hBo]; exact hB3.size
              have zBo0 : w.heap.size ≤ Bo := Nat.le_trans ZW zBo
              have BWr := Lib.hid (BW.out.trans (hB3.mono BW.out.size))
              have hcells4 : Hid (0 < ns.length → ∃ g9, A9 = some ⟨g9, 0, none⟩ ∧ g9 < Bo ∧ ∀ j (hj : j < ns.length), wr.cell? ⟨g9, j, none⟩ = some (.string (bs ns[j]))) := Lib.hid (fun hp => by
                obtain ⟨g9, e, h1, h2⟩ := hcells.out hp
                exact ⟨g9, e, by omega, fun j hj => (hB3.cell (p := ⟨g9, j, none⟩) h1).trans (h2 j hj)⟩)
              have hBo1 : Bo ≤ wr.heap.size := by omega
              have hBB := Lib.hid (show Below Bo wr wr from Below.refl _ _)
              clear hcells hB3 hD BW hBo
              obtain ⟨W4, hW4⟩ : ∃ W4, W4 = wr := ⟨_, rfl⟩
              rw [← hW4] at hcells4 BWr hBo1 hBB ⊢
              clear hW4
              go_wp2_with fail
              go_loopw [12, 15, 16] (fun v12 v15 v16 wr => ∃ (i : Nat) (g : Int) (L : List S39), i ≤ ns.length ∧ v16 = .int .i64 i ∧ v12 = .int .i64 g ∧ Hid ((ns.take i).foldl (stepR l0 l1 gone whole) (gs.sum, []) = (g, L)) ∧ 0 ≤ g ∧ g ≤ 2000000 ∧ L.length ≤ i ∧ Hid (RowG el39 wr Bo v15 L) ∧ Hid (Below Bo W4 wr) ∧ Bo ≤ wr.heap.size) (fun _ _ v16 _ => ns.length - (vI v16).toNat)
              case atStart => exact ⟨0, gs.sum, [], by omega, rfl, rfl, Lib.hid rfl, hss.out.1, hss.out.2, by simp, Lib.hid (RowG.nil _ _ _), hBB, hBo1⟩
              case round =>
                clear hBB hBo1
                obtain ⟨i, g, L, hi, rfl, rfl, hF, hg0, hg1, hLl, hrow, hbb, hBr⟩ := hrel
                by_cases hlt : i < ns.length
                · obtain ⟨g9, rfl, hg9, hcs⟩ := hcells4.out (by omega)
                  have hlt' : (i : Int) < (ns.length : Int) := by omega
                  have hce := (hbb.out.cell (p := ⟨g9, i, none⟩) hg9).trans (hcs i hlt)
                  clear hcs
                  have hst := Lib.hid (show (ns.take (i + 1)).foldl (stepR l0 l1 gone whole) (gs.sum, []) = stepR l0 l1 gone whole (g, L) ns[i] from by
                    rw [List.take_succ_eq_append_getElem hlt, List.foldl_append, hF.out]
                    rfl)
                  generalize ns[i] = nm at hce hst
                  have hgf := Lib.hid (gain_fine HF0.out HF1.out g0 g1 nm)
                  obtain ⟨x0, x1⟩ := wt_fine HF0.out.2 (bs nm)
                  obtain ⟨y0, y1⟩ := wt_fine HF1.out.2 (bs nm)
                  have BWq := BWr.out.trans (hbb.out.mono zBo0)
                  have QA := Lib.hid (refw_qq (l := l0) (by omega) A0 c0 (bs nm))
                  have QB := Lib.hid (refw_qq (l := l1) (by omega) A1 c1 (bs nm))
                  have CA := Lib.hid (Kd.C_below HR0.out BWq)
                  have CB := Lib.hid (Kd.C_below HR1.out BWq)
                  clear BWq
                  obtain ⟨a, hae⟩ : ∃ a, a = wt l0 (bs nm) := ⟨_, rfl⟩
                  obtain ⟨b, hbe⟩ : ∃ b, b = wt l1 (bs nm) := ⟨_, rfl⟩
                  have hdo : dOf l0 l1 nm = b - a := by unfold dOf; rw [hae, hbe]
                  have HSX := Lib.hid (show stepR l0 l1 gone whole (g, L) nm = if b - a < 0 then (g - min (-(b - a)) g, if 0 < a - min (-(b - a)) g then L ++ [⟨bs nm, a - min (-(b - a)) g⟩] else L) else (g, if 0 < a + gainI l0 l1 gone whole nm then L ++ [⟨bs nm, a + gainI l0 l1 gone whole nm⟩] else L) from by
                    unfold stepR
                    simp only [hdo, ← hae])
                  have HGI := Lib.hid (show gainI l0 l1 gone whole nm = if 0 < b - a then (b - a) * gone / whole else 0 from by unfold gainI; rw [hdo])
                  rw [← hae] at x0 x1 QA
                  rw [← hbe] at y0 y1 QB
                  clear hae hbe hdo
                  go_wp2_with fail
                  go_quiet (first
                    | (go_at_call 20; (with_reducible refine (QB.out _ ?side1 hc1).mono ?_); (case side1 => repeat (first | exact CB.out | (with_reducible refine Kd.C_drewN ?_ _) | (with_reducible refine Kd.C_drew ?_))); rintro e w' ⟨rfl, ⟨nd, rfl⟩⟩; (try first | exact ⟨rfl, _, World.drewN_drewN _ _ _⟩ | exact ⟨rfl, _, Eq.trans (World.drewN_drewN _ _ _) (congrArg (World.drewN _) (Nat.add_assoc _ _ _))⟩))
                    | (go_at_call 20; (with_reducible refine (QA.out _ ?side1 hc0).mono ?_); (case side1 => repeat (first | exact CA.out | (with_reducible refine Kd.C_drewN ?_ _) | (with_reducible refine Kd.C_drew ?_))); rintro e w' ⟨rfl, ⟨nd, rfl⟩⟩; (try first | exact ⟨rfl, _, World.drewN_drewN _ _ _⟩ | exact ⟨rfl, _, Eq.trans (World.drewN_drewN _ _ _) (congrArg (World.drewN _) (Nat.add_assoc _ _ _))⟩)))
                  obtain ⟨w5, hw5⟩ : ∃ w5, w5 = wr.drewN nq := ⟨_, rfl⟩
                  have hd5 : Below wr.heap.size wr w5 := by rw [hw5]; exact ((⟨⟨nq, rfl⟩⟩ : Drawn0 wr (wr.drewN nq)).below)
                  have z5 := hd5.size
                  have hce5 := (hd5.cell (p := ⟨g9, i, none⟩) (rcell_lt hce)).trans hce
                  have hrow5 := hrow.out.below hd5 (Nat.le_refl _)
                  have HBB5 := Lib.hid (hbb.out.trans (hd5.mono hBr))
                  have hBr5 : Bo ≤ w5.heap.size := by omega
                  rw [← hw5]
                  clear hw5 hd5 hce hrow hbb QA QB CA CB z5 hBr
                  by_cases hba : b < a
                  · have t1 : decide (a < b) = false := decide_eq_false (by omega)
                    have t2 : decide (b < a) = true := decide_eq_true hba
                    obtain ⟨m, hme⟩ : ∃ m, m = min (a - b) g := ⟨_, rfl⟩
                    have hm0 : 0 ≤ m := by omega
                    have hm1 : m ≤ a - b := by omega
                    have hm2 : m ≤ g := by omega
                    have HS2 := Lib.hid (show (ns.take (i + 1)).foldl (stepR l0 l1 gone whole) (gs.sum, []) = (g - m, if 0 < a - m then L ++ [⟨bs nm, a - m⟩] else L) from by
                      rw [hst.out, HSX.out, if_pos (by omega), show min (-(b - a)) g = m by omega])
                    have hmin := hme.symm
                    clear hme hba
                    obtain ⟨u, hue⟩ : ∃ u, u = a - m := ⟨_, rfl⟩
                    rw [← hue] at HS2
                    have hu0 : 0 ≤ u := by omega
                    have hu1 : u ≤ 1000 := by omega
                    have HUE := Lib.hid hue.symm
                    have hwu : a - m = u := hue.symm
                    clear hue
                    by_cases hw0 : 0 < u
                    · have t3 : decide (0 < u) = true := decide_eq_true hw0
                      have HS3 := Lib.hid (show (ns.take (i + 1)).foldl (stepR l0 l1 gone whole) (gs.sum, []) = (g - m, L ++ [⟨bs nm, u⟩]) from by rw [HS2.out, if_pos hw0])
                      have k4 : (w5.alloc (.cells #[.string (bs nm), .int .i64 u] 39)).heap[w5.heap.size]? = some (.cells (el39.enc ⟨bs nm, u⟩).toArray el39.e (0, 0)) := new_at _ _
                      have bA : Below w5.heap.size w5 (w5.alloc (.cells #[.string (bs nm), .int .i64 u] 39)) := (Below.refl _ _).alloc (Nat.le_refl _) _
                      have hrA := hrow5.below bA (Nat.le_refl _)
                      have hszA : Bo ≤ (w5.alloc (.cells #[.string (bs nm), .int .i64 u] 39)).heap.size := by have := bA.size; omega
                      have HBA := Lib.hid (HBB5.out.trans (bA.mono hBr5))
                      clear bA hrow5
                      go_wp2_with (at_builtin; refine list_appG el39 _ rfl (.tmp 137) (.tmp 144) rfl Bo _ L (by rfl) hrA (some ⟨w5.heap.size, 0, none⟩) 1 1 [⟨bs nm, u⟩] (by rfl) rfl (SrcG.one k4) (by omega) (by omega) hszA ?_; intro v' w' r3 b3 z3)
                      have b4 := b3.size
                      have hl3 : (L ++ [(⟨bs nm, u⟩ : S39)]).length = L.length + 1 := by simp
                      go_roundw
                      case rel => exact ⟨i + 1, g - m, L ++ [⟨bs nm, u⟩], by omega, by go_num, rfl, HS3, by omega, by omega, by omega, Lib.hid r3, Lib.hid (HBA.out.trans b3), by omega⟩
                      case measure => simp [vI]; omega
                    · have t3 : decide (0 < u) = false := decide_eq_false hw0
                      have HS3 := Lib.hid (show (ns.take (i + 1)).foldl (stepR l0 l1 gone whole) (gs.sum, []) = (g - m, L) from by rw [HS2.out, if_neg hw0])
                      clear hw0
                      go_wp2_with fail
                      go_roundw
                      case rel => exact ⟨i + 1, g - m, L, by omega, by go_num, rfl, HS3, by omega, by omega, by omega, Lib.hid hrow5, HBB5, hBr5⟩
                      case measure => simp [vI]; omega
                  · have t2 : decide (b < a) = false := decide_eq_false hba
                    obtain ⟨q0, q1, _⟩ := hgf.out
                    obtain ⟨q, hqe⟩ : ∃ q, q = gainI l0 l1 gone whole nm := ⟨_, rfl⟩
                    have HS2 := Lib.hid (show (ns.take (i + 1)).foldl (stepR l0 l1 gone whole) (gs.sum, []) = (g, if 0 < a + q then L ++ [⟨bs nm, a + q⟩] else L) from by
                      rw [hst.out, HSX.out, if_neg (by omega), ← hqe])
                    rw [← hqe] at q0 q1 HGI
                    clear hqe
                    obtain ⟨u, hue⟩ : ∃ u, u = a + q := ⟨_, rfl⟩
                    rw [← hue] at HS2
                    have hu0 : 0 ≤ u := by omega
                    have hu1 : u ≤ 2000 := by omega
                    by_cases hab : a < b
                    · have t1 : decide (a < b) = true := decide_eq_true hab
                      have hqv : q = (b - a) * gone / whole := by rw [HGI.out, if_pos (by omega)]
                      have hp0 : 0 ≤ (b - a) * gone := Int.mul_nonneg (by omega) (by omega)
                      have hp1 : (b - a) * gone ≤ 1000 * 1000000000 := Int.mul_le_mul (by omega) (by omega) (by omega) (by omega)
                      have hwm : IntKind.i64.wrap ((b - a) * gone) = (b - a) * gone := IntWalk.i64_in _ (by omega)
                      have hdv : ((b - a) * gone).tdiv whole = q := by rw [hqv, Int.tdiv_eq_ediv_of_nonneg hp0]
                      have hwu : a + q = u := hue.symm
                      clear hqv hue hba hab
                      by_cases hw0 : 0 < u
                      · have t3 : decide (0 < u) = true := decide_eq_true hw0
                        have HS3 := Lib.hid (show (ns.take (i + 1)).foldl (stepR l0 l1 gone whole) (gs.sum, []) = (g, L ++ [⟨bs nm, u⟩]) from by rw [HS2.out, if_pos hw0])
                        have k4 : (w5.alloc (.cells #[.string (bs nm), .int .i64 u] 39)).heap[w5.heap.size]? = some (.cells (el39.enc ⟨bs nm, u⟩).toArray el39.e (0, 0)) := new_at _ _
                        have bA : Below w5.heap.size w5 (w5.alloc (.cells #[.string (bs nm), .int .i64 u] 39)) := (Below.refl _ _).alloc (Nat.le_refl _) _
                        have hrA := hrow5.below bA (Nat.le_refl _)
                        have hszA : Bo ≤ (w5.alloc (.cells #[.string (bs nm), .int .i64 u] 39)).heap.size := by have := bA.size; omega
                        have HBA := Lib.hid (HBB5.out.trans (bA.mono hBr5))
                        clear bA hrow5
                        go_wp2_with (at_builtin; refine list_appG el39 _ rfl (.tmp 137) (.tmp 144) rfl Bo _ L (by rfl) hrA (some ⟨w5.heap.size, 0, none⟩) 1 1 [⟨bs nm, u⟩] (by rfl) rfl (SrcG.one k4) (by omega) (by omega) hszA ?_; intro v' w' r3 b3 z3)
                        have b4 := b3.size
                        have hl3 : (L ++ [(⟨bs nm, u⟩ : S39)]).length = L.length + 1 := by simp
                        go_roundw
                        case rel => exact ⟨i + 1, g, L ++ [⟨bs nm, u⟩], by omega, by go_num, rfl, HS3, by omega, by omega, by omega, Lib.hid r3, Lib.hid (HBA.out.trans b3), by omega⟩
                        case measure => simp [vI]; omega
                      · have t3 : decide (0 < u) = false := decide_eq_false hw0
                        have HS3 := Lib.hid (show (ns.take (i + 1)).foldl (stepR l0 l1 gone whole) (gs.sum, []) = (g, L) from by rw [HS2.out, if_neg hw0])
                        clear hw0
                        go_wp2_with fail
                        go_roundw
                        case rel => exact ⟨i + 1, g, L, by omega, by go_num, rfl, HS3, by omega, by omega, by omega, Lib.hid hrow5, HBB5, hBr5⟩
                        case measure => simp [vI]; omega
                    · have t1 : decide (a < b) = false := decide_eq_false hab
                      have hq0 : q = 0 := by rw [HGI.out, if_neg (by omega)]
                      obtain rfl : u = a := by omega
                      clear hq0 hue hba hab
                      by_cases hw0 : 0 < u
                      · have t3 : decide (0 < u) = true := decide_eq_true hw0
                        have HS3 := Lib.hid (show (ns.take (i + 1)).foldl (stepR l0 l1 gone whole) (gs.sum, []) = (g, L ++ [⟨bs nm, u⟩]) from by rw [HS2.out, if_pos hw0])
                        have k4 : (w5.alloc (.cells #[.string (bs nm), .int .i64 u] 39)).heap[w5.heap.size]? = some (.cells (el39.enc ⟨bs nm, u⟩).toArray el39.e (0, 0)) := new_at _ _
                        have bA : Below w5.heap.size w5 (w5.alloc (.cells #[.string (bs nm), .int .i64 u] 39)) := (Below.refl _ _).alloc (Nat.le_refl _) _
                        have hrA := hrow5.below bA (Nat.le_refl _)
                        have hszA : Bo ≤ (w5.alloc (.cells #[.string (bs nm), .int .i64 u] 39)).heap.size := by have := bA.size; omega
                        have HBA := Lib.hid (HBB5.out.trans (bA.mono hBr5))
                        clear bA hrow5
                        go_wp2_with (at_builtin; refine list_appG el39 _ rfl (.tmp 137) (.tmp 144) rfl Bo _ L (by rfl) hrA (some ⟨w5.heap.size, 0, none⟩) 1 1 [⟨bs nm, u⟩] (by rfl) rfl (SrcG.one k4) (by omega) (by omega) hszA ?_; intro v' w' r3 b3 z3)
                        have b4 := b3.size
                        have hl3 : (L ++ [(⟨bs nm, u⟩ : S39)]).length = L.length + 1 := by simp
                        go_roundw
                        case rel => exact ⟨i + 1, g, L ++ [⟨bs nm, u⟩], by omega, by go_num, rfl, HS3, by omega, by omega, by omega, Lib.hid r3, Lib.hid (HBA.out.trans b3), by omega⟩
                        case measure => simp [vI]; omega
                      · have t3 : decide (0 < u) = false := decide_eq_false hw0
                        have HS3 := Lib.hid (show (ns.take (i + 1)).foldl (stepR l0 l1 gone whole) (gs.sum, []) = (g, L) from by rw [HS2.out, if_neg hw0])
                        clear hw0
                        go_wp2_with fail
                        go_roundw
                        case rel => exact ⟨i + 1, g, L, by omega, by go_num, rfl, HS3, by omega, by omega, by omega, Lib.hid hrow5, HBB5, hBr5⟩
                        case measure => simp [vI]; omega
                · obtain rfl : ns.length = i := by omega
                  have HFIN := Lib.hid (show (ns.foldl (stepR l0 l1 gone whole) (gs.sum, [])).2 = L from by
                    have := hF.out
                    rw [List.take_of_length_le (Nat.le_refl _)] at this
                    rw [this])
                  obtain ⟨A15, c15, rfl, hc15, hC15⟩ := RowG.toC hrow.out
                  clear hC15
                  go_wp2_with fail
                  go_ret
                  exact ⟨_, rfl, by rw [HFIN.out]; exact hrow.out.lower zBo0, BWr.out.trans (hbb.out.mono zBo0)⟩

set_option maxRecDepth 100000 in
set_option maxHeartbeats 2000000 in
/-- The document's Shares are the program's. -/
theorem rshares_calls (A0 : Option Addr) (c0 : Nat) (l0 : List S39) (A1 : Option Addr) (c1 : Nat) (l1 : List S39) (gone whole : Int) (w : World) (hr0 : Kd.C k39 w A0 l0.length l0) (hr1 : Kd.C k39 w A1 l1.length l1) (hc0 : l0.length ≤ c0) (hc1 : l1.length ≤ c1)
    (hf0 : Fine l0) (hf1 : Fine l1) (hw : whole ≤ 1000000000) (hk0 : l0.length ≤ 400) (hk1 : l1.length ≤ 400) :
    Calls Try.prog 17 #[.slice A0 l0.length c0, .slice A1 l1.length c1, .int .i64 gone, .int .i64 whole] w fun e w' => ∃ v, e = .returned v ∧ RowG el39 w' w.heap.size v (rollL l0 l1 gone whole) ∧ Below w.heap.size w w' := by
  have b1 : Below w.heap.size w (w.alloc (.cells #[] 39)) := (Below.refl _ _).alloc (Nat.le_refl _) _
  have hrow : RowG el39 (w.alloc (.cells #[] 39)) w.heap.size (.slice (some ⟨w.heap.size, 0, none⟩) 0 0) [] := owns_empty (Nat.le_refl _) (by show (w.heap.push _)[w.heap.size]? = _; simp [el39])
  have hsz : w.heap.size ≤ (w.alloc (.cells #[] 39)).heap.size := b1.size
  by_cases e1 : whole ≤ 0 ∨ whole ≤ gone
  · have hu : rollL l0 l1 gone whole = l1 := by unfold rollL; rw [if_pos e1]
    rw [hu]; clear hu
    have hsrc := src_lt hr1 b1
    clear hr0 hr1 hf0 hf1
    by_cases e2 : whole ≤ 0
    · have q1 : decide (whole ≤ 0) = true := decide_eq_true e2
      clear e1 e2
      go_enter Try.func17, Try.ntmps17
      go_wp2_with (at_builtin; refine list_appG el39 _ rfl (.tmp 28) (.tmp 29) rfl w.heap.size _ [] (by rfl) hrow A1 l1.length c1 l1 (by rfl) rfl hsrc (by simp) (by omega) hsz ?_; intro v' w' r3 b3 z3)
      go_ret
      exact ⟨_, rfl, r3, b1.trans b3⟩
    · have q1 : decide (whole ≤ 0) = false := decide_eq_false e2
      have q2 : decide (whole ≤ gone) = true := decide_eq_true (e1.resolve_left e2)
      clear e1 e2
      go_enter Try.func17, Try.ntmps17
      go_wp2_with (at_builtin; refine list_appG el39 _ rfl (.tmp 28) (.tmp 29) rfl w.heap.size _ [] (by rfl) hrow A1 l1.length c1 l1 (by rfl) rfl hsrc (by simp) (by omega) hsz ?_; intro v' w' r3 b3 z3)
      go_ret
      exact ⟨_, rfl, r3, b1.trans b3⟩
  · by_cases e3 : gone ≤ 0
    · have hu : rollL l0 l1 gone whole = l0 := by unfold rollL; rw [if_neg e1, if_pos e3]
      rw [hu]; clear hu
      have hsrc := src_lt hr0 b1
      have q1 : decide (whole ≤ 0) = false := decide_eq_false (fun h => e1 (.inl h))
      have q2 : decide (whole ≤ gone) = false := decide_eq_false (fun h => e1 (.inr h))
      have q3 : decide (gone ≤ 0) = true := decide_eq_true e3
      clear hr0 hr1 hf0 hf1 e1 e3
      go_enter Try.func17, Try.ntmps17
      go_wp2_with (at_builtin; refine list_appG el39 _ rfl (.tmp 33) (.tmp 34) rfl w.heap.size _ [] (by rfl) hrow A0 l0.length c0 l0 (by rfl) rfl hsrc (by simp) (by omega) hsz ?_; intro v' w' r3 b3 z3)
      go_ret
      exact ⟨_, rfl, r3, b1.trans b3⟩
    · have hu : rollL l0 l1 gone whole = ((namesOf (l0 ++ l1)).foldl (stepR l0 l1 gone whole) ((gains l0 l1 gone whole (namesOf (l0 ++ l1))).sum, [])).2 := by unfold rollL; rw [if_neg e1, if_neg e3]
      rw [hu]
      exact rshares_way A0 c0 l0 A1 c1 l1 gone whole w hr0 hr1 hc0 hc1 hf0 hf1 (by omega) (by omega) hw hk0 hk1 _ (ref_names l0 l1).symm _ rfl

end Go.Proofs.Ytdbikchddonjnaa.PA
