/- RollSound: the walk. -/
import Derived.Test.YtdbikchddonjnaaPureMore
import Derived.Test.YtdbikchddonjnaaMono
namespace Go.Proofs.Ytdbikchddonjnaa.PA
open Go.RowKit Go.Shelf Go.Lib Go.Sort Go.Proofs.YtdbikchddonjnaaW.PrintWords Go.Proofs.YtdbikchddonjnaaW.PrintLast

/-- Where it was last. -/
def lastL (a b : List S39) (n : Int) (t : Nat) : List S39 := if t = 0 then a else rollL a b ((t : Int) - 1) n

theorem lastL_tab {R : List (List UInt8)} (hR : Rising R) {a b : List S39} (ta : Tab R a) (tb : Tab R b) (n : Int) (t : Nat) : Tab R (lastL a b n t) := by
  unfold lastL; split
  · exact ta
  · exact roll_tab' hR ta tb _ _

theorem law_facts {a b : List S39} (ta : Tab R6 a) (tb : Tab R6 b) {n : Int} (hn : 0 < n) (t : Nat) (x : List UInt8) (hx : x ∈ R6) :
    (wn a x ≤ wn b x → wn (lastL a b n t) x ≤ wn (rollL a b t n) x ∧ wn (rollL a b t n) x ≤ wn b x) ∧ (wn b x ≤ wn a x → wn (rollL a b t n) x ≤ wn (lastL a b n t) x ∧ wn b x ≤ wn (rollL a b t n) x) := by
  have hb := roll_between R6_rising ta tb (g := t) hn x hx
  have hm : (wn a x ≤ wn b x → wn (lastL a b n t) x ≤ wn (rollL a b t n) x) ∧ (wn b x ≤ wn a x → wn (rollL a b t n) x ≤ wn (lastL a b n t) x) := by
    unfold lastL
    split
    · exact ⟨fun h => (hb.1 h).1, fun h => (hb.2 h).2⟩
    · exact roll_mono R6_rising ta tb hn (by omega) x hx
  exact ⟨fun h => ⟨hm.1 h, (hb.1 h).2⟩, fun h => ⟨hm.2 h, (hb.2 h).1⟩⟩

theorem R6_mem (i : Nat) (hi : i < 6) : R6.getD i [] ∈ R6 := by
  match i, hi with
  | 0, _ => simp [R6]
  | 1, _ => simp [R6]
  | 2, _ => simp [R6]
  | 3, _ => simp [R6]
  | 4, _ => simp [R6]
  | 5, _ => simp [R6]

/-- What a name weighs: nothing is changed. -/
theorem refw_q {l : List S39} (hl : l.length ≤ 1000000) (A : Option Addr) (c : Nat) (r : ByteArray) (w : World) (hC : Kd.C k39 w A l.length l) (hc : l.length ≤ c) :
    Calls Try.prog 20 #[.slice A l.length c, .string r] w fun e w' => e = .returned (.int .i64 (wt l r)) ∧ ∃ n, w' = w.drewN n :=
  (damperref6_Weight.calls (l.length + 1) A c l r (wt l r) w hC hc (refw_f hl r _ (Nat.le_refl _))).mono fun _ _ ⟨h1, h2⟩ => ⟨h1, h2.out⟩

theorem c_drewN {α : Type} {d : Kd α} {w : World} {A : Option Addr} {n : Nat} {l : List α} (h : Kd.C d w A n l) (k : Nat) : Kd.C d (w.drewN k) A n l := Kd.C_below h ((⟨⟨k, rfl⟩⟩ : Drawn0 w (w.drewN k)).below)

set_option maxRecDepth 100000 in
set_option maxHeartbeats 4000000 in
theorem sound_law (A0 : Option Addr) (c0 : Nat) (l0 : List Int) (A1 : Option Addr) (c1 : Nat) (l1 : List Int) (a2 : Int) (w : World) (hr0 : Kd.C (Kd.int .i64) w A0 l0.length l0) (hc0 : l0.length ≤ c0) (hr1 : Kd.C (Kd.int .i64) w A1 l1.length l1) (hc1 : l1.length ≤ c1) :
    Calls Try.prog 4 #[.slice A0 l0.length c0, .slice A1 l1.length c1, .int .i64 a2] w fun e w' => e = .returned (.bool true) ∧ Below w.heap.size w w' := by
  obtain ⟨k0, a, ha, ta⟩ := shares_tab l0
  obtain ⟨k1, b, hb, tb⟩ := shares_tab l1
  have HA := Lib.hid ha
  have HB := Lib.hid hb
  have TA := Lib.hid ta
  have TB := Lib.hid tb
  have HR0 := Lib.hid hr0
  have HR1 := Lib.hid hr1
  clear ha hb ta tb hr0 hr1
  have h2 := Lib.hid (within6 a2 60 (by omega) (by omega))
  have n0 := Int.emod_nonneg a2 (b := 60) (by omega)
  have n1 := Int.emod_lt_of_pos a2 (b := 60) (by omega)
  go_enter Try.func4, Try.ntmps4
  go_wp2_with fail
  refine (damperlaw6_known.calls true _ known_f).mono ?_
  rintro e w1 ⟨rfl, hb1⟩
  go_wp2_with fail
  refine (damperlaw5_Shares.calls k0 A0 c0 l0 a _ (Kd.C_below HR0.out hb1) hc0 HA.out).mono ?_
  rintro e w2 ⟨va, rfl, hra, hb2⟩
  have b2 := hb1.trans (hb2.mono hb1.size)
  obtain ⟨Aa, ca, rfl, hla, hCa⟩ := Kd.R_reads hra
  clear hra
  have CA2 := Lib.hid hCa
  clear hCa
  go_wp2_with fail
  refine (damperlaw5_Shares.calls k1 A1 c1 l1 b _ (Kd.C_below HR1.out b2) hc1 HB.out).mono ?_
  rintro e w3 ⟨vb, rfl, hrb, hb3⟩
  have b3 := b2.trans (hb3.mono b2.size)
  obtain ⟨Ab, cb, rfl, hlb, hCb⟩ := Kd.R_reads hrb
  clear hrb
  have CB3 := Lib.hid hCb
  have CA3 := Lib.hid (Kd.C_below CA2.out hb3)
  clear hCb CA2 hb1 hb2 b2
  go_wp2_with fail
  refine (damperlaw6_within.calls a2 60 (a2 % 60) _ h2.out).mono ?_
  rintro e w4 ⟨rfl, hd4⟩
  have hb4 := hd4.below
  have b4 := b3.trans (hb4.mono b3.size)
  have CB4 := Lib.hid (Kd.C_below CB3.out hb4)
  have CA4 := Lib.hid (Kd.C_below CA3.out hb4)
  clear hd4 CB3 CA3 b3 h2 HA HB hb3
  obtain ⟨n, hn⟩ : ∃ n : Int, n = 1 + a2 % 60 := ⟨_, rfl⟩
  have hn1 : 1 ≤ n := by omega
  have hn2 : n ≤ 60 := by omega
  have HN := Lib.hid hn
  clear hn
  go_wp2_with fail
  rw [← HN.out]
  clear HN n0 n1
  refine (damperlaw5_Revs.calls revs6 _ revs_f).mono ?_
  rintro e w5 ⟨vr, rfl, hrr, hb5⟩
  have b5 := b4.trans (hb5.mono b4.size)
  obtain ⟨Ar, cr, rfl, hlr, hCr⟩ := Kd.R_reads hrr
  clear hrr
  have CR5 := Lib.hid hCr
  have CB5 := Lib.hid (Kd.C_below CB4.out hb5)
  have CA5 := Lib.hid (Kd.C_below CA4.out hb5)
  have hl6 : Hid ((revs6.length : Nat) = 6) := Lib.hid rfl
  clear hCr CB4 CA4 b4 hb5 hb4
  obtain ⟨nr, hnr⟩ : ∃ nr : Nat, nr = revs6.length := ⟨_, rfl⟩
  rw [← hnr] at hlr CR5 ⊢
  have hnr6 : Hid (nr = 6) := Lib.hid (by rw [hnr]; rfl)
  have hnr1 : nr ≤ 6 := by rw [hnr6.out]; exact Nat.le_refl _
  clear hnr hl6
  go_wp2_with fail
  go_loopw [10, 12] (fun v10 v12 wr => ∃ (t : Nat) (la : List S39) (Al : Option Addr) (cl : Nat), (t : Int) ≤ n + 3 ∧ v12 = .int .i64 t ∧ v10 = .slice Al la.length cl ∧ la.length ≤ cl ∧ Hid (Kd.C k39 wr Al la.length la) ∧ Hid (la = lastL a b n t) ∧ Hid (Kd.C k39 wr Aa a.length a) ∧ Hid (Kd.C k39 wr Ab b.length b) ∧ Hid (Kd.C Kd.string wr Ar nr revs6) ∧ Below w.heap.size w wr) (fun _ v12 _ => (n + 3 - vI v12).toNat)
  case atStart => exact ⟨0, a, Aa, ca, by omega, rfl, rfl, hla, CA5, Lib.hid rfl, CA5, CB5, CR5, b5⟩
  case round =>
    clear b5 CR5 CB5 CA5
    obtain ⟨t, la, Al, cl, ht, rfl, rfl, hll, CL, HL, CA, CB, CR, bw⟩ := hrel
    by_cases hlt : (t : Int) ≤ n + 2
    · have TL := Lib.hid (roll_tab' R6_rising TA.out TB.out t n)
      go_wp2_with fail
      refine (roll_Shares.calls Aa ca a Ab cb b t n (rollL a b t n) _ CA.out hla CB.out hlb (roll_f (by decide) TA.out TB.out t n (by omega))).mono ?_
      rintro e w6 ⟨v6, rfl, hr6, hb6⟩
      have b6 := bw.trans (hb6.mono bw.size)
      obtain ⟨A6, c6, rfl, hl6, hC6⟩ := Kd.R_reads hr6
      clear hr6
      obtain ⟨lw, hlw⟩ : ∃ lw, lw = rollL a b t n := ⟨_, rfl⟩
      rw [← hlw] at hl6 hC6 TL ⊢
      have HW := Lib.hid hlw
      clear hlw
      have CW6 := Lib.hid hC6
      have CA6 := Lib.hid (Kd.C_below CA.out hb6)
      have CB6 := Lib.hid (Kd.C_below CB.out hb6)
      have CL6 := Lib.hid (Kd.C_below CL.out hb6)
      have CR6 := Lib.hid (Kd.C_below CR.out hb6)
      clear hC6 hb6 bw CA CB CL CR
      go_wp2_with fail
      refine (damperref5_Sound.calls A6 c6 lw true _ CW6.out hl6 (sound_f TL.out)).mono ?_
      rintro e w7 ⟨rfl, hb7⟩
      have b7 := b6.trans (hb7.mono b6.size)
      have CW7 := Lib.hid (Kd.C_below CW6.out hb7)
      have CA7 := Lib.hid (Kd.C_below CA6.out hb7)
      have CB7 := Lib.hid (Kd.C_below CB6.out hb7)
      have CL7 := Lib.hid (Kd.C_below CL6.out hb7)
      have CR7 := Lib.hid (Kd.C_below CR6.out hb7)
      clear hb7 b6 CA6 CB6 CL6 CR6 CW6
      go_wp2_with fail
      go_loopw [14] (fun v14 wr => ∃ (i : Nat), i ≤ nr ∧ v14 = .int .i64 i ∧ Hid (Kd.C k39 wr A6 lw.length lw) ∧ Hid (Kd.C k39 wr Al la.length la) ∧ Hid (Kd.C k39 wr Aa a.length a) ∧ Hid (Kd.C k39 wr Ab b.length b) ∧ Hid (Kd.C Kd.string wr Ar nr revs6) ∧ Below w.heap.size w wr) (fun v14 _ => nr - (vI v14).toNat)
      case atStart => exact ⟨0, by omega, rfl, CW7, CL7, CA7, CB7, CR7, b7⟩
      case round =>
        clear b7 CR7 CB7 CA7 CW7 CL7
        obtain ⟨i, hi, rfl, CW, CL, CA, CB, CR, bw⟩ := hrel
        by_cases hin : i < nr
        · obtain ⟨ad, rfl, hce⟩ := Kd.at_string CR.out (i : Int) (by omega) (by omega)
          have hi6 : i < 6 := by rw [← hnr6.out]; exact hin
          rw [revs6_at i hi6, Int.toNat_natCast] at hce
          have hf := law_facts TA.out TB.out (n := n) (by omega) t _ (R6_mem i hi6)
          rw [← HW.out, ← HL.out] at hf
          generalize R6.getD i [] = nm at hce hf
          unfold wn at hf
          have QW := Lib.hid (refw_q (l := lw) (by have := TL.out.len; rw [R6_len] at this; omega) A6 c6 (bs nm))
          have QL := Lib.hid (refw_q (l := la) (by have := (lastL_tab R6_rising TA.out TB.out n t).len; rw [R6_len, ← HL.out] at this; omega) Al cl (bs nm))
          have QA := Lib.hid (refw_q (l := a) (by have := TA.out.len; rw [R6_len] at this; omega) Aa ca (bs nm))
          have QB := Lib.hid (refw_q (l := b) (by have := TB.out.len; rw [R6_len] at this; omega) Ab cb (bs nm))
          have hin' : (i : Int) < (nr : Int) := by omega
          generalize wt lw (bs nm) = W at QW hf
          generalize wt la (bs nm) = V at QL hf
          generalize wt a (bs nm) = x at QA hf
          generalize wt b (bs nm) = y at QB hf
          have HF := Lib.hid hf
          clear hf
          go_wp2_with fail
          go_quiet (first
            | (go_at_call 20; (with_reducible refine (QW.out _ ?side1 hl6).mono ?_); (case side1 => repeat (first | exact CW.out | (with_reducible refine Kd.C_drewN ?_ _) | (with_reducible refine Kd.C_drew ?_))); rintro e w' ⟨rfl, ⟨nd, rfl⟩⟩; (try first | exact ⟨rfl, _, World.drewN_drewN _ _ _⟩ | exact ⟨rfl, _, Eq.trans (World.drewN_drewN _ _ _) (congrArg (World.drewN _) (Nat.add_assoc _ _ _))⟩))
            | (go_at_call 20; (with_reducible refine (QL.out _ ?side1 hll).mono ?_); (case side1 => repeat (first | exact CL.out | (with_reducible refine Kd.C_drewN ?_ _) | (with_reducible refine Kd.C_drew ?_))); rintro e w' ⟨rfl, ⟨nd, rfl⟩⟩; (try first | exact ⟨rfl, _, World.drewN_drewN _ _ _⟩ | exact ⟨rfl, _, Eq.trans (World.drewN_drewN _ _ _) (congrArg (World.drewN _) (Nat.add_assoc _ _ _))⟩))
            | (go_at_call 20; (with_reducible refine (QA.out _ ?side1 hla).mono ?_); (case side1 => repeat (first | exact CA.out | (with_reducible refine Kd.C_drewN ?_ _) | (with_reducible refine Kd.C_drew ?_))); rintro e w' ⟨rfl, ⟨nd, rfl⟩⟩; (try first | exact ⟨rfl, _, World.drewN_drewN _ _ _⟩ | exact ⟨rfl, _, Eq.trans (World.drewN_drewN _ _ _) (congrArg (World.drewN _) (Nat.add_assoc _ _ _))⟩))
            | (go_at_call 20; (with_reducible refine (QB.out _ ?side1 hlb).mono ?_); (case side1 => repeat (first | exact CB.out | (with_reducible refine Kd.C_drewN ?_ _) | (with_reducible refine Kd.C_drew ?_))); rintro e w' ⟨rfl, ⟨nd, rfl⟩⟩; (try first | exact ⟨rfl, _, World.drewN_drewN _ _ _⟩ | exact ⟨rfl, _, Eq.trans (World.drewN_drewN _ _ _) (congrArg (World.drewN _) (Nat.add_assoc _ _ _))⟩)))
          have hbd := (⟨⟨_, rfl⟩⟩ : Drawn0 wr (wr.drewN nq)).below
          have CW' := Lib.hid (Kd.C_below CW.out hbd)
          have CL' := Lib.hid (Kd.C_below CL.out hbd)
          have CA' := Lib.hid (Kd.C_below CA.out hbd)
          have CB' := Lib.hid (Kd.C_below CB.out hbd)
          have CR' := Lib.hid (Kd.C_below CR.out hbd)
          have bw' := bw.trans (hbd.mono bw.size)
          clear QW QL QA QB CW CL CA CB CR bw hbd hce
          have e1 : decide (x ≤ y) = decide (x ≤ y) := rfl
          clear e1
          by_cases hxy : x ≤ y
          · have g1 : decide (x ≤ y) = true := decide_eq_true hxy
            have g2 : decide (W < V) = false := decide_eq_false (by have := (HF.out.1 hxy).1; omega)
            have g3 : decide (y < W) = false := decide_eq_false (by have := (HF.out.1 hxy).2; omega)
            by_cases hyx : y ≤ x
            · have g4 : decide (y ≤ x) = true := decide_eq_true hyx
              have g5 : decide (V < W) = false := decide_eq_false (by have := (HF.out.2 hyx).1; omega)
              have g6 : decide (W < y) = false := decide_eq_false (by have := (HF.out.2 hyx).2; omega)
              clear hxy hyx
              go_wp2_with fail
              go_roundw
              case rel => exact ⟨i + 1, by omega, by go_num, CW', CL', CA', CB', CR', bw'⟩
              case measure => simp [vI]; omega
            · have g4 : decide (y ≤ x) = false := decide_eq_false hyx
              clear hxy hyx
              go_wp2_with fail
              go_roundw
              case rel => exact ⟨i + 1, by omega, by go_num, CW', CL', CA', CB', CR', bw'⟩
              case measure => simp [vI]; omega
          · have g1 : decide (x ≤ y) = false := decide_eq_false hxy
            have g4 : decide (y ≤ x) = true := decide_eq_true (by omega)
            have g5 : decide (V < W) = false := decide_eq_false (by have := (HF.out.2 (by omega)).1; omega)
            have g6 : decide (W < y) = false := decide_eq_false (by have := (HF.out.2 (by omega)).2; omega)
            clear hxy
            go_wp2_with fail
            go_roundw
            case rel => exact ⟨i + 1, by omega, by go_num, CW', CL', CA', CB', CR', bw'⟩
            case measure => simp [vI]; omega
        · obtain rfl : i = nr := by omega
          have HL' : Hid (lw = lastL a b n (t + 1)) := Lib.hid (by rw [HW.out]; unfold lastL; rw [if_neg (by omega)]; congr 1; omega)
          go_wp2_with fail
          go_roundw
          case rel => exact ⟨t + 1, lw, A6, c6, by omega, by go_num, rfl, hl6, CW, HL', CA, CB, CR, bw⟩
          case measure => simp [vI]; omega
    · have hla' : Hid (la = b) := Lib.hid (by rw [HL.out]; unfold lastL; rw [if_neg (by omega)]; exact roll_to (by omega))
      go_wp2_with fail
      refine (damperref5_Shares.calls (la.length + 1) Al cl la Ab cb b true _ CL.out hll CB.out hlb (by rw [hla'.out]; exact same_f (by have := TB.out.len; rw [R6_len] at this; omega) _ (by omega))).mono ?_
      rintro e w8 ⟨rfl, hd8⟩
      go_wp2_with fail
      go_ret
      exact ⟨rfl, bw.trans (hd8.below.mono bw.size)⟩

end Go.Proofs.Ytdbikchddonjnaa.PA
