/- LeadWhole: the walk. (Printed by leadlaws.py and genx.py.) -/
import Derived.Test.YtnkmpkhiilnigaaRefTwo
set_option linter.unusedSimpArgs false
set_option linter.unusedVariables false
namespace Go.Proofs.Ytnkmpkhiilnigaa.PA
open Go.RowKit Go.Shelf Go.Lib Go.Sort Go.Proofs.YtnkmpkhiilnigaaW.PrintWords Go.Proofs.YtnkmpkhiilnigaaW.PrintLast

def nmFront : ByteArray := ⟨#[102, 114, 111, 110, 116]⟩
def nmBack : ByteArray := ⟨#[98, 97, 99, 107]⟩
def nmStill : ByteArray := ⟨#[115, 116, 105, 108, 108]⟩

set_option maxHeartbeats 1000000 in
theorem rightC {A : Option Addr} {c : Nat} {l : List S40} {B : Option Addr} {d : Nat} (w : World) (h0 : Kd.C k40 w A l.length l) (l0 : l.length ≤ c) (ht : Tab R6 l) :
    Calls Try.prog 16 #[.agg #[.slice A l.length c, .slice B 0 d]] w fun e w' => e = .returned (.bool true) ∧ Below w.heap.size w w' :=
  right0 (b := w.heap.size) w ⟨h0, fun hp a e => by have := share_lt h0 hp a e; omega⟩ l0 ⟨⟨rfl, by simp, fun hp => absurd hp (by simp)⟩, fun hp => absurd hp (by simp)⟩ ht
/-- On the way to y, never beyond; what may grow of a way is below y. -/
structure Up (x y : List S40) (m : WayM) (t : Int) : Prop where
  fr : Tab R6 m.fr
  dst : m.dst = y
  whole : 1 ≤ m.whole
  now : m.now = rollL m.fr y (t - m.since) m.whole
  lo : ∀ n ∈ R6, wn x n ≤ wn y n → wn m.fr n ≤ wn y n
theorem Up.step {x y : List S40} {m : WayM} {t u v : Int} (h : Up x y m t) (ty : Tab R6 y) (htu : t ≤ u) (hv : 1 ≤ v) (tg : List S42) :
    Up x y (turnW (some m) y tg u v) u ∧ ∀ n ∈ R6, wn x n ≤ wn y n → wn m.now n ≤ wn (turnW (some m) y tg u v).now n := by
  by_cases e : m.whole = v
  · have hb := base_same (m := m) h.dst e u
    have hd : turnW (some m) y tg u v = ⟨m.fr, m.dst, m.since, m.whole, rollL m.fr m.dst (u - m.since) v, tg⟩ := by unfold turnW; rw [hb]
    rw [hd]
    refine ⟨⟨h.fr, h.dst, h.whole, by show rollL m.fr m.dst _ v = _; rw [h.dst, e], h.lo⟩, fun n hn hx => ?_⟩
    show wn m.now n ≤ wn (rollL m.fr m.dst (u - m.since) v) n
    rw [h.now, h.dst, e]
    exact (roll_mono R6_rising h.fr ty (by omega) (by omega) n hn).1 (h.lo n hn hx)
  · have hb := base_other (m := m) (sh := y) (whole := v) (fun hh => e hh.2) u
    have hr : rollL m.now y (u - u) v = m.now := roll_from (by omega) (by omega)
    have hd : turnW (some m) y tg u v = ⟨m.now, y, u, v, m.now, tg⟩ := by unfold turnW; rw [hb]; exact congrArg (fun l => (⟨m.now, y, u, v, l, tg⟩ : WayM)) hr
    rw [hd]
    have tn : Tab R6 m.now := by rw [h.now]; exact roll_tab' R6_rising h.fr ty _ _
    refine ⟨⟨tn, rfl, hv, hr.symm, fun n hn hx => ?_⟩, fun n _ _ => Int.le_refl _⟩
    show wn m.now n ≤ wn y n
    rw [h.now]
    have hw := h.whole
    exact ((roll_between R6_rising h.fr ty (by omega) n hn).1 (h.lo n hn hx)).2
theorem Up.start {x y : List S40} (tx : Tab R6 x) {wv : Int} (hw : 1 ≤ wv) : Up x y (turnW (some (turnW none x [] 0 wv)) y [] 0 wv) 0 := by
  obtain ⟨m, e, h1, h2, h3, h4⟩ := goes_first (a := x) (y := y) tx wv [] []
  have e := Option.some.inj e
  rw [e]
  have hn : (turnW (some (turnW none x [] 0 wv)) y [] 0 wv).now = rollL (turnW (some (turnW none x [] 0 wv)) y [] 0 wv).fr (turnW (some (turnW none x [] 0 wv)) y [] 0 wv).dst (0 - (turnW (some (turnW none x [] 0 wv)) y [] 0 wv).since) wv := rfl
  rw [e, h2] at hn
  exact ⟨by rw [h1]; exact tx, h2, by omega, by rw [hn, h4], fun n _ hx => by rw [h1]; exact hx⟩
theorem Up.tab {x y : List S40} {m : WayM} {t : Int} (h : Up x y m t) (ty : Tab R6 y) : Tab R6 m.now := by rw [h.now]; exact roll_tab' R6_rising h.fr ty _ _

theorem lw_rest (r : ByteArray) (l : List S40) (hl : l.length ≤ 1000000) : ∀ m i : Nat, i + m = l.length → damperlaw13_weight.l0 (m + 1) l r (i : Int) = some (wt (l.drop i) r) := by
  intro m
  induction m with
  | zero =>
    intro i hi
    unfold damperlaw13_weight.l0
    rw [if_neg (by omega), List.drop_of_length_le (by omega)]
    rfl
  | succ m ih =>
    intro i hi
    have hlt : i < l.length := by omega
    have hg : rd_T40 l (i : Int) = l[i] := by unfold rd_T40; simp [List.getD_eq_getElem?_getD, hlt]
    unfold damperlaw13_weight.l0
    rw [if_pos (by omega), if_pos (by omega), hg, List.drop_eq_getElem_cons hlt, wt_cons]
    by_cases e : l[i].f0.toList = r.toList
    · rw [if_pos e, if_pos e]
    · rw [if_neg e, if_neg e, w64 (by omega) (by omega)]
      have := ih (i + 1) (by omega)
      rw [show ((i + 1 : Nat) : Int) = (i : Int) + 1 by omega] at this
      exact this
theorem lw_q {l : List S40} (hl : l.length ≤ 1000000) (A : Option Addr) (c : Nat) (r : ByteArray) (w : World) (hC : Kd.C k40 w A l.length l) (hc : l.length ≤ c) :
    Calls Try.prog 22 #[.slice A l.length c, .string r] w fun e w' => e = .returned (.int .i64 (wt l r)) ∧ ∃ n, w' = w.drewN n :=
  (damperlaw13_weight.calls (l.length + 1) A c l r (wt l r) w hC hc (by unfold damperlaw13_weight.f; exact lw_rest r l hl l.length 0 (by omega))).mono fun _ _ ⟨h1, h2⟩ => ⟨h1, h2.out⟩

/-- Without a block that the law writes. -/
def Less (K : Nat → Prop) (g : Nat) : Nat → Prop := fun k => K k ∧ k ≠ g
theorem Kept.less {P : (Nat → Prop) → World → Prop} (hp : Kept P) {K K' : Nat → Prop} {w w' : World} {g : Nat} (hK : ∀ k, k < w.heap.size → K k → K' k) (hc : Chg (fun k => ¬ K k) w w') (h : P (Less K g) w) : P (Less K' g) w' :=
  hp _ _ _ _ (fun k hk h => ⟨hK k hk h.1, h.2⟩) (hc.mono fun k _ hn hl => hn hl.1) h
theorem Kept.set {P : (Nat → Prop) → World → Prop} (hp : Kept P) {K : Nat → Prop} {w w' : World} {g : Nat} (hc : Chg (fun k => k = g) w w') (h : P (Less K g) w) : P (Less K g) w' :=
  hp _ _ _ _ (fun k hk h => h) (hc.mono fun k _ e hl => hl.2 e) h
theorem Kept.enter {P : (Nat → Prop) → World → Prop} (hp : Kept P) {K : Nat → Prop} {w w' : World} {g : Nat} (hg : w.heap.size ≤ g) (hc : Below w.heap.size w w') (h : P K w) : P (Less K g) w' :=
  hp _ _ _ _ (fun k hk h => ⟨h, by omega⟩) (Chg.of_below hc (fun k h1 h2 => by omega)) h
def RowKS (A : Option Addr) (l : List ByteArray) (K : Nat → Prop) (w : World) : Prop := Kd.C Kd.string w A l.length l ∧ InOk K A l.length
theorem Kept.rowS (A : Option Addr) (l : List ByteArray) : Kept (RowKS A l) := fun K K' w w' hk hc h =>
  ⟨c_move (fun h => h) h.1 (fun hp a e => hc.block a.block (str_lt h.1 hp a e) (fun hn => hn (h.2 hp a e))), fun hp a e => hk _ (str_lt h.1 hp a e) (h.2 hp a e)⟩
theorem RowK.out_ {A A' : Option Addr} {l : List S40} {K : Nat → Prop} {w : World} {g : Nat} {cs : Array Value} (h : RowK A l K w) (hk : Blk w g cs 29) (hs : ∀ (j : Nat) (s : ByteArray), cs[j]? ≠ some (.string s)) (_e : A = A') : RowK A l (Less K g) w := ⟨h.1, fun hp a e => ⟨h.2 hp a e, fun e' => by
  obtain ⟨g', o, hA, _, hc0⟩ := shares_at h.1 hp
  rw [hA] at e
  cases e
  have h9 := (hc0 0 hp).1
  subst e'
  rw [hk.cell] at h9
  exact hs _ _ h9⟩⟩
theorem tab_noS (a b : Option Addr) (n c m d : Nat) : ∀ (j : Nat) (s : ByteArray), (#[.slice a n c, .slice b m d] : Array Value)[j]? ≠ some (.string s) := fun j s e => by
  match j, e with
  | 0, e => cases e
  | 1, e => cases e
  | _ + 2, e => cases e

set_option maxRecDepth 100000 in
set_option maxHeartbeats 8000000 in
theorem whole_law (A0 : Option Addr) (c0 : Nat) (l0 : List Int) (A1 : Option Addr) (c1 : Nat) (l1 : List Int) (a2 : Int) (a3 : Int) (a4 : Int) (A5 : Option Addr) (c5 : Nat) (l5 : List Int) (w : World) (hr0 : Kd.C (Kd.int .i64) w A0 l0.length l0) (hc0 : l0.length ≤ c0) (hr1 : Kd.C (Kd.int .i64) w A1 l1.length l1) (hc1 : l1.length ≤ c1) (hr5 : Kd.C (Kd.int .i64) w A5 l5.length l5) (hc5 : l5.length ≤ c5) :
    Calls Try.prog 7 #[.slice A0 l0.length c0, .slice A1 l1.length c1, .int .i64 a2, .int .i64 a3, .int .i64 a4, .slice A5 l5.length c5] w fun e w' => e = .returned (.bool true) ∧ Below w.heap.size w w' := by
  obtain ⟨k0, a, ha, ta⟩ := shares_tab l0
  obtain ⟨k1, y, hy, ty⟩ := shares_tab l1
  have HA := Lib.hid ha
  have HY := Lib.hid hy
  have TA := Lib.hid ta
  have TY := Lib.hid ty
  have HR0 := Lib.hid hr0
  have HR1 := Lib.hid hr1
  have HR5 := Lib.hid hr5
  clear ha hy ta ty hr0 hr1 hr5
  go_enter Try.func7, Try.ntmps7
  go_wp2_with fail
  refine (known13 _).mono ?_
  rintro e w1 ⟨rfl, hb1⟩
  go_wp2_with fail
  refine (new_calls _).mono ?_
  rintro e w2 ⟨p, b, rfl, R2, hp, hb, hb2⟩
  have z1 := hb1.size
  obtain ⟨q, hq⟩ : ∃ q, q = w2.heap.size := ⟨_, rfl⟩
  obtain ⟨W2, hW2⟩ : ∃ W2, W2 = w2.alloc (.cells #[.slice none 0 0] 52) := ⟨_, rfl⟩
  have bW2 : Below w2.heap.size w2 W2 := by rw [hW2]; exact (Below.refl _ _).alloc (Nat.le_refl _) _
  have kq : Blk W2 q #[.slice none 0 0] 52 := by rw [hW2, hq]; exact Blk.new _ _ _
  have hRl := (RollerO.first R2).lt
  have T2 := Lib.hid (Two.first (R2.below bW2) kq (by omega) (by omega))
  have b2 := below_step (below_step hb1 hb2) bW2
  have z2 := hb2.size
  have hKw : ∀ k, k < w.heap.size → k ≠ q ∧ k ≠ b := fun k hk => ⟨by omega, by omega⟩
  obtain ⟨K, hK⟩ : ∃ K : Nat → Prop, K = fun k => k ≠ q ∧ k ≠ b := ⟨_, rfl⟩
  rw [← hK] at T2
  have HKW := Lib.hid (show ∀ k, k < w.heap.size → K k from fun k hk => by rw [hK]; exact hKw k hk)
  have hpb : p ≠ b := hRl.2.2
  have hbq : b < q := by omega
  clear hb1 hb2 bW2 kq R2 hK hKw z1 hRl hb
  go_upto_region 6 with fail
  rw [← hW2, ← hq]
  clear hW2 hq
  go_wp2_with fail
  refine (make_nil A0 c0 l0 _ (Kd.C_below HR0.out b2) hc0 k0 a HA.out).mono ?_
  rintro e w3 ⟨Ax, cx, rfl, hx0, hx1, hx2, hb3⟩
  have b3 := b2.trans (hb3.mono b2.size)
  go_wp2_with fail
  refine (make_nil A1 c1 l1 _ (Kd.C_below HR1.out b3) hc1 k1 y HY.out).mono ?_
  rintro e w4 ⟨Ay, cy, rfl, hy0, hy1, hy2, hb4⟩
  have b4 := b3.trans (hb4.mono b3.size)
  obtain ⟨gx, hgx⟩ : ∃ gx, gx = w4.heap.size := ⟨_, rfl⟩
  obtain ⟨W5, hW5⟩ : ∃ W5, W5 = (w4.alloc (.cells #[.slice Ax a.length cx, .slice none 0 0] 29)).alloc (.cells #[.slice Ay y.length cy, .slice none 0 0] 29) := ⟨_, rfl⟩
  have bW5 : Below w4.heap.size w4 W5 := by rw [hW5]; exact ((Below.refl _ _).alloc (Nat.le_refl _) _).alloc (by simp) _
  have kx : Blk W5 gx #[.slice Ax a.length cx, .slice none 0 0] 29 := by rw [hW5, hgx]; exact (Blk.new _ _ _).alloc _
  have ky : Blk W5 (gx + 1) #[.slice Ay y.length cy, .slice none 0 0] 29 := by
    rw [hW5, hgx]
    have := Blk.new (w4.alloc (.cells #[.slice Ax a.length cx, .slice none 0 0] 29)) #[.slice Ay y.length cy, .slice none 0 0] 29
    simpa using this
  have bb4 := below_step hb3 hb4
  have bb5 := below_step bb4 bW5
  have T5 := Lib.hid (T2.out.below bb5)
  have z3 := hb3.size
  have z4 := hb4.size
  have hnw : ∀ k, W2.heap.size ≤ k → K k := fun k hk => T2.out.new hk
  obtain ⟨P, hpk, hpx, hP5⟩ : ∃ P : (Nat → Prop) → World → Prop, Kept P ∧ (∀ K W, P K W → RowK Ax a K W ∧ RowK Ay y K W ∧ BlkK gx #[.slice Ax a.length cx, .slice none 0 0] 29 K W ∧ BlkK (gx + 1) #[.slice Ay y.length cy, .slice none 0 0] 29 K W ∧ BelowK w K W) ∧ P K W5 :=
    ⟨_, (Kept.row Ax a).and ((Kept.row Ay y).and ((Kept.blk gx _ _).and ((Kept.blk (gx + 1) _ _).and (Kept.below w)))), fun K W h => h,
      ⟨Kd.C_below (Kd.C_below hx1 hb4) bW5, fun hp a e => hnw _ (hx2 hp a e)⟩, ⟨Kd.C_below hy1 bW5, fun hp a e => hnw _ (Nat.le_trans z3 (hy2 hp a e))⟩, ⟨hnw _ (by omega), kx⟩, ⟨hnw _ (by omega), ky⟩, below_step b2 bb5, HKW.out⟩
  have HPK := Lib.hid hpk
  have HPX := Lib.hid hpx
  have P5 := Lib.hid hP5
  have zb5 := T5.out.lt
  clear hx1 hy1 hx2 hy2 hb3 hb4 b2 b3 b4 bb4 bb5 kx ky bW5 T2 HKW hpk hpx hP5 hnw z2 z3 z4 hp hbq
  go_upto_region 7 with fail
  rw [← hW5, ← hgx]
  clear hW5 hgx
  go_wp2_with fail
  have hwi := Lib.hid (within13 a2 60 (by omega) (by omega))
  have wh0 := Int.emod_nonneg a2 (b := 60) (by omega)
  have wh1 := Int.emod_lt_of_pos a2 (b := 60) (by omega)
  refine (damperlaw13_within.calls a2 60 (a2 % 60) _ hwi.out).mono ?_
  rintro e W6 ⟨rfl, hd_⟩
  have hd_ := hd_.below
  clear hwi
  have T6 := Lib.hid (T5.out.below hd_)
  have P6 := Lib.hid (HPK.out.step hd_ P5.out)
  obtain ⟨wq, hwq⟩ : ∃ wq, wq = a2 % 60 := ⟨_, rfl⟩
  rw [← hwq] at wh0 wh1 ⊢
  obtain ⟨wv, hwv⟩ : ∃ wv, wv = 1 + wq := ⟨_, rfl⟩
  have hwv0 : 1 ≤ wv := by omega
  have hwv1 : wv ≤ 60 := by omega
  have HWV := Lib.hid hwv
  clear hwq hwv hd_ T5 P5
  go_wp2_with fail
  have hwi := Lib.hid (within13 a3 60 (by omega) (by omega))
  have vh0 := Int.emod_nonneg a3 (b := 60) (by omega)
  have vh1 := Int.emod_lt_of_pos a3 (b := 60) (by omega)
  refine (damperlaw13_within.calls a3 60 (a3 % 60) _ hwi.out).mono ?_
  rintro e W7 ⟨rfl, hd_⟩
  have hd_ := hd_.below
  clear hwi
  have T7 := Lib.hid (T6.out.below hd_)
  have P7 := Lib.hid (HPK.out.step hd_ P6.out)
  obtain ⟨vq, hvq⟩ : ∃ vq, vq = a3 % 60 := ⟨_, rfl⟩
  rw [← hvq] at vh0 vh1 ⊢
  obtain ⟨vv, hvv⟩ : ∃ vv, vv = 1 + vq := ⟨_, rfl⟩
  have hvv0 : 1 ≤ vv := by omega
  have hvv1 : vv ≤ 60 := by omega
  have HVV := Lib.hid hvv
  clear hvq hvv hd_ T6 P6
  go_upto_region 8 with fail
  rw [← HWV.out, ← HVV.out]
  clear HWV HVV wh0 wh1 vh0 vh1
  go_wp2_with fail
  have hwi := Lib.hid (within13 a4 wv (by omega) (by omega))
  have tt0 := Int.emod_nonneg a4 (b := wv) (by omega)
  have tt1 := Int.emod_lt_of_pos a4 (b := wv) (by omega)
  refine (damperlaw13_within.calls a4 wv (a4 % wv) _ hwi.out).mono ?_
  rintro e W8 ⟨rfl, hd_⟩
  have hd_ := hd_.below
  clear hwi
  have T8 := Lib.hid (T7.out.below hd_)
  have P8 := Lib.hid (HPK.out.step hd_ P7.out)
  obtain ⟨t0, ht0⟩ : ∃ t0, t0 = a4 % wv := ⟨_, rfl⟩
  rw [← ht0] at tt0 tt1 ⊢
  clear ht0 hd_ T7 P7
  obtain ⟨m1, hm1⟩ : ∃ m1, m1 = turnW none a [] 0 wv := ⟨_, rfl⟩
  obtain ⟨m2, hm2⟩ : ∃ m2, m2 = turnW (some m1) y [] 0 wv := ⟨_, rfl⟩
  obtain ⟨m3, hm3⟩ : ∃ m3, m3 = turnW (some m2) y [] t0 wv := ⟨_, rfl⟩
  have HU3 := Lib.hid (show Up a y m3 t0 from by rw [hm3]; exact (Up.step (by rw [hm2, hm1]; exact Up.start TA.out hwv0) TY.out tt0 hwv0 []).1)
  have HM1 := Lib.hid hm1
  have HM2 := Lib.hid hm2
  have HM3 := Lib.hid hm3
  clear hm1 hm2 hm3
  have OM8 := Lib.hid (OkM.none 0)
  have OD8 := Lib.hid (OkM.none 0)
  have FM8 : Hid (noWays nmFront.data.toList = none) := Lib.hid rfl
  have FD8 : Hid (noWays nmFront.data.toList = none) := Lib.hid rfl
  have f_ := HPX.out _ _ P8.out
  have qx0 := f_.2.2.1.2.cell 0
  have qx1 := f_.2.2.1.2.cell 1
  simp only [List.getElem?_toArray, List.getElem?_cons_zero, List.getElem?_cons_succ] at qx0 qx1
  clear f_
  go_wp2_with fail
  refine (two_turn0 T8.out OM8.out nmFront (by decide) (by decide) Ax cx a (HPX.out _ _ P8.out).1.1 TA.out 0 wv (by omega) (by omega) (by omega) (by omega)).mono ?_
  rintro e W9 ⟨A9, c9, B9, d9, rfl, ⟨r9, z9, s9⟩, T9, O9, hc9⟩
  rw [FM8.out, ← HM1.out] at r9 z9 T9 O9 ⊢
  have FM9 := Lib.hid (show setWay nmFront.data.toList (some m1) noWays nmFront.data.toList = some m1 from setWay_same _ _ _)
  generalize setWay nmFront.data.toList (some m1) noWays = M9 at T9 O9 FM9
  have P9 := Lib.hid (HPK.out _ _ _ _ (fun _ _ h => h) hc9 P8.out)
  have OM9 := Lib.hid O9
  have T9 := Lib.hid T9
  clear qx0 qx1
  clear hc9 r9 z9 s9 T8 P8 OM8 FM8
  have f_ := HPX.out _ _ P9.out
  have qx0 := f_.2.2.1.2.cell 0
  have qx1 := f_.2.2.1.2.cell 1
  simp only [List.getElem?_toArray, List.getElem?_cons_zero, List.getElem?_cons_succ] at qx0 qx1
  clear f_
  go_wp2_with fail
  refine (two_dturn0 T9.out (by omega) OD8.out nmFront Ax cx a (HPX.out _ _ P9.out).1.1 hx0 TA.out 0 wv (by omega) (by omega) (by omega) (by omega)).mono ?_
  rintro e W10 ⟨A10, c10, B10, d10, rfl, _, K10, T10, O10, hk10, hc10⟩
  rw [FD8.out, ← HM1.out] at T10 O10 ⊢
  have FD10 := Lib.hid (show setWay nmFront.data.toList (some m1) noWays nmFront.data.toList = some m1 from setWay_same _ _ _)
  generalize setWay nmFront.data.toList (some m1) noWays = D10 at T10 O10 FD10
  have OD10 := Lib.hid O10
  have T10 := Lib.hid T10
  have P10 := Lib.hid (HPK.out _ _ _ _ hk10 hc10 P9.out)
  clear qx0 qx1
  clear hk10 hc10 T9 P9 OD8 FD8
  have f_ := HPX.out _ _ P10.out
  have qy0 := f_.2.2.2.1.2.cell 0
  have qy1 := f_.2.2.2.1.2.cell 1
  simp only [List.getElem?_toArray, List.getElem?_cons_zero, List.getElem?_cons_succ] at qy0 qy1
  clear f_
  go_wp2_with fail
  refine (two_turn0 T10.out OM9.out nmFront (by decide) (by decide) Ay cy y (HPX.out _ _ P10.out).2.1.1 TY.out 0 wv (by omega) (by omega) (by omega) (by omega)).mono ?_
  rintro e W11 ⟨A11, c11, B11, d11, rfl, ⟨r11, z11, s11⟩, T11, O11, hc11⟩
  rw [FM9.out, ← HM2.out] at r11 z11 T11 O11 ⊢
  have FM11 := Lib.hid (show setWay nmFront.data.toList (some m2) M9 nmFront.data.toList = some m2 from setWay_same _ _ _)
  generalize setWay nmFront.data.toList (some m2) M9 = M11 at T11 O11 FM11
  have P11 := Lib.hid (HPK.out _ _ _ _ (fun _ _ h => h) hc11 P10.out)
  have OM11 := Lib.hid O11
  have T11 := Lib.hid T11
  clear qy0 qy1
  clear hc11 r11 z11 s11 T10 P10 OM9 FM9
  have f_ := HPX.out _ _ P11.out
  have qy0 := f_.2.2.2.1.2.cell 0
  have qy1 := f_.2.2.2.1.2.cell 1
  simp only [List.getElem?_toArray, List.getElem?_cons_zero, List.getElem?_cons_succ] at qy0 qy1
  clear f_
  go_wp2_with fail
  refine (two_dturn0 T11.out (by omega) OD10.out nmFront Ay cy y (HPX.out _ _ P11.out).2.1.1 hy0 TY.out 0 wv (by omega) (by omega) (by omega) (by omega)).mono ?_
  rintro e W12 ⟨A12, c12, B12, d12, rfl, _, K12, T12, O12, hk12, hc12⟩
  rw [FD10.out, ← HM2.out] at T12 O12 ⊢
  have FD12 := Lib.hid (show setWay nmFront.data.toList (some m2) D10 nmFront.data.toList = some m2 from setWay_same _ _ _)
  generalize setWay nmFront.data.toList (some m2) D10 = D12 at T12 O12 FD12
  have OD12 := Lib.hid O12
  have T12 := Lib.hid T12
  have P12 := Lib.hid (HPK.out _ _ _ _ hk12 hc12 P11.out)
  clear qy0 qy1
  clear hk12 hc12 T11 P11 OD10 FD10
  have f_ := HPX.out _ _ P12.out
  have qy0 := f_.2.2.2.1.2.cell 0
  have qy1 := f_.2.2.2.1.2.cell 1
  simp only [List.getElem?_toArray, List.getElem?_cons_zero, List.getElem?_cons_succ] at qy0 qy1
  clear f_
  go_wp2_with fail
  refine (two_turn0 T12.out OM11.out nmFront (by decide) (by decide) Ay cy y (HPX.out _ _ P12.out).2.1.1 TY.out t0 wv (by omega) tt0 (by omega) (by omega)).mono ?_
  rintro e W13 ⟨A13, c13, B13, d13, rfl, ⟨r13, z13, s13⟩, T13, O13, hc13⟩
  rw [FM11.out, ← HM3.out] at r13 z13 T13 O13 ⊢
  have FM13 := Lib.hid (show setWay nmFront.data.toList (some m3) M11 nmFront.data.toList = some m3 from setWay_same _ _ _)
  generalize setWay nmFront.data.toList (some m3) M11 = M13 at T13 O13 FM13
  have P13 := Lib.hid (HPK.out _ _ _ _ (fun _ _ h => h) hc13 P12.out)
  have OM13 := Lib.hid O13
  have T13 := Lib.hid T13
  clear qy0 qy1
  obtain ⟨gl, hgl⟩ : ∃ gl, gl = W13.heap.size := ⟨_, rfl⟩
  obtain ⟨Wl, hWl⟩ : ∃ Wl, Wl = W13.alloc (.cells #[.slice A13 m3.now.length c13, .slice B13 0 d13] 29) := ⟨_, rfl⟩
  have bWl : Below W13.heap.size W13 Wl := by rw [hWl]; exact (Below.refl _ _).alloc (Nat.le_refl _) _
  have kl : Blk Wl gl #[.slice A13 m3.now.length c13, .slice B13 0 d13] 29 := by rw [hWl, hgl]; exact Blk.new _ _ _
  have Tl := Lib.hid (T13.out.below bWl)
  have KLl := Lib.hid (show BlkK gl #[.slice A13 m3.now.length c13, .slice B13 0 d13] 29 K12 Wl from ⟨T13.out.new (by omega), kl⟩)
  have Pl := Lib.hid (HPK.out.enter (g := gl) (by omega) bWl P13.out)
  have rl := Lib.hid ((Kept.row A13 m3.now).enter (g := gl) (by omega) bWl r13)
  have hbgl : b ≠ gl := by have := T13.out.lt; omega
  clear r13 s13 P13 T13 hc13 bWl kl
  go_upto_region 14 with fail
  rw [← hWl, ← hgl]
  clear hWl hgl
  have f_ := HPX.out _ _ Pl.out
  have qy0 := f_.2.2.2.1.2.cell 0
  have qy1 := f_.2.2.2.1.2.cell 1
  simp only [List.getElem?_toArray, List.getElem?_cons_zero, List.getElem?_cons_succ] at qy0 qy1
  clear f_
  go_wp2_with fail
  refine (two_dturn0 Tl.out (by omega) OD12.out nmFront Ay cy y (HPX.out _ _ Pl.out).2.1.1 hy0 TY.out t0 wv (by omega) tt0 (by omega) (by omega)).mono ?_
  rintro e W14 ⟨A14, c14, B14, d14, rfl, _, K14, T14, O14, hk14, hc14⟩
  rw [FD12.out, ← HM3.out] at T14 O14 ⊢
  have FD14 := Lib.hid (show setWay nmFront.data.toList (some m3) D12 nmFront.data.toList = some m3 from setWay_same _ _ _)
  generalize setWay nmFront.data.toList (some m3) D12 = D14 at T14 O14 FD14
  have OD14 := Lib.hid O14
  have T14 := Lib.hid T14
  have P14 := Lib.hid (HPK.out.less hk14 hc14 Pl.out)
  have rl14 := Lib.hid ((Kept.row A13 m3.now).less hk14 hc14 rl.out)
  have KL14 := Lib.hid (Kept.blk gl _ _ _ _ _ _ hk14 hc14 KLl.out)
  clear rl KLl
  clear qy0 qy1
  clear hk14 hc14 Tl Pl OD12 FD12
  go_wp2_with fail
  refine (damperlaw5_Revs.calls revs6 _ revs_f).mono ?_
  rintro e Wr ⟨vr, rfl, hrr, hbr⟩
  obtain ⟨Ar, cr, rfl, hlr, hCr⟩ := Kd.R_reads hrr
  have hzl := KL14.out.2.lt
  have SR := Lib.hid (show RowKS Ar revs6 (Less K14 gl) Wr from ⟨hCr, fun hp ad e => by
    obtain ⟨inner, ho⟩ := Kd.R_own hrr
    have h1 := own_base ho ad.block (by rw [e]; rfl)
    exact ⟨T14.out.new h1, by omega⟩⟩)
  have Tr := Lib.hid (T14.out.below hbr)
  have Pr := Lib.hid (HPK.out.step hbr P14.out)
  have rlr := Lib.hid ((Kept.row A13 m3.now).step hbr rl14.out)
  have KLr := Lib.hid ((Kept.blk gl _ _).step hbr KL14.out)
  have zlr := Lib.hid z13
  obtain ⟨nr, hnr⟩ : ∃ nr : Nat, nr = revs6.length := ⟨_, rfl⟩
  rw [← hnr] at hlr ⊢
  have HNR := Lib.hid hnr
  have hnr6 : nr ≤ 6 := by rw [hnr]; exact Nat.le_refl _
  clear hrr hbr hCr T14 P14 rl14 KL14 z13 hzl hnr hlr HM1 HM2 HM3
  go_wp2_with fail
  go_loopw [19, 22] (fun v19 v22 wr => ∃ (i : Nat) (t : Int) (K : Nat → Prop) (M D : List UInt8 → Option WayM) (m : WayM) (Al : Option Addr) (cl : Nat) (Bl : Option Addr) (dl : Nat), i ≤ l5.length ∧ i ≤ 20 ∧ v19 = .int .i64 t ∧ 0 ≤ t ∧ t ≤ 60 + 4 * (i : Int) ∧ v22 = .int .i64 i ∧ Hid (Two wr p b q K M D (3 + i)) ∧ Hid (OkM M t) ∧ Hid (OkM D t) ∧ Hid (M nmFront.data.toList = some m) ∧ Hid (D nmFront.data.toList = some m) ∧ Hid (Up a y m t) ∧ Hid (m.now.length ≤ cl) ∧ Hid (RowK Al m.now (Less K gl) wr) ∧ Hid (BlkK gl #[.slice Al m.now.length cl, .slice Bl 0 dl] 29 K wr) ∧ Hid (RowKS Ar revs6 (Less K gl) wr) ∧ Hid (P (Less K gl) wr)) (fun _ v22 _ => l5.length - (vI v22).toNat)
  case atStart => exact ⟨0, t0, K14, M13, D14, m3, A13, c13, B13, d13, by omega, by omega, rfl, tt0, by omega, rfl, Tr, OM13, OD14, FM13, FD14, HU3, zlr, rlr, KLr, SR, Pr⟩
  case round =>
    clear Tr OM13 OD14 FM13 FD14 HU3 zlr rlr KLr SR Pr
    obtain ⟨i, t, Ki, M, D, m, Al, cl, Bl, dl, hi, hi20, rfl, ht0, ht1, rfl, TT, OM, OD, FM, FD, UU, zl, rl, KL, SR, PP⟩ := hrel
    by_cases hlt : i < l5.length
    · by_cases h20 : i < 20
      · have hlt' : (i : Int) < (l5.length : Int) := by omega
        obtain ⟨ad, rfl, hce⟩ := Kd.at_int (Kd.C_below HR5.out (HPX.out _ _ PP.out).2.2.2.2.1) (i : Int) (by omega) hlt'
        rw [Int.toNat_natCast] at hce
        generalize rd l5 i = nx at hce
        go_wp2_with fail
        have hwi := Lib.hid (within13 nx 5 (by omega) (by omega))
        have qq0 := Int.emod_nonneg nx (b := 5) (by omega)
        have qq1 := Int.emod_lt_of_pos nx (b := 5) (by omega)
        refine (damperlaw13_within.calls nx 5 (nx % 5) _ hwi.out).mono ?_
        rintro e W1 ⟨rfl, hd_⟩
        have hd_ := hd_.below
        clear hwi
        have T1 := Lib.hid (TT.out.below hd_)
        have P1 := Lib.hid (HPK.out.step hd_ PP.out)
        have rl1 := Lib.hid ((Kept.row Al m.now).step hd_ rl.out)
        have KL1 := Lib.hid ((Kept.blk gl _ _).step hd_ KL.out)
        have SR1 := Lib.hid ((Kept.rowS Ar revs6).step hd_ SR.out)
        generalize nx % 5 = qn at qq0 qq1 ⊢
        obtain ⟨u, hu⟩ : ∃ u, u = t + qn := ⟨_, rfl⟩
        have hu0 : 0 ≤ u := by omega
        have hu1 : u ≤ 60 + 4 * ((i : Int) + 1) := by omega
        have htu : t ≤ u := by omega
        have HU := Lib.hid hu
        clear hu hce hd_ TT PP rl KL SR
        have f_ := HPX.out _ _ P1.out
        have qy0 := f_.2.2.2.1.2.cell 0
        have qy1 := f_.2.2.2.1.2.cell 1
        simp only [List.getElem?_toArray, List.getElem?_cons_zero, List.getElem?_cons_succ] at qy0 qy1
        clear f_
        go_wp2_with fail
        rw [← HU.out]
        clear HU qq0 qq1
        refine (two_turn0 T1.out OM.out nmFront (by decide) (by decide) Ay cy y (HPX.out _ _ P1.out).2.1.1 TY.out u vv (by omega) htu (by omega) (by omega)).mono ?_
        rintro e W2 ⟨A2, c2, B2, d2, rfl, ⟨r2, z2, s2⟩, T2, O2, hc2⟩
        rw [FM.out] at r2 z2 T2 O2 ⊢
        have hus := UU.out.step TY.out htu hvv0 []
        obtain ⟨m', hm'⟩ : ∃ m', m' = turnW (some m) y [] u vv := ⟨_, rfl⟩
        rw [← hm'] at r2 z2 T2 O2 hus ⊢
        have HM' := Lib.hid hm'
        have FM2 := Lib.hid (show setWay nmFront.data.toList (some m') M nmFront.data.toList = some m' from setWay_same _ _ _)
        generalize setWay nmFront.data.toList (some m') M = M2 at T2 O2 FM2
        have UU2 := Lib.hid hus.1
        have UP2 := Lib.hid hus.2
        have tl := Lib.hid (UU.out.tab TY.out)
        have tw := Lib.hid (hus.1.tab TY.out)
        have OM2 := Lib.hid O2
        obtain ⟨gt, hgt⟩ : ∃ gt, gt = W2.heap.size := ⟨_, rfl⟩
        obtain ⟨W3, hW3⟩ : ∃ W3, W3 = W2.alloc (.cells #[.slice A2 m'.now.length c2, .slice B2 0 d2] 29) := ⟨_, rfl⟩
        have bW3 : Below W2.heap.size W2 W3 := by rw [hW3]; exact (Below.refl _ _).alloc (Nat.le_refl _) _
        have kt : Blk W3 gt #[.slice A2 m'.now.length c2, .slice B2 0 d2] 29 := by rw [hW3, hgt]; exact Blk.new _ _ _
        have hglt := KL1.out.2.lt
        have zc2 := hc2.size
        have hgtl : gt ≠ gl := by omega
        have T3 := Lib.hid (T2.below bW3)
        have P3 := Lib.hid (HPK.out.step bW3 (HPK.out.less (fun _ _ h => h) hc2 P1.out))
        have rl3 := Lib.hid ((Kept.row Al m.now).step bW3 ((Kept.row Al m.now).less (fun _ _ h => h) hc2 rl1.out))
        have KL3 := Lib.hid ((Kept.blk gl _ _).step bW3 (Kept.blk gl _ _ _ _ _ _ (fun _ _ h => h) hc2 KL1.out))
        have SR3 := Lib.hid ((Kept.rowS Ar revs6).step bW3 ((Kept.rowS Ar revs6).less (fun _ _ h => h) hc2 SR1.out))
        have rn3 := Lib.hid ((Kept.row A2 m'.now).step bW3 r2)
        have sn3 := Lib.hid ((Kept.rowT B2 []).step bW3 s2)
        have KT3 := Lib.hid (show BlkK gt #[.slice A2 m'.now.length c2, .slice B2 0 d2] 29 Ki W3 from ⟨T2.new (by omega), kt⟩)
        have zn := Lib.hid z2
        clear hm' hus O2 r2 s2 z2 T2 hc2 bW3 kt T1 P1 rl1 KL1 SR1 OM FM UU hglt zc2
        clear qy0 qy1
        go_upto_region 21 with fail
        rw [← hW3, ← hgt]
        clear hW3 hgt
        go_wp2_with fail
        have dr := (Below.refl W3.heap.size W3).drew
        have T4 := Lib.hid (T3.out.below dr)
        have P4 := Lib.hid (HPK.out.step dr P3.out)
        have rl4 := Lib.hid ((Kept.row Al m.now).step dr rl3.out)
        have KL4 := Lib.hid ((Kept.blk gl _ _).step dr KL3.out)
        have SR4 := Lib.hid ((Kept.rowS Ar revs6).step dr SR3.out)
        have rn4 := Lib.hid ((Kept.row A2 m'.now).step dr rn3.out)
        have sn4 := Lib.hid ((Kept.rowT B2 []).step dr sn3.out)
        have KT4 := Lib.hid ((Kept.blk gt _ _).step dr KT3.out)
        have LEN := Lib.hid (show m'.now.length ≤ 100000 from by have := tab_len tw.out; omega)
        clear dr T3 P3 rl3 KL3 SR3 rn3 sn3 KT3
        refine start_ (n := 13) (S := fun w' => w'.cell? ⟨gt, 0, none⟩ = some (.slice A2 m'.now.length c2) ∧ w'.cell? ⟨gt, 1, none⟩ = some (.slice B2 0 d2) ∧ w'.cell? ⟨gx + 1, 0, none⟩ = some (.slice Ay y.length cy) ∧ w'.cell? ⟨gx + 1, 1, none⟩ = some (.slice none 0 0)) (ds := []) #[false, false, false, false, false, false, false, false, false, false, false, false, false] (by kernel_rfl) rfl rfl ⟨KT4.out.b.cell 0, KT4.out.b.cell 1, (HPX.out _ _ P4.out).2.2.2.1.b.cell 0, (HPX.out _ _ P4.out).2.2.2.1.b.cell 1⟩ (fun hHeld => ?_)
        refine pure_ (i := 1) (N := some 95) (v := ?_) (a' := ?_) #[false, true, false, false, false, false, false, false, false, false, false, false, false] rfl rfl (by kernel_rfl) (fun _ _ _ h => h) (Or.inl ⟨by rfl, ?_⟩) ?_ ?_
        rotate_left
        · intro w'
          go_simp
          with_reducible rfl
        rotate_left
        · simp only [Act.put, List.setIfInBounds_toArray, List.set_cons_zero, List.set_cons_succ]
          rfl
        refine pure_ (i := 3) (N := some 97) (v := ?_) (a' := ?_) #[false, true, false, true, false, false, false, false, false, false, false, false, false] rfl rfl (by kernel_rfl) (fun _ _ _ h => h) (Or.inl ⟨by rfl, ?_⟩) ?_ ?_
        rotate_left
        · intro w'
          go_simp
          with_reducible rfl
        rotate_left
        · simp only [Act.put, List.setIfInBounds_toArray, List.set_cons_zero, List.set_cons_succ]
          rfl
        refine pure_ (i := 4) (N := some 98) (v := ?_) (a' := ?_) #[false, true, false, true, true, false, false, false, false, false, false, false, false] rfl rfl (by kernel_rfl) (fun _ _ _ h => h) (Or.inl ⟨by rfl, ?_⟩) ?_ ?_
        rotate_left
        · intro w'
          go_simp
          with_reducible rfl
        rotate_left
        · simp only [Act.put, List.setIfInBounds_toArray, List.set_cons_zero, List.set_cons_succ]
          rfl
        refine take_ (i := 0) (N := some 94) (v := ?_) (a' := ?_) #[true, true, false, true, true, false, false, false, false, false, false, false, false] rfl rfl (by kernel_rfl) (fun _ _ _ h => h) (Or.inl ⟨by rfl, ?_⟩) hHeld ?_ ?_
        rotate_left
        · rintro w' ⟨s0, s1, s2, s3⟩
          go_simp
          with_reducible rfl
        rotate_left
        · simp only [Act.put, List.setIfInBounds_toArray, List.set_cons_zero, List.set_cons_succ]
          rfl
        refine take_ (i := 2) (N := some 96) (v := ?_) (a' := ?_) #[true, true, true, true, true, false, false, false, false, false, false, false, false] rfl rfl (by kernel_rfl) (fun _ _ _ h => h) (Or.inl ⟨by rfl, ?_⟩) hHeld ?_ ?_
        rotate_left
        · rintro w' ⟨s0, s1, s2, s3⟩
          go_simp
          with_reducible rfl
        rotate_left
        · simp only [Act.put, List.setIfInBounds_toArray, List.set_cons_zero, List.set_cons_succ]
          rfl
        refine one_ (i := 5) (N := some 99) #[true, true, true, true, true, true, false, false, false, false, false, false, false] rfl rfl (by kernel_rfl) (by decide) (fun K hK => ?_)
        refine goes_ Try.func21 (by kernel_rfl) rfl #[.pointer (some ⟨q, 0, none⟩), .string nmFront, .agg #[.slice Ay y.length cy, .slice none 0 0], .int .i64 u, .int .i64 vv] (by rfl) rfl rfl (by simp only [List.map_toArray, List.map_cons, List.map_nil]; rfl) ?_
        with_reducible refine (two_dturn0 T4.out (by omega) OD.out nmFront Ay cy y (HPX.out _ _ P4.out).2.1.c hy0 TY.out u vv (by omega) htu (by omega) (by omega)).mono ?_
        rintro e W5 ⟨A5, c5, B5, d5, rfl, ⟨v50, v51, v52⟩, K5, T5, O5, hk5, hc5⟩
        rw [FD.out, ← HM'.out] at v50 v51 T5 O5 ⊢
        have FD5 := Lib.hid (show setWay nmFront.data.toList (some m') D nmFront.data.toList = some m' from setWay_same _ _ _)
        generalize setWay nmFront.data.toList (some m') D = D5 at T5 O5 FD5
        have OD5 := Lib.hid O5
        have T5 := Lib.hid T5
        have P5 := Lib.hid (HPK.out.less hk5 hc5 P4.out)
        have rl5 := Lib.hid ((Kept.row Al m.now).less hk5 hc5 rl4.out)
        have KL5 := Lib.hid (Kept.blk gl _ _ _ _ _ _ hk5 hc5 KL4.out)
        have SR5 := Lib.hid ((Kept.rowS Ar revs6).less hk5 hc5 SR4.out)
        have rn5 := Lib.hid (Kept.row A2 m'.now _ _ _ _ hk5 hc5 rn4.out)
        have sn5 := Lib.hid (Kept.rowT B2 [] _ _ _ _ hk5 hc5 sn4.out)
        have KT5 := Lib.hid (Kept.blk gt _ _ _ _ _ _ hk5 hc5 KT4.out)
        clear O5
        refine ⟨_, rfl, ?_⟩
        refine hK.out _ _ ⟨KT5.out.b.cell 0, KT5.out.b.cell 1, (HPX.out _ _ P5.out).2.2.2.1.b.cell 0, (HPX.out _ _ P5.out).2.2.2.1.b.cell 1⟩ (fun hHeld => ?_)
        clear hK K
        refine norm_ (a' := ?_) ?_ ?_
        rotate_left
        · show Act.put _ (some 99) _ = _
          simp only [Act.put, List.setIfInBounds_toArray, List.set_cons_zero, List.set_cons_succ]
          rfl
        refine one_ (i := 6) (N := some 100) #[true, true, true, true, true, true, true, false, false, false, false, false, false] rfl rfl (by kernel_rfl) (by decide) (fun K hK => ?_)
        refine goes_ Try.func18 (by kernel_rfl) rfl #[.agg #[.slice A2 m'.now.length c2, .slice B2 0 d2], .agg #[.slice A5 m'.now.length c5, .slice B5 0 d5]] (by rfl) rfl rfl (by simp only [List.map_toArray, List.map_cons, List.map_nil]; rfl) ?_
        with_reducible refine (sameC _ rn5.out.c zn.out sn5.out.c0 v50 v51 v52 LEN.out rfl).mono ?_
        rintro e W6 ⟨rfl, h6⟩
        have T6 := Lib.hid (T5.out.below h6)
        have P6 := Lib.hid (HPK.out.step h6 P5.out)
        have rl6 := Lib.hid ((Kept.row Al m.now).step h6 rl5.out)
        have KL6 := Lib.hid ((Kept.blk gl _ _).step h6 KL5.out)
        have SR6 := Lib.hid ((Kept.rowS Ar revs6).step h6 SR5.out)
        have rn6 := Lib.hid ((Kept.row A2 m'.now).step h6 rn5.out)
        have sn6 := Lib.hid ((Kept.rowT B2 []).step h6 sn5.out)
        have KT6 := Lib.hid ((Kept.blk gt _ _).step h6 KT5.out)
        refine ⟨_, rfl, ?_⟩
        refine hK.out _ _ ⟨KT6.out.b.cell 0, KT6.out.b.cell 1, (HPX.out _ _ P6.out).2.2.2.1.b.cell 0, (HPX.out _ _ P6.out).2.2.2.1.b.cell 1⟩ (fun hHeld => ?_)
        clear hK K
        refine norm_ (a' := ?_) ?_ ?_
        rotate_left
        · show Act.put _ (some 100) _ = _
          simp only [Act.put, List.setIfInBounds_toArray, List.set_cons_zero, List.set_cons_succ]
          rfl
        refine pure_ (i := 7) (N := some 101) (v := ?_) (a' := ?_) #[true, true, true, true, true, true, true, true, false, false, false, false, false] rfl rfl (by kernel_rfl) (fun _ _ _ h => h) (Or.inl ⟨by rfl, ?_⟩) ?_ ?_
        rotate_left
        · intro w'
          go_simp
          with_reducible rfl
        rotate_left
        · simp only [Act.put, List.setIfInBounds_toArray, List.set_cons_zero, List.set_cons_succ]
          rfl
        refine pure_ (i := 8) (N := some 102) (v := ?_) (a' := ?_) #[true, true, true, true, true, true, true, true, true, false, false, false, false] rfl rfl (by kernel_rfl) (fun _ _ _ h => h) (Or.inl ⟨by rfl, ?_⟩) ?_ ?_
        rotate_left
        · intro w'
          go_simp
          with_reducible rfl
        rotate_left
        · simp only [Act.put, List.setIfInBounds_toArray, List.set_cons_zero, List.set_cons_succ]
          rfl
        refine take_ (i := 9) (N := some 103) (v := ?_) (a' := ?_) #[true, true, true, true, true, true, true, true, true, true, false, false, false] rfl rfl (by kernel_rfl) (fun _ _ _ h => h) (Or.inl ⟨by rfl, ?_⟩) hHeld ?_ ?_
        rotate_left
        · rintro w' ⟨s0, s1, s2, s3⟩
          go_simp
          with_reducible rfl
        rotate_left
        · simp only [Act.put, List.setIfInBounds_toArray, List.set_cons_zero, List.set_cons_succ]
          rfl
        refine one_ (i := 10) (N := some 104) #[true, true, true, true, true, true, true, true, true, true, true, false, false] rfl rfl (by kernel_rfl) (by decide) (fun K hK => ?_)
        refine goes_ Try.func16 (by kernel_rfl) rfl #[.agg #[.slice A2 m'.now.length c2, .slice B2 0 d2]] (by rfl) rfl rfl (by simp only [List.map_toArray, List.map_cons, List.map_nil]; rfl) ?_
        with_reducible refine (rightC _ rn6.out.c zn.out tw.out).mono ?_
        rintro e W7 ⟨rfl, h7⟩
        have T7 := Lib.hid (T6.out.below h7)
        have P7 := Lib.hid (HPK.out.step h7 P6.out)
        have rl7 := Lib.hid ((Kept.row Al m.now).step h7 rl6.out)
        have KL7 := Lib.hid ((Kept.blk gl _ _).step h7 KL6.out)
        have SR7 := Lib.hid ((Kept.rowS Ar revs6).step h7 SR6.out)
        have rn7 := Lib.hid ((Kept.row A2 m'.now).step h7 rn6.out)
        have KT7 := Lib.hid ((Kept.blk gt _ _).step h7 KT6.out)
        refine ⟨_, rfl, ?_⟩
        refine hK.out _ _ ⟨KT7.out.b.cell 0, KT7.out.b.cell 1, (HPX.out _ _ P7.out).2.2.2.1.b.cell 0, (HPX.out _ _ P7.out).2.2.2.1.b.cell 1⟩ (fun hHeld => ?_)
        clear hK K
        refine norm_ (a' := ?_) ?_ ?_
        rotate_left
        · show Act.put _ (some 104) _ = _
          simp only [Act.put, List.setIfInBounds_toArray, List.set_cons_zero, List.set_cons_succ]
          rfl
        refine pure_ (i := 11) (N := some 105) (v := ?_) (a' := ?_) #[true, true, true, true, true, true, true, true, true, true, true, true, false] rfl rfl (by kernel_rfl) (fun _ _ _ h => h) (Or.inl ⟨by rfl, ?_⟩) ?_ ?_
        rotate_left
        · intro w'
          go_simp
          with_reducible rfl
        rotate_left
        · simp only [Act.put, List.setIfInBounds_toArray, List.set_cons_zero, List.set_cons_succ]
          rfl
        refine pure_ (i := 12) (N := some 106) (v := ?_) (a' := ?_) #[true, true, true, true, true, true, true, true, true, true, true, true, true] rfl rfl (by kernel_rfl) (fun _ _ _ h => h) (Or.inl ⟨by rfl, ?_⟩) ?_ ?_
        rotate_left
        · intro w'
          go_simp
          with_reducible rfl
        rotate_left
        · simp only [Act.put, List.setIfInBounds_toArray, List.set_cons_zero, List.set_cons_succ]
          rfl
        refine done_ (by kernel_rfl) ?_
        clear hHeld hk5 hc5 h6 h7 v50 v51 v52 T4 P4 rl4 KL4 SR4 rn4 sn4 KT4 T5 P5 rl5 KL5 SR5 rn5 sn5 KT5 T6 P6 rl6 KL6 SR6 rn6 sn6 KT6 OD FD
        go_wp2_with fail
        go_loopw [24] (fun v24 wz => ∃ (j : Nat), j ≤ nr ∧ v24 = .int .i64 j ∧ Hid (Drawn0 W7 wz)) (fun v24 _ => nr - (vI v24).toNat)
        case atStart => exact ⟨0, by omega, rfl, Lib.hid (Drawn0.refl _)⟩
        case round =>
          obtain ⟨j, hj, rfl, hD⟩ := hrel
          have hbz := hD.out.below
          by_cases hjn : j < nr
          · have hj' : (j : Int) < (nr : Int) := by omega
            have srz := ((Kept.rowS Ar revs6).step hbz SR7.out).1
            obtain ⟨ar, hea, hcs⟩ := Kd.at_string srz (j : Int) (by omega) (by rw [← HNR.out]; exact hj')
            subst hea
            have hj6 : j < 6 := by omega
            rw [revs6_at j hj6, Int.toNat_natCast] at hcs
            have hmem := R6_mem j hj6
            have hrf := Lib.hid (fun h => UP2.out _ hmem h)
            generalize R6.getD j [] = nm at hcs hrf
            unfold wn at hrf
            have kl0 := (KL7.out.2.below hbz KL7.out.2.lt).cell 0
            have kt0 := (KT7.out.2.below hbz KT7.out.2.lt).cell 0
            have pz := HPX.out _ _ (HPK.out.step hbz P7.out)
            have kx0 := pz.2.2.1.2.cell 0
            have ky0 := pz.2.2.2.1.2.cell 0
            simp only [List.getElem?_toArray, List.getElem?_cons_zero] at kl0 kt0 kx0 ky0
            have CL := Lib.hid ((Kept.row Al m.now).step hbz rl7.out).1
            have CT := Lib.hid ((Kept.row A2 m'.now).step hbz rn7.out).1
            have CX := Lib.hid pz.1.1
            have CY := Lib.hid pz.2.1.1
            have lb6 := Lib.hid (show m.now.length ≤ 1000000 from by have := tab_len tl.out; omega)
            have QL := Lib.hid (lw_q lb6.out Al cl (bs nm))
            have QT := Lib.hid (lw_q (l := m'.now) (by have := tab_len tw.out; omega) A2 c2 (bs nm))
            have QX := Lib.hid (lw_q (l := a) (by have := tab_len TA.out; omega) Ax cx (bs nm))
            have QY := Lib.hid (lw_q (l := y) (by have := tab_len TY.out; omega) Ay cy (bs nm))
            clear pz srz lb6 hmem
            generalize wt m.now (bs nm) = vp at QL hrf
            generalize wt m'.now (bs nm) = vq at QT hrf
            generalize wt a (bs nm) = vx at QX hrf
            generalize wt y (bs nm) = vy at QY hrf
            have Drz : ∀ n, Drawn0 W7 (wr.drewN n) := fun n => hD.out.step n
            have HDRZ := Lib.hid Drz
            clear Drz hbz
            by_cases hxy : vx ≤ vy
            · have g1 : decide (vx ≤ vy) = true := decide_eq_true hxy
              have g2 : decide (vq < vp) = false := decide_eq_false (by have := hrf.out hxy; omega)
              clear hxy
              go_wp2_with fail
              go_quiet (first
                | (go_at_call 22; (with_reducible refine (QY.out _ ?side1 hy0).mono ?_); (case side1 => repeat (first | exact CY.out | (with_reducible refine Kd.C_drewN ?_ _) | (with_reducible refine Kd.C_drew ?_))); rintro e w' ⟨rfl, ⟨nd, rfl⟩⟩; (try first | exact ⟨rfl, _, World.drewN_drewN _ _ _⟩ | exact ⟨rfl, _, Eq.trans (World.drewN_drewN _ _ _) (congrArg (World.drewN _) (Nat.add_assoc _ _ _))⟩))
                | (go_at_call 22; (with_reducible refine (QX.out _ ?side1 hx0).mono ?_); (case side1 => repeat (first | exact CX.out | (with_reducible refine Kd.C_drewN ?_ _) | (with_reducible refine Kd.C_drew ?_))); rintro e w' ⟨rfl, ⟨nd, rfl⟩⟩; (try first | exact ⟨rfl, _, World.drewN_drewN _ _ _⟩ | exact ⟨rfl, _, Eq.trans (World.drewN_drewN _ _ _) (congrArg (World.drewN _) (Nat.add_assoc _ _ _))⟩))
                | (go_at_call 22; (with_reducible refine (QT.out _ ?side1 zn.out).mono ?_); (case side1 => repeat (first | exact CT.out | (with_reducible refine Kd.C_drewN ?_ _) | (with_reducible refine Kd.C_drew ?_))); rintro e w' ⟨rfl, ⟨nd, rfl⟩⟩; (try first | exact ⟨rfl, _, World.drewN_drewN _ _ _⟩ | exact ⟨rfl, _, Eq.trans (World.drewN_drewN _ _ _) (congrArg (World.drewN _) (Nat.add_assoc _ _ _))⟩))
                | (go_at_call 22; (with_reducible refine (QL.out _ ?side1 zl.out).mono ?_); (case side1 => repeat (first | exact CL.out | (with_reducible refine Kd.C_drewN ?_ _) | (with_reducible refine Kd.C_drew ?_))); rintro e w' ⟨rfl, ⟨nd, rfl⟩⟩; (try first | exact ⟨rfl, _, World.drewN_drewN _ _ _⟩ | exact ⟨rfl, _, Eq.trans (World.drewN_drewN _ _ _) (congrArg (World.drewN _) (Nat.add_assoc _ _ _))⟩)))
              go_wp2_with fail
              go_roundw
              case rel => exact ⟨j + 1, by omega, by go_num, Lib.hid (HDRZ.out _)⟩
              case measure => simp [vI]; omega
            · have g1 : decide (vx ≤ vy) = false := decide_eq_false hxy
              clear hxy
              go_wp2_with fail
              go_quiet (first
                | (go_at_call 22; (with_reducible refine (QY.out _ ?side1 hy0).mono ?_); (case side1 => repeat (first | exact CY.out | (with_reducible refine Kd.C_drewN ?_ _) | (with_reducible refine Kd.C_drew ?_))); rintro e w' ⟨rfl, ⟨nd, rfl⟩⟩; (try first | exact ⟨rfl, _, World.drewN_drewN _ _ _⟩ | exact ⟨rfl, _, Eq.trans (World.drewN_drewN _ _ _) (congrArg (World.drewN _) (Nat.add_assoc _ _ _))⟩))
                | (go_at_call 22; (with_reducible refine (QX.out _ ?side1 hx0).mono ?_); (case side1 => repeat (first | exact CX.out | (with_reducible refine Kd.C_drewN ?_ _) | (with_reducible refine Kd.C_drew ?_))); rintro e w' ⟨rfl, ⟨nd, rfl⟩⟩; (try first | exact ⟨rfl, _, World.drewN_drewN _ _ _⟩ | exact ⟨rfl, _, Eq.trans (World.drewN_drewN _ _ _) (congrArg (World.drewN _) (Nat.add_assoc _ _ _))⟩))
                | (go_at_call 22; (with_reducible refine (QT.out _ ?side1 zn.out).mono ?_); (case side1 => repeat (first | exact CT.out | (with_reducible refine Kd.C_drewN ?_ _) | (with_reducible refine Kd.C_drew ?_))); rintro e w' ⟨rfl, ⟨nd, rfl⟩⟩; (try first | exact ⟨rfl, _, World.drewN_drewN _ _ _⟩ | exact ⟨rfl, _, Eq.trans (World.drewN_drewN _ _ _) (congrArg (World.drewN _) (Nat.add_assoc _ _ _))⟩))
                | (go_at_call 22; (with_reducible refine (QL.out _ ?side1 zl.out).mono ?_); (case side1 => repeat (first | exact CL.out | (with_reducible refine Kd.C_drewN ?_ _) | (with_reducible refine Kd.C_drew ?_))); rintro e w' ⟨rfl, ⟨nd, rfl⟩⟩; (try first | exact ⟨rfl, _, World.drewN_drewN _ _ _⟩ | exact ⟨rfl, _, Eq.trans (World.drewN_drewN _ _ _) (congrArg (World.drewN _) (Nat.add_assoc _ _ _))⟩)))
              go_wp2_with fail
              go_roundw
              case rel => exact ⟨j + 1, by omega, by go_num, Lib.hid (HDRZ.out _)⟩
              case measure => simp [vI]; omega
          · obtain rfl : j = nr := by omega
            have T8 := Lib.hid (T7.out.below hbz)
            have P8 := Lib.hid (HPK.out.step hbz P7.out)
            have KL8 := Lib.hid ((Kept.blk gl _ _).step hbz KL7.out)
            have SR8 := Lib.hid ((Kept.rowS Ar revs6).step hbz SR7.out)
            have rn8 := Lib.hid ((Kept.row A2 m'.now).step hbz rn7.out)
            have KT8 := Lib.hid ((Kept.blk gt _ _).step hbz KT7.out)
            clear hbz hD T7 P7 KL7 SR7 rn7 KT7 rl7
            have e0 := KL8.out.2.cell 0
            have e1 := KL8.out.2.cell 1
            have f0 := KL8.out.2.frozen 0
            have f1 := KL8.out.2.frozen 1
            have d0 := KT8.out.2.cell 0
            have d1 := KT8.out.2.cell 1
            simp only [List.getElem?_toArray, List.getElem?_cons_zero, List.getElem?_cons_succ] at e0 e1 d0 d1
            go_wp2_with fail
            have k6 := (KL8.out.2.set 0 (.slice A2 m'.now.length c2) (cs' := #[.slice A2 m'.now.length c2, .slice Bl 0 dl]) rfl).set 1 (.slice B2 0 d2) (cs' := #[.slice A2 m'.now.length c2, .slice B2 0 d2]) rfl
            have hcg : Chg (fun k => k = gl) wr ((wr.setCell ⟨gl, 0, none⟩ (.slice A2 m'.now.length c2)).setCell ⟨gl, 1, none⟩ (.slice B2 0 d2)) := ((Chg.refl (fun k => k = gl) wr).setCell (a := ⟨gl, 0, none⟩) (fun _ => rfl) _).setCell (a := ⟨gl, 1, none⟩) (fun _ => rfl) _
            have TF := T8.out.tab hcg hbgl KL8.out.2 (tab_noS _ _ _ _ _ _)
            have PF := HPK.out.set hcg P8.out
            have SF := (Kept.rowS Ar revs6).set hcg SR8.out
            have rF := (Kept.row A2 m'.now).set hcg (rn8.out.out_ (A' := A2) KL8.out.2 (tab_noS _ _ _ _ _ _) rfl)
            go_roundw
            case rel => exact ⟨i + 1, u, K5, M2, D5, m', A2, c2, B2, d2, by omega, by omega, rfl, hu0, by omega, by go_num, Lib.hid TF, OM2, OD5, FM2, FD5, UU2, zn, Lib.hid rF, Lib.hid ⟨KL8.out.1, k6⟩, Lib.hid SF, Lib.hid PF⟩
            case measure => simp [vI]; omega
      · obtain rfl : i = 20 := by omega
        go_wp2_with fail
        go_ret
        exact ⟨rfl, (HPX.out _ _ PP.out).2.2.2.2.1⟩
    · obtain rfl : i = l5.length := by omega
      go_wp2_with fail
      go_ret
      exact ⟨rfl, (HPX.out _ _ PP.out).2.2.2.2.1⟩

end Go.Proofs.Ytnkmpkhiilnigaa.PA
