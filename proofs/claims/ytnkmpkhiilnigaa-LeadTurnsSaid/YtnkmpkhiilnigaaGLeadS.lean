/- What the lead laws lean on: facts that stay while a Roller is turned; its calls in short; tables made; comparisons. (Printed by genx.py from leads.src.) -/
import Derived.Test.YtnkmpkhiilnigaaGTurn
import Derived.Test.YtnkmpkhiilnigaaGTabs
namespace Go.Proofs.Ytnkmpkhiilnigaa.PA
open Go.RowKit Go.Shelf Go.Lib Go.Sort Go.Proofs.YtnkmpkhiilnigaaW.PrintWords Go.Proofs.YtnkmpkhiilnigaaW.PrintLast

/-- It stays, whatever becomes of block b. -/
def Stable (b : Nat) (P : World → Prop) : Prop := ∀ w w', Chg (fun k => k = b) w w' → P w → P w'
/-- A row of Shares, of tags, not in block b. -/
def RowS (b : Nat) (A : Option Addr) (l : List S40) (w : World) : Prop := Kd.C k40 w A l.length l ∧ InOk (fun k => k ≠ b) A l.length
def RowT (b : Nat) (A : Option Addr) (l : List S42) (w : World) : Prop := Kd.C k42 w A l.length l ∧ InOk (fun k => k ≠ b) A l.length

theorem Stable.and {b : Nat} {P Q : World → Prop} (hp : Stable b P) (hq : Stable b Q) : Stable b (fun w => P w ∧ Q w) := fun w w' h ⟨a, c⟩ => ⟨hp w w' h a, hq w w' h c⟩
theorem Stable.rowS (b : Nat) (A : Option Addr) (l : List S40) : Stable b (RowS b A l) := fun _ _ hc h => ⟨c_chg h.1 h.2 hc (fun _ hk _ => hk), h.2⟩
theorem Stable.rowT (b : Nat) (A : Option Addr) (l : List S42) : Stable b (RowT b A l) := fun _ _ hc h => ⟨ct_chg h.1 h.2 hc (fun _ hk _ => hk), h.2⟩
theorem Stable.blk {b g : Nat} (h : g ≠ b) (cs : Array Value) (t : TypeId) : Stable b (fun w => Blk w g cs t) := fun _ _ hc hb => hb.chg hc h
theorem Stable.below {b : Nat} (w0 : World) (h : w0.heap.size ≤ b) : Stable b (fun w => Below w0.heap.size w0 w) := fun _ _ hc hb => hc.below_of hb hb.size (fun k hk e => by omega)
theorem Stable.lt {b : Nat} (g : Nat) : Stable b (fun w => g < w.heap.size) := fun _ _ hc hb => Nat.lt_of_lt_of_le hb hc.size
theorem chg_below {b : Nat} {w w' : World} (h : Below w.heap.size w w') : Chg (fun k => k = b) w w' := Chg.of_below h (fun k hk hk' => by omega)

/-- The Roller, its rows somewhere. -/
def RollerS (w : World) (p b : Nat) (M : List UInt8 → Option WayM) : Prop := ∃ ok, RollerAt w p b ok M ∧ ∀ k, w.heap.size ≤ k → ok k
theorem RollerS.below {w w' : World} {p b : Nat} {M : List UInt8 → Option WayM} (h : RollerS w p b M) (hc : Below w.heap.size w w') : RollerS w' p b M := by
  obtain ⟨ok, h1, h2⟩ := h
  exact ⟨ok, h1.below hc, fun k hk => h2 k (Nat.le_trans hc.size hk)⟩
theorem RollerS.lt {w : World} {p b : Nat} {M : List UInt8 → Option WayM} (h : RollerS w p b M) : p < w.heap.size ∧ b < w.heap.size ∧ p ≠ b := by
  obtain ⟨ok, ⟨h1, h2, _, S, f, _, h4, _⟩, _⟩ := h
  exact ⟨h1.lt, h4.lt, h2⟩

/-- Ways that are no trouble. -/
structure OkWay (m : WayM) (now : Int) : Prop where
  fr : Tab R6 m.fr
  dst : Tab R6 m.dst
  cur : Tab R6 m.now
  tags : m.tags.length ≤ 100
  lo : 0 ≤ m.since
  hi : m.since ≤ now
def OkM (M : List UInt8 → Option WayM) (now : Int) : Prop := ∀ x m, M x = some m → OkWay m now
theorem OkM.none (now : Int) : OkM noWays now := fun _ _ e => by cases e
theorem OkM.mono {M : List UInt8 → Option WayM} {t u : Int} (h : OkM M t) (hu : t ≤ u) : OkM M u := fun x m e => ⟨(h x m e).fr, (h x m e).dst, (h x m e).cur, (h x m e).tags, (h x m e).lo, by have := (h x m e).hi; omega⟩

theorem base_ok {o : Option WayM} {sh : List S40} {t now : Int} (hM : ∀ m, o = some m → OkWay m t) (hs : Tab R6 sh) (h0 : 0 ≤ t) (ht : t ≤ now) (whole : Int) : Tab R6 (baseW o sh now whole).fr ∧ Tab R6 (baseW o sh now whole).dst ∧ 0 ≤ (baseW o sh now whole).since ∧ (baseW o sh now whole).since ≤ now := by
  unfold baseW
  cases o with
  | none => exact ⟨hs, hs, (show 0 ≤ now by omega), Int.le_refl _⟩
  | some m =>
    have h := hM m rfl
    have h1 := h.lo
    have h2 := h.hi
    by_cases e : eqL m.dst sh = true ∧ m.whole = whole
    · simp only [if_pos e]; exact ⟨h.fr, h.dst, h1, by omega⟩
    · simp only [if_neg e]; exact ⟨h.cur, hs, by omega, Int.le_refl _⟩

theorem turn_ok {o : Option WayM} {sh : List S40} {tg : List S42} {t now : Int} (hM : ∀ m, o = some m → OkWay m t) (hs : Tab R6 sh) (htg : tg.length ≤ 100) (h0 : 0 ≤ t) (ht : t ≤ now) (whole : Int) : OkWay (turnW o sh tg now whole) now := by
  obtain ⟨h1, h2, h3, h4⟩ := base_ok hM hs h0 ht whole
  exact ⟨h1, h2, roll_tab' R6_rising h1 h2 _ _, htg, h3, h4⟩

theorem tab_len {l : List S40} (h : Tab R6 l) : l.length ≤ 6 := R6_len ▸ h.len

/-- Turn, in short. -/
theorem turnS {w : World} {p b : Nat} {M : List UInt8 → Option WayM} (h : RollerS w p b M) {t : Int} (hM : OkM M t) (name : ByteArray) (hs : name.size ≤ 1000) (hroute : name.data.toList ∈ routes)
    (At : Option Addr) (ct : Nat) (sh : List S40) (Au : Option Addr) (cu : Nat) (tg : List S42) (hsh : RowS b At sh w) (htg : RowT b Au tg w) (ht : Tab R6 sh) (hl1 : tg.length ≤ 100)
    (now whole : Int) (h0 : 0 ≤ t) (hn0 : t ≤ now) (hn1 : now ≤ 1000000) (hw1 : whole ≤ 1000000) :
    Calls Try.prog 14 #[.pointer (some ⟨p, 0, none⟩), .string name, .agg #[.slice At sh.length ct, .slice Au tg.length cu], .int .i64 now, .int .i64 whole] w fun e w' => ∃ A c B d, e = .returned (.agg #[.slice A (turnW (M name.data.toList) sh tg now whole).now.length c, .slice B tg.length d]) ∧
      (RowS b A (turnW (M name.data.toList) sh tg now whole).now w' ∧ (turnW (M name.data.toList) sh tg now whole).now.length ≤ c ∧ RowT b B tg w' ∧ tg.length ≤ d) ∧
      RollerS w' p b (setWay name.data.toList (some (turnW (M name.data.toList) sh tg now whole)) M) ∧ OkM (setWay name.data.toList (some (turnW (M name.data.toList) sh tg now whole)) M) now ∧ Chg (fun k => k = b) w w' := by
  obtain ⟨hp, hb, hne⟩ := h.lt
  obtain ⟨ok, hR, hok⟩ := h
  have hMn : ∀ m, M name.data.toList = some m → OkWay m t := fun m e => hM _ m e
  obtain ⟨b1, b2, b3, b4⟩ := base_ok hMn ht h0 hn0 whole
  have tw := turn_ok hMn ht hl1 h0 hn0 whole
  refine (turn_calls hR hok name hs hroute At ct sh Au cu tg hsh.1 htg.1 (by have := tab_len ht; omega) (by omega) now whole (by omega) (by omega) (by omega) (b1.fine (by decide)) (b2.fine (by decide)) (by omega) (by omega) (by have := tab_len tw.cur; omega) (fun m e => by have := tab_len (hMn m e).dst; omega)).mono ?_
  rintro e w' ⟨v0, v1, rfl, r0, r1, hR', hc⟩
  obtain ⟨A, c, rfl, hc0, hC0⟩ := RowG.toC r0
  obtain ⟨B, d, rfl, hd0, hD0⟩ := RowG.toCT r1
  refine ⟨A, c, B, d, rfl, ⟨⟨hC0, (RowG.inok r0).mono (fun k hk _ _ _ _ => by omega)⟩, hc0, ⟨hD0, (RowG.inokT r1).mono (fun k hk _ _ _ _ => by omega)⟩, hd0⟩, ⟨_, hR', fun k hk => ⟨hok k (Nat.le_trans hc.size hk), fun e => by have := own_lt r0 k e; omega, fun e => by have := own_lt r1 k e; omega⟩⟩, fun x m e => ?_, hc⟩
  unfold setWay at e
  by_cases e' : x = name.data.toList
  · rw [if_pos e'] at e
    cases e
    exact tw
  · rw [if_neg e'] at e
    exact (hM.mono hn0) x m e

/-- Table, in short. -/
theorem tableS {w : World} {p b : Nat} {M : List UInt8 → Option WayM} (h : RollerS w p b M) {t : Int} (hM : OkM M t) (name : ByteArray) (hs : name.size ≤ 1000) (m : WayM) (hm : M name.data.toList = some m) :
    Calls Try.prog 19 #[.pointer (some ⟨p, 0, none⟩), .string name] w fun e w' => ∃ A c B d, e = .returned (.tuple #[.agg #[.slice A m.now.length c, .slice B m.tags.length d], .bool true]) ∧
      (RowS b A m.now w' ∧ m.now.length ≤ c ∧ RowT b B m.tags w' ∧ m.tags.length ≤ d) ∧ Below w.heap.size w w' := by
  obtain ⟨hp, hb, hne⟩ := h.lt
  obtain ⟨ok, hR, hok⟩ := h
  have hw := hM _ m hm
  refine (table_some hR name hs m hm (by have := tab_len hw.cur; omega) (by have := hw.tags; omega)).mono ?_
  rintro e w' ⟨v0, v1, rfl, r0, r1, hbl⟩
  obtain ⟨A, c, rfl, hc0, hC0⟩ := RowG.toC r0
  obtain ⟨B, d, rfl, hd0, hD0⟩ := RowG.toCT r1
  exact ⟨A, c, B, d, rfl, ⟨⟨hC0, (RowG.inok r0).mono (fun k hk _ _ _ _ => by omega)⟩, hc0, ⟨hD0, (RowG.inokT r1).mono (fun k hk _ _ _ _ => by omega)⟩, hd0⟩, hbl⟩

theorem newS (w : World) : Calls Try.prog 11 #[] w fun e w' => ∃ p b, e = .returned (.pointer (some ⟨p, 0, none⟩)) ∧ RollerS w' p b noWays ∧ w.heap.size ≤ p ∧ w.heap.size ≤ b ∧ Below w.heap.size w w' :=
  (new_calls w).mono fun e w' ⟨p, b, he, hR, h1, h2, h3⟩ => ⟨p, b, he, ⟨_, hR, fun k hk e => by
    obtain ⟨_, _, _, S, f, _, h4, _⟩ := hR
    have := h4.lt
    omega⟩, h1, h2, h3⟩

/-- A table of Shares alone, made of raw numbers. -/
theorem make_nil (A : Option Addr) (c : Nat) (ns : List Int) (w : World) (hr : Kd.C (Kd.int .i64) w A ns.length ns) (hc : ns.length ≤ c) (k : Nat) (a : List S40) (ha : damperlaw5_Shares.f k ns = some a) :
    Calls Try.prog 12 #[.slice A ns.length c, .slice none 0 0] w fun e w' => ∃ B d, e = .returned (.agg #[.slice B a.length d, .slice none 0 0]) ∧ a.length ≤ d ∧ Kd.C k40 w' B a.length a ∧ InOk (fun k => w.heap.size ≤ k) B a.length ∧ Below w.heap.size w w' := by
  have HR := Lib.hid hr
  have HA := Lib.hid ha
  clear hr ha
  have b1 : Below w.heap.size w (w.alloc (.cells #[.slice none 0 0, .slice none 0 0] 29)) := (Below.refl _ _).alloc (Nat.le_refl _) _
  have k4 : Blk (w.alloc (.cells #[.slice none 0 0, .slice none 0 0] 29)) w.heap.size #[.slice none 0 0, .slice none 0 0] 29 := Blk.new _ _ _
  obtain ⟨W, hW⟩ : ∃ W, W = w.alloc (.cells #[.slice none 0 0, .slice none 0 0] 29) := ⟨_, rfl⟩
  have HW := Lib.hid hW
  rw [← hW] at b1 k4
  have zW : w.heap.size < W.heap.size := k4.lt
  have K4 := Lib.hid k4
  have B1 := Lib.hid b1
  clear hW k4 b1
  go_enter Try.func12, Try.ntmps12
  go_wp2_with fail
  rw [← HW.out]
  clear HW
  refine (damperlaw5_Shares.calls k A c ns a _ (Kd.C_below HR.out B1.out) hc HA.out).mono ?_
  rintro e w2 ⟨v2, rfl, hr2, hb2⟩
  obtain ⟨B, d, rfl, hd, hC⟩ := Kd.R_reads hr2
  have hI : InOk (fun k => W.heap.size ≤ k) B a.length := fun hp ad e => by
    obtain ⟨inner, ho⟩ := Kd.R_own hr2
    exact own_base ho ad.block (by rw [e]; rfl)
  have HI := Lib.hid hI
  have HC := Lib.hid hC
  have k4 := K4.out.below hb2 zW
  have z2 := hb2.size
  have HB2 := Lib.hid hb2
  obtain ⟨W3, hW3⟩ : ∃ W3, W3 = w2.alloc (.cells #[.slice B a.length d, .slice none 0 0] 29) := ⟨_, rfl⟩
  have k5 : Blk W3 w2.heap.size #[.slice B a.length d, .slice none 0 0] 29 := by rw [hW3]; exact Blk.new _ _ _
  have b3 : Below w2.heap.size w2 W3 := by rw [hW3]; exact (Below.refl _ _).alloc (Nat.le_refl _) _
  have k4 := k4.below b3 (by omega)
  have K5 := Lib.hid k5
  have K4 := Lib.hid k4
  have B3 := Lib.hid b3
  have HW3 := Lib.hid hW3
  have e0 := k4.cell 0
  have e1 := k4.cell 1
  have d0 := k5.cell 0
  have d1 := k5.cell 1
  have f0 := k4.frozen 0
  have f1 := k4.frozen 1
  simp only [List.getElem?_toArray, List.getElem?_cons_zero, List.getElem?_cons_succ] at e0 e1 d0 d1
  clear hr2 hI hC k4 k5 b3 hW3 hb2
  go_wp2_with fail
  rw [← HW3.out]
  clear HW3
  go_loop [6] (fun v => v = .int .i64 0) (fun _ => 0)
  case atStart => rfl
  case round =>
    obtain rfl := hrel
    go_wp2_with fail
    have k6 := (K4.out.set 0 (.slice B a.length d) (cs' := #[.slice B a.length d, .slice none 0 0]) rfl).set 1 (.slice none 0 0) (cs' := #[.slice B a.length d, .slice none 0 0]) rfl
    have g0 := k6.cell 0
    have g1 := k6.cell 1
    simp only [List.getElem?_toArray, List.getElem?_cons_zero, List.getElem?_cons_succ] at g0 g1
    have hcA : Chg (fun k => k = w.heap.size) W3 ((W3.setCell ⟨w.heap.size, 0, none⟩ (.slice B a.length d)).setCell ⟨w.heap.size, 1, none⟩ (.slice none 0 0)) := ((Chg.refl (fun k => k = w.heap.size) W3).setCell (a := ⟨w.heap.size, 0, none⟩) (fun _ => rfl) _).setCell (a := ⟨w.heap.size, 1, none⟩) (fun _ => rfl) _
    have z3 := B3.out.size
    exact bodyPost_ret (v := .agg #[.slice B a.length d, .slice none 0 0]) (by simp [results, Try.results12, go_sem, g0, g1]) rfl ⟨B, d, rfl, hd, c_chg (Kd.C_below HC.out B3.out) HI.out hcA (fun k (hk : W.heap.size ≤ k) _ (e : k = w.heap.size) => by omega), HI.out.mono (fun k (hk : W.heap.size ≤ k) _ _ _ _ => by omega), hcA.below_of ((B1.out.trans (HB2.out.mono B1.out.size)).trans (B3.out.mono (by omega))) (by omega) (fun k hk e => by omega)⟩

/-- The tags are the same as themselves. -/
theorem same_tags (sh : List S40) (l : List S42) (hl : l.length ≤ 1000000) : ∀ m i : Nat, i + m = l.length → damperref5_Same.l0 (m + 1) (i : Int) sh l sh l = some true := by
  intro m
  induction m with
  | zero =>
    intro i hi
    unfold damperref5_Same.l0
    rw [if_neg (by omega)]
  | succ m ih =>
    intro i hi
    unfold damperref5_Same.l0
    rw [if_pos (by omega), if_pos (by omega), if_pos (by omega), if_neg (by simp), w64 (by omega) (by omega)]
    have := ih (i + 1) (by omega)
    rw [show ((i + 1 : Nat) : Int) = (i : Int) + 1 by omega] at this
    exact this

theorem same_j0 (k : Nat) (sh : List S40) (tg : List S42) : damperref5_Same.j0 (k + 1) false sh tg sh tg = damperref5_Same.l0 k 0 sh tg sh tg := by
  simp only [damperref5_Same.j0]
  rw [if_neg (by decide)]

theorem sameT_f {sh : List S40} {tg : List S42} (h0 : sh.length ≤ 100000) (h1 : tg.length ≤ 100000) : damperref5_Same.f (sh.length + tg.length + 2) sh tg sh tg = some true := by
  unfold damperref5_Same.f
  rw [same_f (by omega) _ (by omega), Option.bind_some, if_pos rfl, show ((tg.length : Int) != (tg.length : Int)) = false by simp]
  rw [show sh.length + tg.length + 2 = (sh.length + tg.length + 1) + 1 from rfl, same_j0]
  refine le_up (fun k => damperref5_Same.l0 k 0 sh tg sh tg) (fun k => (damperref5_Same.mono_l k).2 0 sh tg sh tg) (k := tg.length + 1) ?_ (sh.length + tg.length + 1) (by omega)
  have := same_tags sh tg (by omega) tg.length 0 (by omega)
  exact this

/-- Two tables that are the same. -/
theorem sameS {A : Option Addr} {c : Nat} {sh : List S40} {B : Option Addr} {d : Nat} {tg : List S42} {A' : Option Addr} {c' : Nat} {sh' : List S40} {B' : Option Addr} {d' : Nat} {tg' : List S42} (w : World)
    (h0 : Kd.C k40 w A sh.length sh) (l0 : sh.length ≤ c) (h1 : Kd.C k42 w B tg.length tg) (l1 : tg.length ≤ d) (h2 : Kd.C k40 w A' sh'.length sh') (l2 : sh'.length ≤ c') (h3 : Kd.C k42 w B' tg'.length tg') (l3 : tg'.length ≤ d')
    (hs : sh.length ≤ 100000) (ht : tg.length ≤ 100000) (e1 : sh = sh') (e2 : tg = tg') :
    Calls Try.prog 18 #[.agg #[.slice A sh.length c, .slice B tg.length d], .agg #[.slice A' sh'.length c', .slice B' tg'.length d']] w fun e w' => e = .returned (.bool true) ∧ Below w.heap.size w w' :=
  damperref5_Same.calls (sh.length + tg.length + 2) A c sh B d tg A' c' sh' B' d' tg' true w h0 l0 h1 l1 h2 l2 h3 l3 (by subst e1; subst e2; exact sameT_f hs ht)

/-- One Share that lies in a block. -/
theorem c_one {w : World} {g : Nat} {x : S40} (h : Blk w g #[.string x.f0, .int .i64 x.f1] 40) : Kd.C k40 w (some ⟨g, 0, none⟩) 1 [x] := by
  refine ⟨rfl, by decide, fun _ => ⟨⟨g, 0, none⟩, rfl, fun j p hj => ?_⟩⟩
  match j, hj with
  | 0, hj =>
    simp at hj
    subst hj
    refine ⟨[.string x.f0, .int .i64 x.f1], rfl, k40.K_of_M (k40_mkM w 0 (fun _ => True) x), fun i u hu => ?_⟩
    have e : (⟨g, 0, none⟩ : Addr).add (0 * k40.sz + i) = ⟨g, i, none⟩ := by unfold Addr.add; split <;> simp_all
    rw [e, h.cell i]
    simpa using hu

/-- The chapter's example. -/
def sA : List S40 := [⟨⟨#[97, 45, 49]⟩, 100⟩]
theorem sA_fine : Fine sA := ⟨by decide, fun s hs => by rw [List.mem_singleton.1 hs]; exact ⟨by decide, by decide⟩⟩
theorem sA_base : baseW none sA 5 10 = ⟨sA, sA, 5, 10, [], []⟩ := rfl
theorem sA_turn : (turnW none sA [] 5 10).now = sA := by
  show rollL sA sA (5 - 5) 10 = sA
  exact roll_from (by omega) (by omega)

set_option maxHeartbeats 1000000 in
theorem known13 (w : World) : Calls Try.prog 10 #[] w fun e w' => e = .returned (.bool true) ∧ Below w.heap.size w w' := by
  go_enter Try.func10, Try.ntmps10
  go_wp2_with fail
  refine (new_calls w).mono ?_
  rintro e w1 ⟨p, b, rfl, hR, hp, hb, hb1⟩
  have HB1 := Lib.hid hb1
  clear hb1
  go_wp2_with fail
  refine (table_none hR ⟨#[120]⟩ (by decide) rfl).mono ?_
  rintro e w2 ⟨rfl, hb2⟩
  have hR2 := hR.below hb2
  have HB2 := Lib.hid (HB1.out.trans (hb2.mono HB1.out.size))
  clear hb2 hR HB1
  go_wp2_with fail
  obtain ⟨W4, hW4⟩ : ∃ W4, W4 = (w2.alloc (.cells #[.slice none 0 0, .slice none 0 0] 29)).alloc (.cells #[.string ⟨#[97, 45, 49]⟩, .int .i64 100] 40) := ⟨_, rfl⟩
  have b4 : Below w2.heap.size w2 W4 := by rw [hW4]; exact ((Below.refl _ _).alloc (Nat.le_refl _) _).alloc (by simp) _
  have k4 : Blk W4 (w2.heap.size + 1) #[.string ⟨#[97, 45, 49]⟩, .int .i64 100] 40 := by
    rw [hW4]
    have := Blk.new (w2.alloc (.cells #[.slice none 0 0, .slice none 0 0] 29)) #[.string ⟨#[97, 45, 49]⟩, .int .i64 100] 40
    simpa using this
  rw [← hW4]
  clear hW4
  have hC : Kd.C k40 W4 (some ⟨w2.heap.size + 1, 0, none⟩) sA.length sA := c_one (x := ⟨⟨#[97, 45, 49]⟩, 100⟩) k4
  have hR4 := hR2.below b4
  have bA := HB2.out.trans (b4.mono HB2.out.size)
  have htc := turn_calls hR4 (fun k hk e => by
    obtain ⟨_, _, _, S, f, _, h4, _⟩ := hR4
    have := h4.lt
    omega) ⟨#[120]⟩ (by decide) (by decide) (some ⟨w2.heap.size + 1, 0, none⟩) 1 sA none 0 [] hC (Kd.C_nil _ _) (by decide) (by decide) 5 10 (by omega) (by omega) (by omega) (by rw [show noWays (⟨#[120]⟩ : ByteArray).data.toList = none from rfl, sA_base]; exact sA_fine) (by rw [show noWays (⟨#[120]⟩ : ByteArray).data.toList = none from rfl, sA_base]; exact sA_fine) (by rw [show noWays (⟨#[120]⟩ : ByteArray).data.toList = none from rfl, sA_base]; decide) (by rw [show noWays (⟨#[120]⟩ : ByteArray).data.toList = none from rfl, sA_base]; decide) (by rw [show noWays (⟨#[120]⟩ : ByteArray).data.toList = none from rfl, sA_turn]; decide) (fun m e => by cases e)
  rw [show noWays (⟨#[120]⟩ : ByteArray).data.toList = none from rfl, sA_turn] at htc
  have HT := Lib.hid htc
  have BA := Lib.hid bA
  clear htc hC hR4 hR2 b4 k4 bA HB2
  refine HT.out.mono ?_
  rintro e w5 ⟨v0, v1, rfl, r0, r1, _, hc⟩
  obtain ⟨A5, c5, rfl, _, hC5⟩ := RowG.toC r0
  obtain ⟨A6, c6, rfl, _, hC6⟩ := RowG.toCT r1
  obtain ⟨g, o, rfl, hgl, hce⟩ := shares_at hC5 (by decide)
  have hce := (hce 0 (by decide)).2
  have b5 := hc.below_of BA.out BA.out.size (fun k hk e => by omega)
  have HB5 := Lib.hid b5
  clear r0 r1 hC5 hC6 hc HT b5 BA
  simp only [sA, List.getD_cons_zero, Nat.zero_mul, Nat.add_zero] at hce
  rw [show sA.length = 1 from rfl, show ([] : List S42).length = 0 from rfl]
  go_wp2_with fail
  go_ret
  exact ⟨rfl, HB5.out.alloc HB5.out.size _⟩

end Go.Proofs.Ytnkmpkhiilnigaa.PA

/- What a turned table is, in plain words; calls at tables without tags. -/
namespace Go.Proofs.Ytnkmpkhiilnigaa.PA
open Go.RowKit Go.Shelf Go.Lib Go.Sort Go.Proofs.YtnkmpkhiilnigaaW.PrintWords Go.Proofs.YtnkmpkhiilnigaaW.PrintLast

theorem stays {R : List (List UInt8)} (hR : Rising R) {a : List S40} (h : Tab R a) (g w : Int) : rollL a a g w = a := by
  by_cases e1 : w ≤ 0 ∨ w ≤ g
  · unfold rollL; rw [if_pos e1]
  · by_cases e2 : g ≤ 0
    · exact roll_from (by omega) e2
    · obtain ⟨t, hn⟩ := roll_tab hR h h (gone := g) (whole := w) (by omega) (by omega)
      rw [(t.canon hR.nodup).1]
      conv => rhs; rw [(h.canon hR.nodup).1]
      congr 1
      refine List.map_congr_left (fun n hn' => ?_)
      rw [(hn n hn').2 (by omega)]
      simp

theorem base_same {m : WayM} {sh : List S40} {whole : Int} (h1 : m.dst = sh) (h2 : m.whole = whole) (now : Int) : baseW (some m) sh now whole = m := by
  show (if eqL m.dst sh = true ∧ m.whole = whole then m else _) = m
  rw [if_pos ⟨eqL_iff.2 h1, h2⟩]
theorem base_other {m : WayM} {sh : List S40} {whole : Int} (h : ¬ (m.dst = sh ∧ m.whole = whole)) (now : Int) : baseW (some m) sh now whole = ⟨m.now, sh, now, whole, [], []⟩ := by
  show (if eqL m.dst sh = true ∧ m.whole = whole then m else _) = _
  rw [if_neg (fun h' => h ⟨eqL_iff.1 h'.1, h'.2⟩)]

theorem base_dst (o : Option WayM) (sh : List S40) (now whole : Int) : (baseW o sh now whole).dst = sh ∧ (baseW o sh now whole).whole = whole := by
  cases o with
  | none => exact ⟨rfl, rfl⟩
  | some m =>
    by_cases e : m.dst = sh ∧ m.whole = whole
    · rw [base_same e.1 e.2]; exact e
    · rw [base_other e]; exact ⟨rfl, rfl⟩

theorem turn_dst (o : Option WayM) (sh : List S40) (tg : List S42) (now whole : Int) : (turnW o sh tg now whole).dst = sh ∧ (turnW o sh tg now whole).whole = whole := base_dst o sh now whole

/-- Turned to the same again, at the same time: it stays. -/
theorem turn_again (o : Option WayM) (sh : List S40) (tg tg' : List S42) (now whole : Int) : (turnW (some (turnW o sh tg now whole)) sh tg' now whole).now = (turnW o sh tg now whole).now := by
  obtain ⟨h1, h2⟩ := turn_dst o sh tg now whole
  have hb := base_same h1 h2 now
  show rollL (baseW (some (turnW o sh tg now whole)) sh now whole).fr (baseW (some (turnW o sh tg now whole)) sh now whole).dst (now - (baseW (some (turnW o sh tg now whole)) sh now whole).since) whole = _
  rw [hb]
  rfl

/-- A route that never goes elsewhere. -/
def Still (a : List S40) (wh : Int) (o : Option WayM) : Prop := ∀ m, o = some m → m.fr = a ∧ m.dst = a ∧ m.whole = wh
theorem turn_still {a : List S40} {wh : Int} {o : Option WayM} (h : Still a wh o) (ta : Tab R6 a) (tg : List S42) (now : Int) : (turnW o a tg now wh).now = a ∧ Still a wh (some (turnW o a tg now wh)) := by
  have hf : (baseW o a now wh).fr = a := by
    cases o with
    | none => rfl
    | some m => rw [base_same (h m rfl).2.1 (h m rfl).2.2]; exact (h m rfl).1
  have hd := base_dst o a now wh
  refine ⟨?_, fun m e => ?_⟩
  · show rollL (baseW o a now wh).fr (baseW o a now wh).dst _ wh = a
    rw [hf, hd.1]
    exact stays R6_rising ta _ _
  · cases e
    exact ⟨hf, hd.1, hd.2⟩

theorem setWay_same (x : List UInt8) (m : Option WayM) (M : List UInt8 → Option WayM) : setWay x m M x = m := by unfold setWay; rw [if_pos rfl]
theorem setWay_other {x y : List UInt8} (h : y ≠ x) (m : Option WayM) (M : List UInt8 → Option WayM) : setWay x m M y = M y := by unfold setWay; rw [if_neg h]

theorem rowT_nil (b : Nat) (w : World) : RowT b none [] w := ⟨Kd.C_nil _ _, fun hp => absurd hp (by simp)⟩

/-- Turn, at a table without tags. -/
theorem turn0 {w : World} {p b : Nat} {M : List UInt8 → Option WayM} (h : RollerS w p b M) {t : Int} (hM : OkM M t) (name : ByteArray) (hs : name.size ≤ 1000) (hroute : name.data.toList ∈ routes)
    (At : Option Addr) (ct : Nat) (sh : List S40) (hsh : RowS b At sh w) (ht : Tab R6 sh) (now whole : Int) (h0 : 0 ≤ t) (hn0 : t ≤ now) (hn1 : now ≤ 1000000) (hw1 : whole ≤ 1000000) :
    Calls Try.prog 14 #[.pointer (some ⟨p, 0, none⟩), .string name, .agg #[.slice At sh.length ct, .slice none 0 0], .int .i64 now, .int .i64 whole] w fun e w' => ∃ A c B d, e = .returned (.agg #[.slice A (turnW (M name.data.toList) sh [] now whole).now.length c, .slice B 0 d]) ∧
      (RowS b A (turnW (M name.data.toList) sh [] now whole).now w' ∧ (turnW (M name.data.toList) sh [] now whole).now.length ≤ c ∧ RowT b B [] w') ∧
      RollerS w' p b (setWay name.data.toList (some (turnW (M name.data.toList) sh [] now whole)) M) ∧ OkM (setWay name.data.toList (some (turnW (M name.data.toList) sh [] now whole)) M) now ∧ Chg (fun k => k = b) w w' :=
  (turnS h hM name hs hroute At ct sh none 0 [] hsh (rowT_nil b w) ht (by simp) now whole h0 hn0 hn1 hw1).mono fun e w' ⟨A, c, B, d, he, ⟨h1, h2, h3, _⟩, h5⟩ => ⟨A, c, B, d, he, ⟨h1, h2, h3⟩, h5⟩

/-- Same, at tables without tags. -/
theorem same0 {b : Nat} {A : Option Addr} {c : Nat} {sh : List S40} {B : Option Addr} {d : Nat} {A' : Option Addr} {c' : Nat} {sh' : List S40} {B' : Option Addr} {d' : Nat} (w : World)
    (h0 : RowS b A sh w) (l0 : sh.length ≤ c) (h1 : RowT b B [] w) (h2 : RowS b A' sh' w) (l2 : sh'.length ≤ c') (h3 : RowT b B' [] w) (hs : sh.length ≤ 100000) (e1 : sh = sh') :
    Calls Try.prog 18 #[.agg #[.slice A sh.length c, .slice B 0 d], .agg #[.slice A' sh'.length c', .slice B' 0 d']] w fun e w' => e = .returned (.bool true) ∧ Below w.heap.size w w' :=
  sameS (tg := []) (tg' := []) w h0.1 l0 h1.1 (Nat.zero_le _) h2.1 l2 h3.1 (Nat.zero_le _) hs (by simp) e1 rfl

/-- It stays, whatever becomes of the blocks of F. -/
def StableF (F : Nat → Prop) (P : World → Prop) : Prop := ∀ w w', Chg F w w' → P w → P w'
def RowF (F : Nat → Prop) (A : Option Addr) (l : List S40) (w : World) : Prop := Kd.C k40 w A l.length l ∧ InOk (fun k => ¬ F k) A l.length
def RowTF (F : Nat → Prop) (A : Option Addr) (l : List S42) (w : World) : Prop := Kd.C k42 w A l.length l ∧ InOk (fun k => ¬ F k) A l.length
def RowStr (F : Nat → Prop) (A : Option Addr) (l : List ByteArray) (w : World) : Prop := Kd.C Kd.string w A l.length l ∧ InOk (fun k => ¬ F k) A l.length
theorem StableF.and {F : Nat → Prop} {P Q : World → Prop} (hp : StableF F P) (hq : StableF F Q) : StableF F (fun w => P w ∧ Q w) := fun w w' h ⟨a, c⟩ => ⟨hp w w' h a, hq w w' h c⟩
theorem StableF.rowF (F : Nat → Prop) (A : Option Addr) (l : List S40) : StableF F (RowF F A l) := fun _ _ hc h => ⟨c_chg h.1 h.2 hc (fun _ hk _ => hk), h.2⟩
theorem StableF.rowTF (F : Nat → Prop) (A : Option Addr) (l : List S42) : StableF F (RowTF F A l) := fun _ _ hc h => ⟨ct_chg h.1 h.2 hc (fun _ hk _ => hk), h.2⟩
theorem str_lt {w : World} {A : Option Addr} {l : List ByteArray} (h : Kd.C Kd.string w A l.length l) (hp : 0 < l.length) : ∀ a, A = some a → a.block < w.heap.size := fun a e => by
  obtain ⟨ad, e', hc⟩ := Kd.at_string h 0 (by omega) (by omega)
  rw [e'] at e
  obtain rfl : ad = a := Option.some.inj e
  rcases Nat.lt_or_ge ad.block w.heap.size with hlt | hge
  · exact hlt
  · have : (ad.add (Int.toNat 0)).block = ad.block := by unfold Addr.add; split <;> rfl
    unfold World.cell? at hc
    rw [this] at hc
    simp [Array.getElem?_eq_none hge] at hc
theorem StableF.rowStr (F : Nat → Prop) (A : Option Addr) (l : List ByteArray) : StableF F (RowStr F A l) := fun _ _ hc h => ⟨c_move (fun h => h) h.1 (fun hp a e => hc.block a.block (str_lt h.1 hp a e) (h.2 hp a e)), h.2⟩
theorem StableF.blk {F : Nat → Prop} {g : Nat} (h : ¬ F g) (cs : Array Value) (t : TypeId) : StableF F (fun w => Blk w g cs t) := fun _ _ hc hb => hb.chg hc h
theorem StableF.below {F : Nat → Prop} (w0 : World) (h : ∀ k, F k → w0.heap.size ≤ k) : StableF F (fun w => Below w0.heap.size w0 w) := fun _ _ hc hb => hc.below_of hb hb.size (fun k hk e => by have := h k e; omega)
theorem RowS.toF {b : Nat} {A : Option Addr} {l : List S40} {w : World} {F : Nat → Prop} (h : RowS b A l w) (hF : ∀ k, k < w.heap.size → F k → k = b) : RowF F A l w := ⟨h.1, fun hp a e hf => h.2 hp a e (hF _ (share_lt h.1 hp a e) hf)⟩
theorem RowT.toF {b : Nat} {A : Option Addr} {l : List S42} {w : World} {F : Nat → Prop} (h : RowT b A l w) (hF : ∀ k, k < w.heap.size → F k → k = b) : RowTF F A l w := ⟨h.1, fun hp a e hf => h.2 hp a e (hF _ (tag_lt h.1 hp a e) hf)⟩
theorem RowF.toS {b : Nat} {A : Option Addr} {l : List S40} {w : World} {F : Nat → Prop} (h : RowF F A l w) (hF : F b) : RowS b A l w := ⟨h.1, fun hp a e e' => h.2 hp a e (e' ▸ hF)⟩
theorem RowTF.toT {b : Nat} {A : Option Addr} {l : List S42} {w : World} {F : Nat → Prop} (h : RowTF F A l w) (hF : F b) : RowT b A l w := ⟨h.1, fun hp a e e' => h.2 hp a e (e' ▸ hF)⟩

/-- A row of Shares does not lie in a table's block. -/
theorem row_ne_tab {w : World} {A : Option Addr} {l : List S40} {g : Nat} {a b : Option Addr} {n c m d : Nat} {T : TypeId} (h : Kd.C k40 w A l.length l) (hk : Blk w g #[.slice a n c, .slice b m d] T) : InOk (fun k => k ≠ g) A l.length := fun hp ad e e' => by
  obtain ⟨g', o, hA, _, hc⟩ := shares_at h hp
  rw [hA] at e
  cases e
  have h0 := (hc 0 hp).1
  subst e'
  rw [hk.cell] at h0
  match o, h0 with
  | 0, h0 => simp at h0
  | 1, h0 => simp at h0
  | o + 2, h0 => simp at h0
theorem tag_ne_tab {w : World} {A : Option Addr} {l : List S42} {g : Nat} {a b : Option Addr} {n c m d : Nat} {T : TypeId} (h : Kd.C k42 w A l.length l) (hk : Blk w g #[.slice a n c, .slice b m d] T) : InOk (fun k => k ≠ g) A l.length := fun hp ad e e' => by
  obtain ⟨g', o, hA, _, hc⟩ := tags_at h hp
  rw [hA] at e
  cases e
  have h0 := (hc 0 hp).1
  subst e'
  rw [hk.cell] at h0
  match o, h0 with
  | 0, h0 => simp at h0
  | 1, h0 => simp at h0
  | o + 2, h0 => simp at h0
theorem RowS.andF {w : World} {A : Option Addr} {l : List S40} {g b' : Nat} {a b : Option Addr} {n c m d : Nat} {T : TypeId} (h : RowS b' A l w) (hk : Blk w g #[.slice a n c, .slice b m d] T) : RowF (fun k => k = b' ∨ k = g) A l w :=
  ⟨h.1, fun hp ad e hf => hf.elim (h.2 hp ad e) (row_ne_tab h.1 hk hp ad e)⟩
theorem rowTF_nil (F : Nat → Prop) (A : Option Addr) (w w' : World) (_h : Kd.C k42 w A ([] : List S42).length []) : RowTF F A [] w' := ⟨⟨rfl, by simp, fun hp => absurd hp (by simp)⟩, fun hp => absurd hp (by simp)⟩

/-- A table's block is written: the Roller stays. -/
theorem RollerS.chgG {w w' : World} {p b g : Nat} {M : List UInt8 → Option WayM} {a b' : Option Addr} {n c m d : Nat} {T : TypeId} (h : RollerS w p b M) (hc : Chg (fun k => k = g) w w') (hgb : b ≠ g) (hk : Blk w g #[.slice a n c, .slice b' m d] T) : RollerS w' p b M := by
  obtain ⟨ok, h1, h2⟩ := h
  have hpg : p ≠ g := fun e => by
    subst e
    have := h1.blk
    unfold Blk at this hk
    rw [hk] at this
    cases this
  refine ⟨fun k => ok k ∧ k ≠ g, ?_, fun k hk' => ⟨h2 k (Nat.le_trans hc.size hk'), fun e => by subst e; have := hk.lt; have := hc.size; omega⟩⟩
  obtain ⟨k1, k2, k3, S, f, k4, k5, k6, k7⟩ := h1
  have hw : ∀ x mm, M x = some mm → WayAt w (fun k => ok k ∧ k ≠ g) (f x) mm := fun x mm e => by
    obtain ⟨A0, c0, A1, c1, A2, c2, A3, c3, e', ⟨q0, q1, q2, q3⟩, o0, o1, o2, o3⟩ := k7 x mm e
    exact ⟨A0, c0, A1, c1, A2, c2, A3, c3, e', ⟨q0, q1, q2, q3⟩, fun hp ad e => ⟨o0 hp ad e, row_ne_tab q0 hk hp ad e⟩, fun hp ad e => ⟨o1 hp ad e, row_ne_tab q1 hk hp ad e⟩, fun hp ad e => ⟨o2 hp ad e, row_ne_tab q2 hk hp ad e⟩, fun hp ad e => ⟨o3 hp ad e, tag_ne_tab q3 hk hp ad e⟩⟩
  exact ⟨k1.chg hc hpg, k2, fun k hk' => k3 k hk'.1, S, f, k4, k5.chg hc hgb, k6, fun x mm e => (hw x mm e).chg hc (fun k hk' _ e' => hk'.2 e')⟩

/-- What a name weighs: nothing is changed. -/
theorem refw_q {l : List S40} (hl : l.length ≤ 1000000) (A : Option Addr) (c : Nat) (r : ByteArray) (w : World) (hC : Kd.C k40 w A l.length l) (hc : l.length ≤ c) :
    Calls Try.prog 17 #[.slice A l.length c, .string r] w fun e w' => e = .returned (.int .i64 (wt l r)) ∧ ∃ n, w' = w.drewN n :=
  (damperref6_Weight.calls (l.length + 1) A c l r (wt l r) w hC hc (refw_f hl r _ (Nat.le_refl _))).mono fun _ _ ⟨h1, h2⟩ => ⟨h1, h2.out⟩

theorem R6_mem (i : Nat) (hi : i < 6) : R6.getD i [] ∈ R6 := by
  match i, hi with
  | 0, _ => simp [R6]
  | 1, _ => simp [R6]
  | 2, _ => simp [R6]
  | 3, _ => simp [R6]
  | 4, _ => simp [R6]
  | 5, _ => simp [R6]

/-- On the way from a to y, since nought. -/
def Goes (a y : List S40) (wh : Int) (o : Option WayM) : Prop := ∃ m, o = some m ∧ m.fr = a ∧ m.dst = y ∧ m.since = 0 ∧ m.whole = wh
theorem goes_first {a y : List S40} (ta : Tab R6 a) (wh : Int) (tg tg' : List S42) : Goes a y wh (some (turnW (some (turnW none a tg 0 wh)) y tg' 0 wh)) := by
  have h0 : (turnW none a tg 0 wh).fr = a ∧ (turnW none a tg 0 wh).since = 0 ∧ (turnW none a tg 0 wh).now = a := ⟨rfl, rfl, stays R6_rising ta _ _⟩
  by_cases e : a = y
  · subst e
    have hb := base_same (m := turnW none a tg 0 wh) (sh := a) (whole := wh) rfl rfl 0
    exact ⟨_, rfl, by show (baseW _ a 0 wh).fr = a; rw [hb]; rfl, (turn_dst _ _ _ _ _).1, by show (baseW _ a 0 wh).since = 0; rw [hb]; rfl, (turn_dst _ _ _ _ _).2⟩
  · have hb := base_other (m := turnW none a tg 0 wh) (sh := y) (whole := wh) (fun h => e h.1) 0
    exact ⟨_, rfl, by show (baseW _ y 0 wh).fr = a; rw [hb]; exact h0.2.2, (turn_dst _ _ _ _ _).1, by show (baseW _ y 0 wh).since = 0; rw [hb], (turn_dst _ _ _ _ _).2⟩
theorem goes_on {a y : List S40} {wh : Int} {o : Option WayM} (h : Goes a y wh o) (tg : List S42) (now : Int) : (turnW o y tg now wh).now = rollL a y now wh ∧ Goes a y wh (some (turnW o y tg now wh)) := by
  obtain ⟨m, rfl, h1, h2, h3, h4⟩ := h
  have hb := base_same h2 h4 now
  refine ⟨?_, _, rfl, ?_, (turn_dst _ _ _ _ _).1, ?_, (turn_dst _ _ _ _ _).2⟩
  · show rollL (baseW (some m) y now wh).fr (baseW (some m) y now wh).dst (now - (baseW (some m) y now wh).since) wh = _
    rw [hb, h1, h2, h3, Int.sub_zero]
  · show (baseW (some m) y now wh).fr = a
    rw [hb, h1]
  · show (baseW (some m) y now wh).since = 0
    rw [hb, h3]

end Go.Proofs.Ytnkmpkhiilnigaa.PA
