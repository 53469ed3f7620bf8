/- damperlaw5's Make, with tags. (Printed by genx.py from maket.src.) -/
import Derived.Test.YtnkmpkhiilnigaaOwnH
import Derived.Laws.IdiomStrings
namespace Go.Proofs.Ytnkmpkhiilnigaa.PA
open Go.RowKit Go.Shelf Go.Lib Go.Sort Go.Proofs.YtnkmpkhiilnigaaW.PrintWords Go.Proofs.YtnkmpkhiilnigaaW.PrintLast

/-- append, onto a row that is new since B, as a step of a region that draws. -/
theorem step_appG {α : Type} (E : El Try.prog α) {ops : Array Oper} {o : Oper} {a : Act} {K : Act → World → Prop} {Q : Exit → Act → World → Prop} {D : Prop} (w : World) (hgd : o.guard = none) (s x : Operand) (ho : o.op = .call { callee := .builtin .append, args := #[s, x], argTypes := #[E.t, E.t] })
    (B : Nat) (v : Value) (xs : List α) (hs : a.eval s = v) (hown : RowG E w B v xs)
    (A : Option Addr) (m c : Nat) (ys : List α) (hx : a.eval x = .slice A m c) (hm : ys.length = m) (hsrc : SrcG E w A ys) (hn : xs.length ≤ 1000000) (hm6 : m ≤ 1000000) (hB : B ≤ w.heap.size)
    (h : ∀ v' w', RowG E w' B v' (xs ++ ys) → Below B w w' → K (a.put o.dst v') w') :
    if Region.wanted o (yielded ops a.tmps) = true then Oper.wp Try.prog o a w K Q else D := by
  subst hm
  have hown' : w.ownsRow B E.e E.size v xs.length (xs.flatMap E.enc) := hown
  obtain ⟨i0, hi, hz, hsize, hby⟩ := info_parts E.hinfo
  refine step_append_any (P := Try.prog) w hgd s x E.t ho B E.e i0 E.z E.size E.bytes E.ht hi hz hsize hby E.hzs E.hsz v xs.length (xs.flatMap E.enc) hs hown' A ys.length c (ys.flatMap E.enc) hx (El.len E ys) hsrc
    (fun u hu => by obtain ⟨y, _, hy⟩ := List.mem_flatMap.1 hu; exact E.h1 y u hy) (by unfold maxLen; omega) (by have := Nat.mul_le_mul (show xs.length + ys.length ≤ 2000000 by omega) E.hb; omega) hB ?_
  intro v' w' h1 h2 h3 h4
  refine h v' w' (by unfold RowG; rw [List.length_append, List.flatMap_append]; exact h1) ?_
  refine ⟨h2.os, h2.tape, h2.output, h2.size, fun k hk => h2.block k (Nat.lt_of_lt_of_le hk hB) ?_⟩
  rcases hown'.2 with ⟨rfl, _⟩ | ⟨g, cap, cur, rfl, hg, _⟩
  · simp [Value.ownBlock]
  · simp [Value.ownBlock]; omega

/-- A tag's name. -/
def tnm (u : UInt8) : ByteArray := ⟨#[116]⟩ ++ ⟨#[u]⟩
/-- The number of a name. -/
def mkAt (m : Int) : Int := (IntKind.i64.wrap (m.tdiv 2)) % 6
def mkTag (i : Nat) (m : Int) : S42 := ⟨tnm (UInt8.ofNat (48 + i)), rdOf ByteArray.empty revs6 (mkAt m)⟩
/-- The tags of raw numbers. -/
def mkTags (ms : List Int) : Nat → List S42
  | 0 => []
  | n + 1 => mkTags ms n ++ (if rd ms n % 2 = 0 then [mkTag n (rd ms n)] else [])
def tagsOf (ms : List Int) : List S42 := mkTags ms (min 4 ms.length)
theorem mkTags_len (ms : List Int) : ∀ n, (mkTags ms n).length ≤ n
  | 0 => by simp [mkTags]
  | n + 1 => by
    have := mkTags_len ms n
    unfold mkTags
    rw [List.length_append]
    split <;> simp <;> omega
theorem tagsOf_len (ms : List Int) : (tagsOf ms).length ≤ 4 := Nat.le_trans (mkTags_len ms _) (Nat.min_le_left _ _)

theorem hold_byte {wr w : World} (h : Below wr.heap.size wr w) (z : Int) : ∃ g w5, w5 = w.alloc (.cells #[.int .u8 z] 5) ∧ g = w.heap.size ∧ w5.cell? ⟨g, 0, none⟩ = some (.int .u8 z) ∧ Below wr.heap.size wr w5 ∧ Below w.heap.size w w5 := by
  have k := Blk.new w #[.int .u8 z] 5
  exact ⟨_, _, rfl, rfl, by rw [k.cell]; rfl, h.alloc h.size _, (Below.refl _ _).alloc (Nat.le_refl _) _⟩
theorem hold_byteD {wr w : World} (h : Below wr.heap.size wr w.drew) (z : Int) : ∃ g w5, w5 = (w.alloc (.cells #[.int .u8 z] 5)).drew ∧ g = w.heap.size ∧ w5.cell? ⟨g, 0, none⟩ = some (.int .u8 z) ∧ Below wr.heap.size wr w5 ∧ Below w.drew.heap.size w.drew w5 := by
  have k := Blk.new w.drew #[.int .u8 z] 5
  exact ⟨_, _, rfl, rfl, by have := k.cell 0; exact this, h.alloc h.size _, (Below.refl _ _).alloc (Nat.le_refl _) _⟩
theorem hold_tag {wr w : World} (h : Below wr.heap.size wr w) (x y : ByteArray) : ∃ g w5, w5 = w.alloc (.cells #[.string x, .string y] 42) ∧ g = w.heap.size ∧ w5.heap[g]? = some (.cells (el42.enc ⟨x, y⟩).toArray el42.e (0, 0)) ∧ Below wr.heap.size wr w5 ∧ Below w.heap.size w w5 :=
  ⟨_, _, rfl, rfl, Blk.new w #[.string x, .string y] 42, h.alloc h.size _, (Below.refl _ _).alloc (Nat.le_refl _) _⟩
theorem cell_lt {w : World} {p : Addr} {v : Value} (h : w.cell? p = some v) : p.block < w.heap.size := by
  unfold World.cell? at h
  cases e : w.heap[p.block]? with
  | none => rw [e] at h; simp at h
  | some o => exact (Array.getElem?_eq_some_iff.1 e).1
theorem conv1 {w : World} {g : Nat} {u : UInt8} (h : w.cell? ⟨g, 0, none⟩ = some (.int .u8 (u.toNat : Int))) : (convert 66 9 (.slice (some ⟨g, 0, none⟩) 1 1)).run Try.prog w = .ok (.string ⟨#[u]⟩) w :=
  run_convert_bytes_back (P := Try.prog) w 66 9 5 ⟨g, 0, none⟩ 1 [u] Try.underlying66 Try.underlying5 Try.underlying9 (fun j hj => by
    obtain rfl : j = 0 := by simpa using hj
    exact h)

set_option maxRecDepth 100000 in
set_option maxHeartbeats 4000000 in
/-- A table made of raw numbers. -/
theorem make_tags (A : Option Addr) (c : Nat) (ns : List Int) (Am : Option Addr) (cm : Nat) (ms : List Int) (w : World) (hr : Kd.C (Kd.int .i64) w A ns.length ns) (hc : ns.length ≤ c) (hrm : Kd.C (Kd.int .i64) w Am ms.length ms) (k : Nat) (a : List S40) (ha : damperlaw5_Shares.f k ns = some a) :
    Calls Try.prog 12 #[.slice A ns.length c, .slice Am ms.length cm] w fun e w' => ∃ B d D g, e = .returned (.agg #[.slice B a.length d, .slice D (tagsOf ms).length g]) ∧ (a.length ≤ d ∧ (tagsOf ms).length ≤ g) ∧ (Kd.C k40 w' B a.length a ∧ Kd.C k42 w' D (tagsOf ms).length (tagsOf ms)) ∧ (InOk (fun k => w.heap.size ≤ k) B a.length ∧ InOk (fun k => w.heap.size ≤ k) D (tagsOf ms).length) ∧ ArrO w' w.heap.size (fun _ => True) 40 B a.length ∧ Below w.heap.size w w' := by
  have HR := Lib.hid hr
  have HRM := Lib.hid hrm
  have HA := Lib.hid ha
  clear hr ha hrm
  have b1 : Below w.heap.size w (w.alloc (.cells #[.slice none 0 0, .slice none 0 0] 29)) := (Below.refl _ _).alloc (Nat.le_refl _) _
  have k4 : Blk (w.alloc (.cells #[.slice none 0 0, .slice none 0 0] 29)) w.heap.size #[.slice none 0 0, .slice none 0 0] 29 := Blk.new _ _ _
  obtain ⟨W, hW⟩ : ∃ W, W = w.alloc (.cells #[.slice none 0 0, .slice none 0 0] 29) := ⟨_, rfl⟩
  have HW := Lib.hid hW
  rw [← hW] at b1 k4
  have zW : w.heap.size < W.heap.size := k4.lt
  have K4 := Lib.hid k4
  have B1 := Lib.hid b1
  clear hW k4 b1
  go_enter Try.func12, Try.ntmps12
  go_wp2_with fail
  rw [← HW.out]
  clear HW
  refine (damperlaw5_Shares.calls k A c ns a _ (Kd.C_below HR.out B1.out) hc HA.out).mono ?_
  rintro e w2 ⟨v2, rfl, hr2, hb2⟩
  obtain ⟨B, d, rfl, hd, hC⟩ := Kd.R_reads hr2
  have hI : InOk (fun k => W.heap.size ≤ k) B a.length := fun hp ad e => by
    obtain ⟨inner, ho⟩ := Kd.R_own hr2
    exact own_base ho ad.block (by rw [e]; rfl)
  have HI := Lib.hid hI
  have k4 := K4.out.below hb2 zW
  have z2 := hb2.size
  have HB2 := Lib.hid hb2
  obtain ⟨W3, hW3⟩ : ∃ W3, W3 = w2.alloc (.cells #[.slice B a.length d, .slice none 0 0] 29) := ⟨_, rfl⟩
  obtain ⟨g5, hg5⟩ : ∃ g5, g5 = w2.heap.size := ⟨_, rfl⟩
  have k5 : Blk W3 g5 #[.slice B a.length d, .slice none 0 0] 29 := by rw [hW3, hg5]; exact Blk.new _ _ _
  have b3 : Below w2.heap.size w2 W3 := by rw [hW3]; exact (Below.refl _ _).alloc (Nat.le_refl _) _
  have K4 := Lib.hid (k4.below b3 (by omega))
  have HC := Lib.hid (Kd.C_below hC b3)
  have K5 := Lib.hid k5
  have HB3 := Lib.hid (below_step (below_step B1.out hb2) b3)
  have z3 : g5 < W3.heap.size := k5.lt
  have zg5 : W.heap.size ≤ g5 := by omega
  have HW3 := Lib.hid hW3
  have HD := Lib.hid hd
  have z3' : w2.heap.size ≤ W3.heap.size := b3.size
  have hI5 : Hid (InOk (fun k => w.heap.size ≤ k ∧ k < g5) B a.length) := Lib.hid (fun hp ad e => ⟨Nat.le_trans (Nat.le_of_lt zW) (HI.out hp ad e), by
    obtain ⟨inner, ho⟩ := Kd.R_own hr2
    have := own_lt ho ad.block (by rw [e]; rfl)
    omega⟩)
  have HI6 : Hid (InOk (fun k => w.heap.size < k) B a.length) := Lib.hid (fun hp ad e => Nat.lt_of_lt_of_le zW (HI.out hp ad e))
  have HAR : Hid (ArrO W3 (w.heap.size + 1) (fun k => k < g5) 40 B a.length) := Lib.hid (fun hn => by
    obtain ⟨inner, ho⟩ := Kd.R_own hr2
    rcases ho.2 with ⟨e, h0⟩ | ⟨g, cap, cur, e, hb, hh, q3, q4, q5, _⟩
    · omega
    · cases e
      have hlt := (Array.getElem?_eq_some_iff.1 hh).1
      refine ⟨g, cur, rfl, by omega, by omega, (show Blk w2 g cur 40 from hh).below b3 hlt, ?_⟩
      rw [q5]
      exact Nat.mul_le_mul_right _ q3)
  clear hr2 hI hC k4 k5 b3 hW3 hb2 HI HB2 B1 hd z2 z3'
  go_wp2_with fail
  rw [← HW3.out, ← hg5]
  clear HW3 hg5
  go_loopw [6] (fun v6 wr => ∃ (i : Nat) (vt : Value), i ≤ 4 ∧ i ≤ ms.length ∧ v6 = .int .i64 i ∧ Hid (Blk wr g5 #[.slice B a.length d, vt] 29) ∧ Hid (RowG el42 wr W3.heap.size vt (mkTags ms i)) ∧ Hid (Chg (fun k => k = g5) W3 wr)) (fun v6 _ => 4 - (vI v6).toNat)
  case atStart => exact ⟨0, _, by omega, by omega, rfl, K5, Lib.hid (RowG.nil _ _ _), Lib.hid (Chg.refl _ _)⟩
  case round =>
    clear K5
    obtain ⟨i, vt, hi4, hi, rfl, KK, RR, CC⟩ := hrel
    have BW := Lib.hid (CC.out.below_of HB3.out (by omega) (fun k hk e => by omega))
    by_cases h4 : i < 4
    · by_cases hlt : i < ms.length
      · have hlt' : (i : Int) < (ms.length : Int) := by omega
        have h4' : (i : Int) < 4 := by omega
        obtain ⟨ad, rfl, hce⟩ := Kd.at_int (Kd.C_below HRM.out BW.out) (i : Int) (by omega) hlt'
        rw [Int.toNat_natCast] at hce
        obtain ⟨m, hm⟩ : ∃ m, m = rd ms i := ⟨_, rfl⟩
        have HM := Lib.hid hm
        rw [← hm] at hce
        clear hm
        go_wp2_with fail
        have hwi := Lib.hid (within5 m 2 (by omega) (by omega))
        refine (damperlaw5_within.calls m 2 (m % 2) _ hwi.out).mono ?_
        rintro e w4 ⟨rfl, hd_⟩
        have hd_ := hd_.below
        clear hwi
        have hce4 := (hd_.cell (p := ad.add i) (cell_lt hce)).trans hce
        have zWr := CC.out.size
        have KK4 := Lib.hid (KK.out.below hd_ KK.out.lt)
        have RR4 := Lib.hid (RR.out.below hd_ (Nat.le_refl _))
        have CC4 := Lib.hid (CC.out.trans (Chg.of_below hd_ (F := fun _ => False) (fun k hk hk' => by omega)) (fun _ _ h => h.elim))
        clear hce hd_ KK RR CC BW
        by_cases h2 : m % 2 = 0
        · have q2 : (m % 2 == 0) = true := by simpa using h2
          have HTG := Lib.hid (show mkTags ms (i + 1) = mkTags ms i ++ [mkTag i m] from by
            show mkTags ms i ++ _ = _
            rw [← HM.out, if_pos h2])
          obtain ⟨q, hq⟩ : ∃ q, q = IntKind.i64.wrap (m.tdiv 2) := ⟨_, rfl⟩
          obtain ⟨kk, hkk⟩ : ∃ kk, kk = q % 6 := ⟨_, rfl⟩
          have hk0 : 0 ≤ kk := by omega
          have hk6 : kk < 6 := by omega
          have hkn : kk < (revs6.length : Int) := hk6
          have HKK := Lib.hid (show mkAt m = kk from by unfold mkAt; rw [← hq, ← hkk])
          have hwi := Lib.hid (show damperlaw5_within.f q 6 = some kk from by rw [hkk]; exact within5 q 6 (by omega) (by omega))
          have hqs := hq.symm
          obtain ⟨u, hu⟩ : ∃ u : UInt8, u = UInt8.ofNat (48 + i) := ⟨_, rfl⟩
          have hun : (u.toNat : Int) = 48 + (i : Int) := by
            rw [hu, UInt8.toNat_ofNat']
            omega
          have HU := Lib.hid hu
          have hwv : IntKind.i64.wrap (48 + (i : Int)) = 48 + (i : Int) := IntWalk.i64_in _ (by omega)
          have hwu : IntKind.u8.wrap (48 + (i : Int)) = (u.toNat : Int) := by
            rw [hun]
            exact IntWalk.u8_in _ (by omega)
          obtain ⟨nm, hnm⟩ : ∃ nm, nm = rdOf ByteArray.empty revs6 kk := ⟨_, rfl⟩
          have HNM := Lib.hid hnm
          have HLEN := Lib.hid (mkTags_len ms i)
          have hvt : vt.oneCell' = true := by
            obtain ⟨A', c', e', _⟩ := RR4.out.shape
            rw [e']
            rfl
          clear hq hkk hu hun hnm q2
          have q2 : (m % 2 == 0) = true := by simpa using h2
          go_wp2_with fail
          have b0_ := Lib.hid ((Below.refl w4.heap.size w4).drew)
          refine start_ (n := 22) (S := fun w' => w'.cell? ⟨g5, 1, none⟩ = some vt ∧ w'.cell? (ad.add i) = some (.int .i64 m) ∧ Below w4.heap.size w4 w') (ds := [19, 21]) #[false, false, false, false, false, false, false, false, false, false, false, false, false, false, false, false, false, false, false, false, false, false] (by kernel_rfl) rfl rfl ⟨KK4.out.cell 1, hce4, b0_.out⟩ (fun hHeld => ?_)
          refine pure_ (i := 0) (N := some 26) (v := ?_) (a' := ?_) #[true, false, false, false, false, false, false, false, false, false, false, false, false, false, false, false, false, false, false, false, false, false] rfl rfl (by kernel_rfl) (fun _ _ _ h => h) (Or.inl ⟨by rfl, ?_⟩) ?_ ?_
          rotate_left
          · intro w'
            go_simp
            with_reducible rfl
          rotate_left
          · simp only [Act.put, List.setIfInBounds_toArray, List.set_cons_zero, List.set_cons_succ]
            rfl
          refine pure_ (i := 2) (N := some 28) (v := ?_) (a' := ?_) #[true, false, true, false, false, false, false, false, false, false, false, false, false, false, false, false, false, false, false, false, false, false] rfl rfl (by kernel_rfl) (fun _ _ _ h => h) (Or.inl ⟨by rfl, ?_⟩) ?_ ?_
          rotate_left
          · intro w'
            go_simp
            with_reducible rfl
          rotate_left
          · simp only [Act.put, List.setIfInBounds_toArray, List.set_cons_zero, List.set_cons_succ]
            rfl
          refine pure_ (i := 3) (N := some 29) (v := ?_) (a' := ?_) #[true, false, true, true, false, false, false, false, false, false, false, false, false, false, false, false, false, false, false, false, false, false] rfl rfl (by kernel_rfl) (fun _ _ _ h => h) (Or.inl ⟨by rfl, ?_⟩) ?_ ?_
          rotate_left
          · intro w'
            go_simp
            with_reducible rfl
          rotate_left
          · simp only [Act.put, List.setIfInBounds_toArray, List.set_cons_zero, List.set_cons_succ]
            rfl
          refine pure_ (i := 4) (N := some 30) (v := ?_) (a' := ?_) #[true, false, true, true, true, false, false, false, false, false, false, false, false, false, false, false, false, false, false, false, false, false] rfl rfl (by kernel_rfl) (fun _ _ _ h => h) (Or.inl ⟨by rfl, ?_⟩) ?_ ?_
          rotate_left
          · intro w'
            go_simp
            with_reducible rfl
          rotate_left
          · simp only [Act.put, List.setIfInBounds_toArray, List.set_cons_zero, List.set_cons_succ]
            rfl
          refine pure_ (i := 9) (N := some 35) (v := ?_) (a' := ?_) #[true, false, true, true, true, false, false, false, false, true, false, false, false, false, false, false, false, false, false, false, false, false] rfl rfl (by kernel_rfl) (fun _ _ _ h => h) (Or.inl ⟨by rfl, ?_⟩) ?_ ?_
          rotate_left
          · intro w'
            go_simp
            with_reducible rfl
          rotate_left
          · simp only [Act.put, List.setIfInBounds_toArray, List.set_cons_zero, List.set_cons_succ]
            rfl
          refine pure_ (i := 10) (N := some 36) (v := ?_) (a' := ?_) #[true, false, true, true, true, false, false, false, false, true, true, false, false, false, false, false, false, false, false, false, false, false] rfl rfl (by kernel_rfl) (fun _ _ _ h => h) (Or.inl ⟨by rfl, ?_⟩) ?_ ?_
          rotate_left
          · intro w'
            go_simp
            with_reducible rfl
          rotate_left
          · simp only [Act.put, List.setIfInBounds_toArray, List.set_cons_zero, List.set_cons_succ]
            rfl
          refine pure_ (i := 11) (N := some 37) (v := ?_) (a' := ?_) #[true, false, true, true, true, false, false, false, false, true, true, true, false, false, false, false, false, false, false, false, false, false] rfl rfl (by kernel_rfl) (fun _ _ _ h => h) (Or.inl ⟨by rfl, ?_⟩) ?_ ?_
          rotate_left
          · intro w'
            go_simp
            with_reducible rfl
          rotate_left
          · simp only [Act.put, List.setIfInBounds_toArray, List.set_cons_zero, List.set_cons_succ]
            rfl
          refine take_ (i := 1) (N := some 27) (v := ?_) (a' := ?_) #[true, true, true, true, true, false, false, false, false, true, true, true, false, false, false, false, false, false, false, false, false, false] rfl rfl (by kernel_rfl) (fun _ _ _ h => h) (Or.inl ⟨by rfl, ?_⟩) hHeld ?_ ?_
          rotate_left
          · rintro w' ⟨s0, s1, s2⟩
            go_simp
            with_reducible rfl
          rotate_left
          · simp only [Act.put, List.setIfInBounds_toArray, List.set_cons_zero, List.set_cons_succ]
            rfl
          refine take_ (i := 12) (N := some 38) (v := ?_) (a' := ?_) #[true, true, true, true, true, false, false, false, false, true, true, true, true, false, false, false, false, false, false, false, false, false] rfl rfl (by kernel_rfl) (fun _ _ _ h => h) (Or.inl ⟨by rfl, ?_⟩) hHeld ?_ ?_
          rotate_left
          · rintro w' ⟨s0, s1, s2⟩
            go_simp
            with_reducible rfl
          rotate_left
          · simp only [Act.put, List.setIfInBounds_toArray, List.set_cons_zero, List.set_cons_succ]
            rfl
          refine pure_ (i := 13) (N := some 39) (v := ?_) (a' := ?_) #[true, true, true, true, true, false, false, false, false, true, true, true, true, true, false, false, false, false, false, false, false, false] rfl rfl (by kernel_rfl) (fun _ _ _ h => h) (Or.inl ⟨by rfl, ?_⟩) ?_ ?_
          rotate_left
          · intro w'
            go_simp
            with_reducible rfl
          rotate_left
          · simp only [Act.put, List.setIfInBounds_toArray, List.set_cons_zero, List.set_cons_succ]
            rfl
          refine join_ (σ := Value × Value × Value) 5 #[true, true, true, true, true, true, true, true, true, true, true, true, true, true, true, true, true, false, false, false, false, false] (fun s => [(31, s.1), (32, .string ⟨#[u]⟩), (33, .string (⟨#[116]⟩ ++ ⟨#[u]⟩)), (34, s.2.1), (40, .int .i64 kk), (41, s.2.2), (42, .string nm)]) (fun _ w' => w'.cell? ⟨g5, 1, none⟩ = some vt ∧ w'.cell? (ad.add i) = some (.int .i64 m) ∧ Below w4.heap.size w4 w') ?_ ?_
          rotate_left
          · intro hCont
            refine two_ (i := 5) (j := 8) (Ni := some 31) (Nj := some 34) #[true, true, true, true, true, true, false, false, false, true, true, true, true, true, false, false, false, false, false, false, false, false] #[true, true, true, true, true, false, false, false, true, true, true, true, true, true, false, false, false, false, false, false, false, false] rfl rfl rfl rfl (by kernel_rfl) (by decide) (by decide) (fun K hK => ?_) (fun K hK => ?_)
            · skip
              refine value_ (w1 := ?_) (v := ?_) (by rfl) rfl ?_ ?_
              rotate_left 2
              · go_simp
                constructor
                · rfl
                · rfl
              obtain ⟨g31, w5, hw5, hg31, hs5, b5, bb5⟩ := hold_byteD hHeld.2.2 (u.toNat : Int)
              rw [← hw5, ← hg31]
              clear hw5 hg31
              refine hK.out _ _ ⟨(b5.cell (p := ⟨g5, 1, none⟩) (by have := KK4.out.lt; exact this)).trans (KK4.out.cell 1), (b5.cell (p := ad.add i) (cell_lt hce4)).trans hce4, b5⟩ (fun hHeld => ?_)
              clear hK K
              refine norm_ (a' := ?_) ?_ ?_
              rotate_left
              · show Act.put _ (some 31) _ = _
                simp only [Act.put, List.setIfInBounds_toArray, List.set_cons_zero, List.set_cons_succ]
                rfl
              refine two_ (i := 6) (j := 8) (Ni := some 32) (Nj := some 34) #[true, true, true, true, true, true, true, false, false, true, true, true, true, true, false, false, false, false, false, false, false, false] #[true, true, true, true, true, true, false, false, true, true, true, true, true, true, false, false, false, false, false, false, false, false] rfl rfl rfl rfl (by kernel_rfl) (by decide) (by decide) (fun K hK => ?_) (fun K hK => ?_)
              · skip
                have hcv := conv1 hs5
                refine value_ (w1 := ?_) (v := ?_) (by rfl) rfl ?_ ?_
                rotate_left 2
                · go_simp
                  constructor
                  · rfl
                  · rfl
                refine hK.out _ _ ⟨hHeld.1, hHeld.2.1, hHeld.2.2⟩ (fun hHeld => ?_)
                clear hK K
                refine norm_ (a' := ?_) ?_ ?_
                rotate_left
                · show Act.put _ (some 32) _ = _
                  simp only [Act.put, List.setIfInBounds_toArray, List.set_cons_zero, List.set_cons_succ]
                  rfl
                refine pure_ (i := 7) (N := some 33) (v := ?_) (a' := ?_) #[true, true, true, true, true, true, true, true, false, true, true, true, true, true, false, false, false, false, false, false, false, false] rfl rfl (by kernel_rfl) (fun _ _ _ h => h) (Or.inl ⟨by rfl, ?_⟩) ?_ ?_
                rotate_left
                · intro w'
                  go_simp
                  with_reducible rfl
                rotate_left
                · simp only [Act.put, List.setIfInBounds_toArray, List.set_cons_zero, List.set_cons_succ]
                  rfl
                refine one_ (i := 8) (N := some 34) #[true, true, true, true, true, true, true, true, true, true, true, true, true, true, false, false, false, false, false, false, false, false] rfl rfl (by kernel_rfl) (by decide) (fun K hK => ?_)
                refine goes_ Try.func15 (by kernel_rfl) rfl #[] (by rfl) rfl rfl (by simp only [List.map_toArray, List.map_nil]) ?_
                with_reducible refine (damperlaw5_Revs.calls revs6 _ revs_f).mono ?_
                rintro e w8 ⟨v8, rfl, r8, h8⟩
                obtain ⟨A8, c8, rfl, hl8, hC8⟩ := Kd.R_reads r8
                obtain ⟨ad8, rfl, hc8⟩ := Kd.at_string hC8 kk hk0 hk6
                rw [← HNM.out] at hc8
                have b8 := below_step hHeld.2.2 h8
                have hs5 := (h8.cell (p := ⟨g31, 0, none⟩) (cell_lt hs5)).trans hs5
                clear r8 hC8
                refine ⟨_, rfl, ?_⟩
                refine hK.out _ _ ⟨(b8.cell (p := ⟨g5, 1, none⟩) (by have := KK4.out.lt; exact this)).trans (KK4.out.cell 1), (b8.cell (p := ad.add i) (cell_lt hce4)).trans hce4, b8⟩ (fun hHeld => ?_)
                clear hK K
                refine norm_ (a' := ?_) ?_ ?_
                rotate_left
                · show Act.put _ (some 34) _ = _
                  simp only [Act.put, List.setIfInBounds_toArray, List.set_cons_zero, List.set_cons_succ]
                  rfl
                refine one_ (i := 14) (N := some 40) #[true, true, true, true, true, true, true, true, true, true, true, true, true, true, true, false, false, false, false, false, false, false] rfl rfl (by kernel_rfl) (by decide) (fun K hK => ?_)
                refine goes_ Try.func28 (by kernel_rfl) rfl #[.int .i64 q, .int .i64 6] (by rfl) rfl rfl (by simp only [List.map_toArray, List.map_cons, List.map_nil]; rfl) ?_
                with_reducible refine (damperlaw5_within.calls q 6 kk _ hwi.out).mono ?_
                rintro e w14 ⟨rfl, h14⟩
                have h14 := h14.below
                have b14 := below_step hHeld.2.2 h14
                have hc8 := (h14.cell (p := ad8.add kk.toNat) (cell_lt hc8)).trans hc8
                have hs5 := (h14.cell (p := ⟨g31, 0, none⟩) (cell_lt hs5)).trans hs5
                refine ⟨_, rfl, ?_⟩
                refine hK.out _ _ ⟨(b14.cell (p := ⟨g5, 1, none⟩) (by have := KK4.out.lt; exact this)).trans (KK4.out.cell 1), (b14.cell (p := ad.add i) (cell_lt hce4)).trans hce4, b14⟩ (fun hHeld => ?_)
                clear hK K
                refine norm_ (a' := ?_) ?_ ?_
                rotate_left
                · show Act.put _ (some 40) _ = _
                  simp only [Act.put, List.setIfInBounds_toArray, List.set_cons_zero, List.set_cons_succ]
                  rfl
                refine pure_ (i := 15) (N := some 41) (v := ?_) (a' := ?_) #[true, true, true, true, true, true, true, true, true, true, true, true, true, true, true, true, false, false, false, false, false, false] rfl rfl (by kernel_rfl) (fun _ _ _ h => h) (Or.inl ⟨by rfl, ?_⟩) ?_ ?_
                rotate_left
                · intro w'
                  go_simp
                  with_reducible rfl
                rotate_left
                · simp only [Act.put, List.setIfInBounds_toArray, List.set_cons_zero, List.set_cons_succ]
                  rfl
                refine one_ (i := 16) (N := some 42) #[true, true, true, true, true, true, true, true, true, true, true, true, true, true, true, true, true, false, false, false, false, false] rfl rfl (by kernel_rfl) (by decide) (fun K hK => ?_)
                refine value_ (w1 := ?_) (v := ?_) (by rfl) rfl ?_ ?_
                rotate_left 2
                · go_simp
                  constructor
                  · rfl
                  · rfl
                refine hK.out _ _ ⟨hHeld.1, hHeld.2.1, hHeld.2.2⟩ (fun hHeld => ?_)
                clear hK K
                refine norm_ (a' := ?_) ?_ ?_
                rotate_left
                · show Act.put _ (some 42) _ = _
                  simp only [Act.put, List.setIfInBounds_toArray, List.set_cons_zero, List.set_cons_succ]
                  rfl
                exact norm_ (by simp only [putAll, Act.put, List.setIfInBounds_toArray, List.set_cons_zero, List.set_cons_succ]) (hCont (.slice (some ⟨g31, 0, none⟩) 1 1, .slice (some ad8) revs6.length c8, .pointer (some (ad8.add kk.toNat))) _ hHeld)
              · skip
                refine goes_ Try.func15 (by kernel_rfl) rfl #[] (by rfl) rfl rfl (by simp only [List.map_toArray, List.map_nil]) ?_
                with_reducible refine (damperlaw5_Revs.calls revs6 _ revs_f).mono ?_
                rintro e w8 ⟨v8, rfl, r8, h8⟩
                obtain ⟨A8, c8, rfl, hl8, hC8⟩ := Kd.R_reads r8
                obtain ⟨ad8, rfl, hc8⟩ := Kd.at_string hC8 kk hk0 hk6
                rw [← HNM.out] at hc8
                have b8 := below_step hHeld.2.2 h8
                have hs5 := (h8.cell (p := ⟨g31, 0, none⟩) (cell_lt hs5)).trans hs5
                clear r8 hC8
                refine ⟨_, rfl, ?_⟩
                refine hK.out _ _ ⟨(b8.cell (p := ⟨g5, 1, none⟩) (by have := KK4.out.lt; exact this)).trans (KK4.out.cell 1), (b8.cell (p := ad.add i) (cell_lt hce4)).trans hce4, b8⟩ (fun hHeld => ?_)
                clear hK K
                refine norm_ (a' := ?_) ?_ ?_
                rotate_left
                · show Act.put _ (some 34) _ = _
                  simp only [Act.put, List.setIfInBounds_toArray, List.set_cons_zero, List.set_cons_succ]
                  rfl
                refine two_ (i := 6) (j := 14) (Ni := some 32) (Nj := some 40) #[true, true, true, true, true, true, true, false, true, true, true, true, true, true, false, false, false, false, false, false, false, false] #[true, true, true, true, true, true, false, false, true, true, true, true, true, true, true, false, false, false, false, false, false, false] rfl rfl rfl rfl (by kernel_rfl) (by decide) (by decide) (fun K hK => ?_) (fun K hK => ?_)
                · skip
                  have hcv := conv1 hs5
                  refine value_ (w1 := ?_) (v := ?_) (by rfl) rfl ?_ ?_
                  rotate_left 2
                  · go_simp
                    constructor
                    · rfl
                    · rfl
                  refine hK.out _ _ ⟨hHeld.1, hHeld.2.1, hHeld.2.2⟩ (fun hHeld => ?_)
                  clear hK K
                  refine norm_ (a' := ?_) ?_ ?_
                  rotate_left
                  · show Act.put _ (some 32) _ = _
                    simp only [Act.put, List.setIfInBounds_toArray, List.set_cons_zero, List.set_cons_succ]
                    rfl
                  refine pure_ (i := 7) (N := some 33) (v := ?_) (a' := ?_) #[true, true, true, true, true, true, true, true, true, true, true, true, true, true, false, false, false, false, false, false, false, false] rfl rfl (by kernel_rfl) (fun _ _ _ h => h) (Or.inl ⟨by rfl, ?_⟩) ?_ ?_
                  rotate_left
                  · intro w'
                    go_simp
                    with_reducible rfl
                  rotate_left
                  · simp only [Act.put, List.setIfInBounds_toArray, List.set_cons_zero, List.set_cons_succ]
                    rfl
                  refine one_ (i := 14) (N := some 40) #[true, true, true, true, true, true, true, true, true, true, true, true, true, true, true, false, false, false, false, false, false, false] rfl rfl (by kernel_rfl) (by decide) (fun K hK => ?_)
                  refine goes_ Try.func28 (by kernel_rfl) rfl #[.int .i64 q, .int .i64 6] (by rfl) rfl rfl (by simp only [List.map_toArray, List.map_cons, List.map_nil]; rfl) ?_
                  with_reducible refine (damperlaw5_within.calls q 6 kk _ hwi.out).mono ?_
                  rintro e w14 ⟨rfl, h14⟩
                  have h14 := h14.below
                  have b14 := below_step hHeld.2.2 h14
                  have hc8 := (h14.cell (p := ad8.add kk.toNat) (cell_lt hc8)).trans hc8
                  have hs5 := (h14.cell (p := ⟨g31, 0, none⟩) (cell_lt hs5)).trans hs5
                  refine ⟨_, rfl, ?_⟩
                  refine hK.out _ _ ⟨(b14.cell (p := ⟨g5, 1, none⟩) (by have := KK4.out.lt; exact this)).trans (KK4.out.cell 1), (b14.cell (p := ad.add i) (cell_lt hce4)).trans hce4, b14⟩ (fun hHeld => ?_)
                  clear hK K
                  refine norm_ (a' := ?_) ?_ ?_
                  rotate_left
                  · show Act.put _ (some 40) _ = _
                    simp only [Act.put, List.setIfInBounds_toArray, List.set_cons_zero, List.set_cons_succ]
                    rfl
                  refine pure_ (i := 15) (N := some 41) (v := ?_) (a' := ?_) #[true, true, true, true, true, true, true, true, true, true, true, true, true, true, true, true, false, false, false, false, false, false] rfl rfl (by kernel_rfl) (fun _ _ _ h => h) (Or.inl ⟨by rfl, ?_⟩) ?_ ?_
                  rotate_left
                  · intro w'
                    go_simp
                    with_reducible rfl
                  rotate_left
                  · simp only [Act.put, List.setIfInBounds_toArray, List.set_cons_zero, List.set_cons_succ]
                    rfl
                  refine one_ (i := 16) (N := some 42) #[true, true, true, true, true, true, true, true, true, true, true, true, true, true, true, true, true, false, false, false, false, false] rfl rfl (by kernel_rfl) (by decide) (fun K hK => ?_)
                  refine value_ (w1 := ?_) (v := ?_) (by rfl) rfl ?_ ?_
                  rotate_left 2
                  · go_simp
                    constructor
                    · rfl
                    · rfl
                  refine hK.out _ _ ⟨hHeld.1, hHeld.2.1, hHeld.2.2⟩ (fun hHeld => ?_)
                  clear hK K
                  refine norm_ (a' := ?_) ?_ ?_
                  rotate_left
                  · show Act.put _ (some 42) _ = _
                    simp only [Act.put, List.setIfInBounds_toArray, List.set_cons_zero, List.set_cons_succ]
                    rfl
                  exact norm_ (by simp only [putAll, Act.put, List.setIfInBounds_toArray, List.set_cons_zero, List.set_cons_succ]) (hCont (.slice (some ⟨g31, 0, none⟩) 1 1, .slice (some ad8) revs6.length c8, .pointer (some (ad8.add kk.toNat))) _ hHeld)
                · skip
                  refine goes_ Try.func28 (by kernel_rfl) rfl #[.int .i64 q, .int .i64 6] (by rfl) rfl rfl (by simp only [List.map_toArray, List.map_cons, List.map_nil]; rfl) ?_
                  with_reducible refine (damperlaw5_within.calls q 6 kk _ hwi.out).mono ?_
                  rintro e w14 ⟨rfl, h14⟩
                  have h14 := h14.below
                  have b14 := below_step hHeld.2.2 h14
                  have hc8 := (h14.cell (p := ad8.add kk.toNat) (cell_lt hc8)).trans hc8
                  have hs5 := (h14.cell (p := ⟨g31, 0, none⟩) (cell_lt hs5)).trans hs5
                  refine ⟨_, rfl, ?_⟩
                  refine hK.out _ _ ⟨(b14.cell (p := ⟨g5, 1, none⟩) (by have := KK4.out.lt; exact this)).trans (KK4.out.cell 1), (b14.cell (p := ad.add i) (cell_lt hce4)).trans hce4, b14⟩ (fun hHeld => ?_)
                  clear hK K
                  refine norm_ (a' := ?_) ?_ ?_
                  rotate_left
                  · show Act.put _ (some 40) _ = _
                    simp only [Act.put, List.setIfInBounds_toArray, List.set_cons_zero, List.set_cons_succ]
                    rfl
                  refine pure_ (i := 15) (N := some 41) (v := ?_) (a' := ?_) #[true, true, true, true, true, true, false, false, true, true, true, true, true, true, true, true, false, false, false, false, false, false] rfl rfl (by kernel_rfl) (fun _ _ _ h => h) (Or.inl ⟨by rfl, ?_⟩) ?_ ?_
                  rotate_left
                  · intro w'
                    go_simp
                    with_reducible rfl
                  rotate_left
                  · simp only [Act.put, List.setIfInBounds_toArray, List.set_cons_zero, List.set_cons_succ]
                    rfl
                  refine two_ (i := 6) (j := 16) (Ni := some 32) (Nj := some 42) #[true, true, true, true, true, true, true, false, true, true, true, true, true, true, true, true, false, false, false, false, false, false] #[true, true, true, true, true, true, false, false, true, true, true, true, true, true, true, true, true, false, false, false, false, false] rfl rfl rfl rfl (by kernel_rfl) (by decide) (by decide) (fun K hK => ?_) (fun K hK => ?_)
                  · skip
                    have hcv := conv1 hs5
                    refine value_ (w1 := ?_) (v := ?_) (by rfl) rfl ?_ ?_
                    rotate_left 2
                    · go_simp
                      constructor
                      · rfl
                      · rfl
                    refine hK.out _ _ ⟨hHeld.1, hHeld.2.1, hHeld.2.2⟩ (fun hHeld => ?_)
                    clear hK K
                    refine norm_ (a' := ?_) ?_ ?_
                    rotate_left
                    · show Act.put _ (some 32) _ = _
                      simp only [Act.put, List.setIfInBounds_toArray, List.set_cons_zero, List.set_cons_succ]
                      rfl
                    refine pure_ (i := 7) (N := some 33) (v := ?_) (a' := ?_) #[true, true, true, true, true, true, true, true, true, true, true, true, true, true, true, true, false, false, false, false, false, false] rfl rfl (by kernel_rfl) (fun _ _ _ h => h) (Or.inl ⟨by rfl, ?_⟩) ?_ ?_
                    rotate_left
                    · intro w'
                      go_simp
                      with_reducible rfl
                    rotate_left
                    · simp only [Act.put, List.setIfInBounds_toArray, List.set_cons_zero, List.set_cons_succ]
                      rfl
                    refine one_ (i := 16) (N := some 42) #[true, true, true, true, true, true, true, true, true, true, true, true, true, true, true, true, true, false, false, false, false, false] rfl rfl (by kernel_rfl) (by decide) (fun K hK => ?_)
                    refine value_ (w1 := ?_) (v := ?_) (by rfl) rfl ?_ ?_
                    rotate_left 2
                    · go_simp
                      constructor
                      · rfl
                      · rfl
                    refine hK.out _ _ ⟨hHeld.1, hHeld.2.1, hHeld.2.2⟩ (fun hHeld => ?_)
                    clear hK K
                    refine norm_ (a' := ?_) ?_ ?_
                    rotate_left
                    · show Act.put _ (some 42) _ = _
                      simp only [Act.put, List.setIfInBounds_toArray, List.set_cons_zero, List.set_cons_succ]
                      rfl
                    exact norm_ (by simp only [putAll, Act.put, List.setIfInBounds_toArray, List.set_cons_zero, List.set_cons_succ]) (hCont (.slice (some ⟨g31, 0, none⟩) 1 1, .slice (some ad8) revs6.length c8, .pointer (some (ad8.add kk.toNat))) _ hHeld)
                  · skip
                    refine value_ (w1 := ?_) (v := ?_) (by rfl) rfl ?_ ?_
                    rotate_left 2
                    · go_simp
                      constructor
                      · rfl
                      · rfl
                    refine hK.out _ _ ⟨hHeld.1, hHeld.2.1, hHeld.2.2⟩ (fun hHeld => ?_)
                    clear hK K
                    refine norm_ (a' := ?_) ?_ ?_
                    rotate_left
                    · show Act.put _ (some 42) _ = _
                      simp only [Act.put, List.setIfInBounds_toArray, List.set_cons_zero, List.set_cons_succ]
                      rfl
                    refine one_ (i := 6) (N := some 32) #[true, true, true, true, true, true, true, false, true, true, true, true, true, true, true, true, true, false, false, false, false, false] rfl rfl (by kernel_rfl) (by decide) (fun K hK => ?_)
                    have hcv := conv1 hs5
                    refine value_ (w1 := ?_) (v := ?_) (by rfl) rfl ?_ ?_
                    rotate_left 2
                    · go_simp
                      constructor
                      · rfl
                      · rfl
                    refine hK.out _ _ ⟨hHeld.1, hHeld.2.1, hHeld.2.2⟩ (fun hHeld => ?_)
                    clear hK K
                    refine norm_ (a' := ?_) ?_ ?_
                    rotate_left
                    · show Act.put _ (some 32) _ = _
                      simp only [Act.put, List.setIfInBounds_toArray, List.set_cons_zero, List.set_cons_succ]
                      rfl
                    refine pure_ (i := 7) (N := some 33) (v := ?_) (a' := ?_) #[true, true, true, true, true, true, true, true, true, true, true, true, true, true, true, true, true, false, false, false, false, false] rfl rfl (by kernel_rfl) (fun _ _ _ h => h) (Or.inl ⟨by rfl, ?_⟩) ?_ ?_
                    rotate_left
                    · intro w'
                      go_simp
                      with_reducible rfl
                    rotate_left
                    · simp only [Act.put, List.setIfInBounds_toArray, List.set_cons_zero, List.set_cons_succ]
                      rfl
                    exact norm_ (by simp only [putAll, Act.put, List.setIfInBounds_toArray, List.set_cons_zero, List.set_cons_succ]) (hCont (.slice (some ⟨g31, 0, none⟩) 1 1, .slice (some ad8) revs6.length c8, .pointer (some (ad8.add kk.toNat))) _ hHeld)
            · skip
              refine goes_ Try.func15 (by kernel_rfl) rfl #[] (by rfl) rfl rfl (by simp only [List.map_toArray, List.map_nil]) ?_
              with_reducible refine (damperlaw5_Revs.calls revs6 _ revs_f).mono ?_
              rintro e w8 ⟨v8, rfl, r8, h8⟩
              obtain ⟨A8, c8, rfl, hl8, hC8⟩ := Kd.R_reads r8
              obtain ⟨ad8, rfl, hc8⟩ := Kd.at_string hC8 kk hk0 hk6
              rw [← HNM.out] at hc8
              have b8 := below_step hHeld.2.2 h8
              clear r8 hC8
              refine ⟨_, rfl, ?_⟩
              refine hK.out _ _ ⟨(b8.cell (p := ⟨g5, 1, none⟩) (by have := KK4.out.lt; exact this)).trans (KK4.out.cell 1), (b8.cell (p := ad.add i) (cell_lt hce4)).trans hce4, b8⟩ (fun hHeld => ?_)
              clear hK K
              refine norm_ (a' := ?_) ?_ ?_
              rotate_left
              · show Act.put _ (some 34) _ = _
                simp only [Act.put, List.setIfInBounds_toArray, List.set_cons_zero, List.set_cons_succ]
                rfl
              refine two_ (i := 5) (j := 14) (Ni := some 31) (Nj := some 40) #[true, true, true, true, true, true, false, false, true, true, true, true, true, true, false, false, false, false, false, false, false, false] #[true, true, true, true, true, false, false, false, true, true, true, true, true, true, true, false, false, false, false, false, false, false] rfl rfl rfl rfl (by kernel_rfl) (by decide) (by decide) (fun K hK => ?_) (fun K hK => ?_)
              · skip
                refine value_ (w1 := ?_) (v := ?_) (by rfl) rfl ?_ ?_
                rotate_left 2
                · go_simp
                  constructor
                  · rfl
                  · rfl
                obtain ⟨g31, w5, hw5, hg31, hs5, b5, bb5⟩ := hold_byte hHeld.2.2 (u.toNat : Int)
                rw [← hw5, ← hg31]
                clear hw5 hg31
                have hc8 := (bb5.cell (p := ad8.add kk.toNat) (cell_lt hc8)).trans hc8
                refine hK.out _ _ ⟨(b5.cell (p := ⟨g5, 1, none⟩) (by have := KK4.out.lt; exact this)).trans (KK4.out.cell 1), (b5.cell (p := ad.add i) (cell_lt hce4)).trans hce4, b5⟩ (fun hHeld => ?_)
                clear hK K
                refine norm_ (a' := ?_) ?_ ?_
                rotate_left
                · show Act.put _ (some 31) _ = _
                  simp only [Act.put, List.setIfInBounds_toArray, List.set_cons_zero, List.set_cons_succ]
                  rfl
                refine two_ (i := 6) (j := 14) (Ni := some 32) (Nj := some 40) #[true, true, true, true, true, true, true, false, true, true, true, true, true, true, false, false, false, false, false, false, false, false] #[true, true, true, true, true, true, false, false, true, true, true, true, true, true, true, false, false, false, false, false, false, false] rfl rfl rfl rfl (by kernel_rfl) (by decide) (by decide) (fun K hK => ?_) (fun K hK => ?_)
                · skip
                  have hcv := conv1 hs5
                  refine value_ (w1 := ?_) (v := ?_) (by rfl) rfl ?_ ?_
                  rotate_left 2
                  · go_simp
                    constructor
                    · rfl
                    · rfl
                  refine hK.out _ _ ⟨hHeld.1, hHeld.2.1, hHeld.2.2⟩ (fun hHeld => ?_)
                  clear hK K
                  refine norm_ (a' := ?_) ?_ ?_
                  rotate_left
                  · show Act.put _ (some 32) _ = _
                    simp only [Act.put, List.setIfInBounds_toArray, List.set_cons_zero, List.set_cons_succ]
                    rfl
                  refine pure_ (i := 7) (N := some 33) (v := ?_) (a' := ?_) #[true, true, true, true, true, true, true, true, true, true, true, true, true, true, false, false, false, false, false, false, false, false] rfl rfl (by kernel_rfl) (fun _ _ _ h => h) (Or.inl ⟨by rfl, ?_⟩) ?_ ?_
                  rotate_left
                  · intro w'
                    go_simp
                    with_reducible rfl
                  rotate_left
                  · simp only [Act.put, List.setIfInBounds_toArray, List.set_cons_zero, List.set_cons_succ]
                    rfl
                  refine one_ (i := 14) (N := some 40) #[true, true, true, true, true, true, true, true, true, true, true, true, true, true, true, false, false, false, false, false, false, false] rfl rfl (by kernel_rfl) (by decide) (fun K hK => ?_)
                  refine goes_ Try.func28 (by kernel_rfl) rfl #[.int .i64 q, .int .i64 6] (by rfl) rfl rfl (by simp only [List.map_toArray, List.map_cons, List.map_nil]; rfl) ?_
                  with_reducible refine (damperlaw5_within.calls q 6 kk _ hwi.out).mono ?_
                  rintro e w14 ⟨rfl, h14⟩
                  have h14 := h14.below
                  have b14 := below_step hHeld.2.2 h14
                  have hc8 := (h14.cell (p := ad8.add kk.toNat) (cell_lt hc8)).trans hc8
                  have hs5 := (h14.cell (p := ⟨g31, 0, none⟩) (cell_lt hs5)).trans hs5
                  refine ⟨_, rfl, ?_⟩
                  refine hK.out _ _ ⟨(b14.cell (p := ⟨g5, 1, none⟩) (by have := KK4.out.lt; exact this)).trans (KK4.out.cell 1), (b14.cell (p := ad.add i) (cell_lt hce4)).trans hce4, b14⟩ (fun hHeld => ?_)
                  clear hK K
                  refine norm_ (a' := ?_) ?_ ?_
                  rotate_left
                  · show Act.put _ (some 40) _ = _
                    simp only [Act.put, List.setIfInBounds_toArray, List.set_cons_zero, List.set_cons_succ]
                    rfl
                  refine pure_ (i := 15) (N := some 41) (v := ?_) (a' := ?_) #[true, true, true, true, true, true, true, true, true, true, true, true, true, true, true, true, false, false, false, false, false, false] rfl rfl (by kernel_rfl) (fun _ _ _ h => h) (Or.inl ⟨by rfl, ?_⟩) ?_ ?_
                  rotate_left
                  · intro w'
                    go_simp
                    with_reducible rfl
                  rotate_left
                  · simp only [Act.put, List.setIfInBounds_toArray, List.set_cons_zero, List.set_cons_succ]
                    rfl
                  refine one_ (i := 16) (N := some 42) #[true, true, true, true, true, true, true, true, true, true, true, true, true, true, true, true, true, false, false, false, false, false] rfl rfl (by kernel_rfl) (by decide) (fun K hK => ?_)
                  refine value_ (w1 := ?_) (v := ?_) (by rfl) rfl ?_ ?_
                  rotate_left 2
                  · go_simp
                    constructor
                    · rfl
                    · rfl
                  refine hK.out _ _ ⟨hHeld.1, hHeld.2.1, hHeld.2.2⟩ (fun hHeld => ?_)
                  clear hK K
                  refine norm_ (a' := ?_) ?_ ?_
                  rotate_left
                  · show Act.put _ (some 42) _ = _
                    simp only [Act.put, List.setIfInBounds_toArray, List.set_cons_zero, List.set_cons_succ]
                    rfl
                  exact norm_ (by simp only [putAll, Act.put, List.setIfInBounds_toArray, List.set_cons_zero, List.set_cons_succ]) (hCont (.slice (some ⟨g31, 0, none⟩) 1 1, .slice (some ad8) revs6.length c8, .pointer (some (ad8.add kk.toNat))) _ hHeld)
                · skip
                  refine goes_ Try.func28 (by kernel_rfl) rfl #[.int .i64 q, .int .i64 6] (by rfl) rfl rfl (by simp only [List.map_toArray, List.map_cons, List.map_nil]; rfl) ?_
                  with_reducible refine (damperlaw5_within.calls q 6 kk _ hwi.out).mono ?_
                  rintro e w14 ⟨rfl, h14⟩
                  have h14 := h14.below
                  have b14 := below_step hHeld.2.2 h14
                  have hc8 := (h14.cell (p := ad8.add kk.toNat) (cell_lt hc8)).trans hc8
                  have hs5 := (h14.cell (p := ⟨g31, 0, none⟩) (cell_lt hs5)).trans hs5
                  refine ⟨_, rfl, ?_⟩
                  refine hK.out _ _ ⟨(b14.cell (p := ⟨g5, 1, none⟩) (by have := KK4.out.lt; exact this)).trans (KK4.out.cell 1), (b14.cell (p := ad.add i) (cell_lt hce4)).trans hce4, b14⟩ (fun hHeld => ?_)
                  clear hK K
                  refine norm_ (a' := ?_) ?_ ?_
                  rotate_left
                  · show Act.put _ (some 40) _ = _
                    simp only [Act.put, List.setIfInBounds_toArray, List.set_cons_zero, List.set_cons_succ]
                    rfl
                  refine pure_ (i := 15) (N := some 41) (v := ?_) (a' := ?_) #[true, true, true, true, true, true, false, false, true, true, true, true, true, true, true, true, false, false, false, false, false, false] rfl rfl (by kernel_rfl) (fun _ _ _ h => h) (Or.inl ⟨by rfl, ?_⟩) ?_ ?_
                  rotate_left
                  · intro w'
                    go_simp
                    with_reducible rfl
                  rotate_left
                  · simp only [Act.put, List.setIfInBounds_toArray, List.set_cons_zero, List.set_cons_succ]
                    rfl
                  refine two_ (i := 6) (j := 16) (Ni := some 32) (Nj := some 42) #[true, true, true, true, true, true, true, false, true, true, true, true, true, true, true, true, false, false, false, false, false, false] #[true, true, true, true, true, true, false, false, true, true, true, true, true, true, true, true, true, false, false, false, false, false] rfl rfl rfl rfl (by kernel_rfl) (by decide) (by decide) (fun K hK => ?_) (fun K hK => ?_)
                  · skip
                    have hcv := conv1 hs5
                    refine value_ (w1 := ?_) (v := ?_) (by rfl) rfl ?_ ?_
                    rotate_left 2
                    · go_simp
                      constructor
                      · rfl
                      · rfl
                    refine hK.out _ _ ⟨hHeld.1, hHeld.2.1, hHeld.2.2⟩ (fun hHeld => ?_)
                    clear hK K
                    refine norm_ (a' := ?_) ?_ ?_
                    rotate_left
                    · show Act.put _ (some 32) _ = _
                      simp only [Act.put, List.setIfInBounds_toArray, List.set_cons_zero, List.set_cons_succ]
                      rfl
                    refine pure_ (i := 7) (N := some 33) (v := ?_) (a' := ?_) #[true, true, true, true, true, true, true, true, true, true, true, true, true, true, true, true, false, false, false, false, false, false] rfl rfl (by kernel_rfl) (fun _ _ _ h => h) (Or.inl ⟨by rfl, ?_⟩) ?_ ?_
                    rotate_left
                    · intro w'
                      go_simp
                      with_reducible rfl
                    rotate_left
                    · simp only [Act.put, List.setIfInBounds_toArray, List.set_cons_zero, List.set_cons_succ]
                      rfl
                    refine one_ (i := 16) (N := some 42) #[true, true, true, true, true, true, true, true, true, true, true, true, true, true, true, true, true, false, false, false, false, false] rfl rfl (by kernel_rfl) (by decide) (fun K hK => ?_)
                    refine value_ (w1 := ?_) (v := ?_) (by rfl) rfl ?_ ?_
                    rotate_left 2
                    · go_simp
                      constructor
                      · rfl
                      · rfl
                    refine hK.out _ _ ⟨hHeld.1, hHeld.2.1, hHeld.2.2⟩ (fun hHeld => ?_)
                    clear hK K
                    refine norm_ (a' := ?_) ?_ ?_
                    rotate_left
                    · show Act.put _ (some 42) _ = _
                      simp only [Act.put, List.setIfInBounds_toArray, List.set_cons_zero, List.set_cons_succ]
                      rfl
                    exact norm_ (by simp only [putAll, Act.put, List.setIfInBounds_toArray, List.set_cons_zero, List.set_cons_succ]) (hCont (.slice (some ⟨g31, 0, none⟩) 1 1, .slice (some ad8) revs6.length c8, .pointer (some (ad8.add kk.toNat))) _ hHeld)
                  · skip
                    refine value_ (w1 := ?_) (v := ?_) (by rfl) rfl ?_ ?_
                    rotate_left 2
                    · go_simp
                      constructor
                      · rfl
                      · rfl
                    refine hK.out _ _ ⟨hHeld.1, hHeld.2.1, hHeld.2.2⟩ (fun hHeld => ?_)
                    clear hK K
                    refine norm_ (a' := ?_) ?_ ?_
                    rotate_left
                    · show Act.put _ (some 42) _ = _
                      simp only [Act.put, List.setIfInBounds_toArray, List.set_cons_zero, List.set_cons_succ]
                      rfl
                    refine one_ (i := 6) (N := some 32) #[true, true, true, true, true, true, true, false, true, true, true, true, true, true, true, true, true, false, false, false, false, false] rfl rfl (by kernel_rfl) (by decide) (fun K hK => ?_)
                    have hcv := conv1 hs5
                    refine value_ (w1 := ?_) (v := ?_) (by rfl) rfl ?_ ?_
                    rotate_left 2
                    · go_simp
                      constructor
                      · rfl
                      · rfl
                    refine hK.out _ _ ⟨hHeld.1, hHeld.2.1, hHeld.2.2⟩ (fun hHeld => ?_)
                    clear hK K
                    refine norm_ (a' := ?_) ?_ ?_
                    rotate_left
                    · show Act.put _ (some 32) _ = _
                      simp only [Act.put, List.setIfInBounds_toArray, List.set_cons_zero, List.set_cons_succ]
                      rfl
                    refine pure_ (i := 7) (N := some 33) (v := ?_) (a' := ?_) #[true, true, true, true, true, true, true, true, true, true, true, true, true, true, true, true, true, false, false, false, false, false] rfl rfl (by kernel_rfl) (fun _ _ _ h => h) (Or.inl ⟨by rfl, ?_⟩) ?_ ?_
                    rotate_left
                    · intro w'
                      go_simp
                      with_reducible rfl
                    rotate_left
                    · simp only [Act.put, List.setIfInBounds_toArray, List.set_cons_zero, List.set_cons_succ]
                      rfl
                    exact norm_ (by simp only [putAll, Act.put, List.setIfInBounds_toArray, List.set_cons_zero, List.set_cons_succ]) (hCont (.slice (some ⟨g31, 0, none⟩) 1 1, .slice (some ad8) revs6.length c8, .pointer (some (ad8.add kk.toNat))) _ hHeld)
              · skip
                refine goes_ Try.func28 (by kernel_rfl) rfl #[.int .i64 q, .int .i64 6] (by rfl) rfl rfl (by simp only [List.map_toArray, List.map_cons, List.map_nil]; rfl) ?_
                with_reducible refine (damperlaw5_within.calls q 6 kk _ hwi.out).mono ?_
                rintro e w14 ⟨rfl, h14⟩
                have h14 := h14.below
                have b14 := below_step hHeld.2.2 h14
                have hc8 := (h14.cell (p := ad8.add kk.toNat) (cell_lt hc8)).trans hc8
                refine ⟨_, rfl, ?_⟩
                refine hK.out _ _ ⟨(b14.cell (p := ⟨g5, 1, none⟩) (by have := KK4.out.lt; exact this)).trans (KK4.out.cell 1), (b14.cell (p := ad.add i) (cell_lt hce4)).trans hce4, b14⟩ (fun hHeld => ?_)
                clear hK K
                refine norm_ (a' := ?_) ?_ ?_
                rotate_left
                · show Act.put _ (some 40) _ = _
                  simp only [Act.put, List.setIfInBounds_toArray, List.set_cons_zero, List.set_cons_succ]
                  rfl
                refine pure_ (i := 15) (N := some 41) (v := ?_) (a' := ?_) #[true, true, true, true, true, false, false, false, true, true, true, true, true, true, true, true, false, false, false, false, false, false] rfl rfl (by kernel_rfl) (fun _ _ _ h => h) (Or.inl ⟨by rfl, ?_⟩) ?_ ?_
                rotate_left
                · intro w'
                  go_simp
                  with_reducible rfl
                rotate_left
                · simp only [Act.put, List.setIfInBounds_toArray, List.set_cons_zero, List.set_cons_succ]
                  rfl
                refine two_ (i := 5) (j := 16) (Ni := some 31) (Nj := some 42) #[true, true, true, true, true, true, false, false, true, true, true, true, true, true, true, true, false, false, false, false, false, false] #[true, true, true, true, true, false, false, false, true, true, true, true, true, true, true, true, true, false, false, false, false, false] rfl rfl rfl rfl (by kernel_rfl) (by decide) (by decide) (fun K hK => ?_) (fun K hK => ?_)
                · skip
                  refine value_ (w1 := ?_) (v := ?_) (by rfl) rfl ?_ ?_
                  rotate_left 2
                  · go_simp
                    constructor
                    · rfl
                    · rfl
                  obtain ⟨g31, w5, hw5, hg31, hs5, b5, bb5⟩ := hold_byte hHeld.2.2 (u.toNat : Int)
                  rw [← hw5, ← hg31]
                  clear hw5 hg31
                  have hc8 := (bb5.cell (p := ad8.add kk.toNat) (cell_lt hc8)).trans hc8
                  refine hK.out _ _ ⟨(b5.cell (p := ⟨g5, 1, none⟩) (by have := KK4.out.lt; exact this)).trans (KK4.out.cell 1), (b5.cell (p := ad.add i) (cell_lt hce4)).trans hce4, b5⟩ (fun hHeld => ?_)
                  clear hK K
                  refine norm_ (a' := ?_) ?_ ?_
                  rotate_left
                  · show Act.put _ (some 31) _ = _
                    simp only [Act.put, List.setIfInBounds_toArray, List.set_cons_zero, List.set_cons_succ]
                    rfl
                  refine two_ (i := 6) (j := 16) (Ni := some 32) (Nj := some 42) #[true, true, true, true, true, true, true, false, true, true, true, true, true, true, true, true, false, false, false, false, false, false] #[true, true, true, true, true, true, false, false, true, true, true, true, true, true, true, true, true, false, false, false, false, false] rfl rfl rfl rfl (by kernel_rfl) (by decide) (by decide) (fun K hK => ?_) (fun K hK => ?_)
                  · skip
                    have hcv := conv1 hs5
                    refine value_ (w1 := ?_) (v := ?_) (by rfl) rfl ?_ ?_
                    rotate_left 2
                    · go_simp
                      constructor
                      · rfl
                      · rfl
                    refine hK.out _ _ ⟨hHeld.1, hHeld.2.1, hHeld.2.2⟩ (fun hHeld => ?_)
                    clear hK K
                    refine norm_ (a' := ?_) ?_ ?_
                    rotate_left
                    · show Act.put _ (some 32) _ = _
                      simp only [Act.put, List.setIfInBounds_toArray, List.set_cons_zero, List.set_cons_succ]
                      rfl
                    refine pure_ (i := 7) (N := some 33) (v := ?_) (a' := ?_) #[true, true, true, true, true, true, true, true, true, true, true, true, true, true, true, true, false, false, false, false, false, false] rfl rfl (by kernel_rfl) (fun _ _ _ h => h) (Or.inl ⟨by rfl, ?_⟩) ?_ ?_
                    rotate_left
                    · intro w'
                      go_simp
                      with_reducible rfl
                    rotate_left
                    · simp only [Act.put, List.setIfInBounds_toArray, List.set_cons_zero, List.set_cons_succ]
                      rfl
                    refine one_ (i := 16) (N := some 42) #[true, true, true, true, true, true, true, true, true, true, true, true, true, true, true, true, true, false, false, false, false, false] rfl rfl (by kernel_rfl) (by decide) (fun K hK => ?_)
                    refine value_ (w1 := ?_) (v := ?_) (by rfl) rfl ?_ ?_
                    rotate_left 2
                    · go_simp
                      constructor
                      · rfl
                      · rfl
                    refine hK.out _ _ ⟨hHeld.1, hHeld.2.1, hHeld.2.2⟩ (fun hHeld => ?_)
                    clear hK K
                    refine norm_ (a' := ?_) ?_ ?_
                    rotate_left
                    · show Act.put _ (some 42) _ = _
                      simp only [Act.put, List.setIfInBounds_toArray, List.set_cons_zero, List.set_cons_succ]
                      rfl
                    exact norm_ (by simp only [putAll, Act.put, List.setIfInBounds_toArray, List.set_cons_zero, List.set_cons_succ]) (hCont (.slice (some ⟨g31, 0, none⟩) 1 1, .slice (some ad8) revs6.length c8, .pointer (some (ad8.add kk.toNat))) _ hHeld)
                  · skip
                    refine value_ (w1 := ?_) (v := ?_) (by rfl) rfl ?_ ?_
                    rotate_left 2
                    · go_simp
                      constructor
                      · rfl
                      · rfl
                    refine hK.out _ _ ⟨hHeld.1, hHeld.2.1, hHeld.2.2⟩ (fun hHeld => ?_)
                    clear hK K
                    refine norm_ (a' := ?_) ?_ ?_
                    rotate_left
                    · show Act.put _ (some 42) _ = _
                      simp only [Act.put, List.setIfInBounds_toArray, List.set_cons_zero, List.set_cons_succ]
                      rfl
                    refine one_ (i := 6) (N := some 32) #[true, true, true, true, true, true, true, false, true, true, true, true, true, true, true, true, true, false, false, false, false, false] rfl rfl (by kernel_rfl) (by decide) (fun K hK => ?_)
                    have hcv := conv1 hs5
                    refine value_ (w1 := ?_) (v := ?_) (by rfl) rfl ?_ ?_
                    rotate_left 2
                    · go_simp
                      constructor
                      · rfl
                      · rfl
                    refine hK.out _ _ ⟨hHeld.1, hHeld.2.1, hHeld.2.2⟩ (fun hHeld => ?_)
                    clear hK K
                    refine norm_ (a' := ?_) ?_ ?_
                    rotate_left
                    · show Act.put _ (some 32) _ = _
                      simp only [Act.put, List.setIfInBounds_toArray, List.set_cons_zero, List.set_cons_succ]
                      rfl
                    refine pure_ (i := 7) (N := some 33) (v := ?_) (a' := ?_) #[true, true, true, true, true, true, true, true, true, true, true, true, true, true, true, true, true, false, false, false, false, false] rfl rfl (by kernel_rfl) (fun _ _ _ h => h) (Or.inl ⟨by rfl, ?_⟩) ?_ ?_
                    rotate_left
                    · intro w'
                      go_simp
                      with_reducible rfl
                    rotate_left
                    · simp only [Act.put, List.setIfInBounds_toArray, List.set_cons_zero, List.set_cons_succ]
                      rfl
                    exact norm_ (by simp only [putAll, Act.put, List.setIfInBounds_toArray, List.set_cons_zero, List.set_cons_succ]) (hCont (.slice (some ⟨g31, 0, none⟩) 1 1, .slice (some ad8) revs6.length c8, .pointer (some (ad8.add kk.toNat))) _ hHeld)
                · skip
                  refine value_ (w1 := ?_) (v := ?_) (by rfl) rfl ?_ ?_
                  rotate_left 2
                  · go_simp
                    constructor
                    · rfl
                    · rfl
                  refine hK.out _ _ ⟨hHeld.1, hHeld.2.1, hHeld.2.2⟩ (fun hHeld => ?_)
                  clear hK K
                  refine norm_ (a' := ?_) ?_ ?_
                  rotate_left
                  · show Act.put _ (some 42) _ = _
                    simp only [Act.put, List.setIfInBounds_toArray, List.set_cons_zero, List.set_cons_succ]
                    rfl
                  refine one_ (i := 5) (N := some 31) #[true, true, true, true, true, true, false, false, true, true, true, true, true, true, true, true, true, false, false, false, false, false] rfl rfl (by kernel_rfl) (by decide) (fun K hK => ?_)
                  refine value_ (w1 := ?_) (v := ?_) (by rfl) rfl ?_ ?_
                  rotate_left 2
                  · go_simp
                    constructor
                    · rfl
                    · rfl
                  obtain ⟨g31, w5, hw5, hg31, hs5, b5, bb5⟩ := hold_byte hHeld.2.2 (u.toNat : Int)
                  rw [← hw5, ← hg31]
                  clear hw5 hg31
                  have hc8 := (bb5.cell (p := ad8.add kk.toNat) (cell_lt hc8)).trans hc8
                  refine hK.out _ _ ⟨(b5.cell (p := ⟨g5, 1, none⟩) (by have := KK4.out.lt; exact this)).trans (KK4.out.cell 1), (b5.cell (p := ad.add i) (cell_lt hce4)).trans hce4, b5⟩ (fun hHeld => ?_)
                  clear hK K
                  refine norm_ (a' := ?_) ?_ ?_
                  rotate_left
                  · show Act.put _ (some 31) _ = _
                    simp only [Act.put, List.setIfInBounds_toArray, List.set_cons_zero, List.set_cons_succ]
                    rfl
                  refine one_ (i := 6) (N := some 32) #[true, true, true, true, true, true, true, false, true, true, true, true, true, true, true, true, true, false, false, false, false, false] rfl rfl (by kernel_rfl) (by decide) (fun K hK => ?_)
                  have hcv := conv1 hs5
                  refine value_ (w1 := ?_) (v := ?_) (by rfl) rfl ?_ ?_
                  rotate_left 2
                  · go_simp
                    constructor
                    · rfl
                    · rfl
                  refine hK.out _ _ ⟨hHeld.1, hHeld.2.1, hHeld.2.2⟩ (fun hHeld => ?_)
                  clear hK K
                  refine norm_ (a' := ?_) ?_ ?_
                  rotate_left
                  · show Act.put _ (some 32) _ = _
                    simp only [Act.put, List.setIfInBounds_toArray, List.set_cons_zero, List.set_cons_succ]
                    rfl
                  refine pure_ (i := 7) (N := some 33) (v := ?_) (a' := ?_) #[true, true, true, true, true, true, true, true, true, true, true, true, true, true, true, true, true, false, false, false, false, false] rfl rfl (by kernel_rfl) (fun _ _ _ h => h) (Or.inl ⟨by rfl, ?_⟩) ?_ ?_
                  rotate_left
                  · intro w'
                    go_simp
                    with_reducible rfl
                  rotate_left
                  · simp only [Act.put, List.setIfInBounds_toArray, List.set_cons_zero, List.set_cons_succ]
                    rfl
                  exact norm_ (by simp only [putAll, Act.put, List.setIfInBounds_toArray, List.set_cons_zero, List.set_cons_succ]) (hCont (.slice (some ⟨g31, 0, none⟩) 1 1, .slice (some ad8) revs6.length c8, .pointer (some (ad8.add kk.toNat))) _ hHeld)
          rintro ⟨v31, v34, v41⟩ w6 hHeld
          refine norm_ (a' := ?_) ?_ ?_
          rotate_left
          · simp only [putAll, Act.put, List.setIfInBounds_toArray, List.set_cons_zero, List.set_cons_succ]
            rfl
          refine pure_ (i := 17) (N := some 43) (v := ?_) (a' := ?_) #[true, true, true, true, true, true, true, true, true, true, true, true, true, true, true, true, true, true, false, false, false, false] rfl rfl (by kernel_rfl) (fun _ _ _ h => h) (Or.inl ⟨by rfl, ?_⟩) ?_ ?_
          rotate_left
          · intro w'
            go_simp
            with_reducible rfl
          rotate_left
          · simp only [Act.put, List.setIfInBounds_toArray, List.set_cons_zero, List.set_cons_succ]
            rfl
          refine one_ (i := 18) (N := some 44) #[true, true, true, true, true, true, true, true, true, true, true, true, true, true, true, true, true, true, true, false, false, false] rfl rfl (by kernel_rfl) (by decide) (fun K hK => ?_)
          refine value_ (w1 := ?_) (v := ?_) (by rfl) rfl ?_ ?_
          rotate_left 2
          · go_simp
            constructor
            · rfl
            · rfl
          obtain ⟨g44, w44, hw44, hg44, k44, b44, bb44⟩ := hold_tag hHeld.2.2 (⟨#[116]⟩ ++ ⟨#[u]⟩) nm
          rw [← hw44, ← hg44]
          clear hw44 hg44
          refine hK.out _ _ ⟨(b44.cell (p := ⟨g5, 1, none⟩) (by have := KK4.out.lt; exact this)).trans (KK4.out.cell 1), (b44.cell (p := ad.add i) (cell_lt hce4)).trans hce4, b44⟩ (fun hHeld => ?_)
          clear hK K
          refine norm_ (a' := ?_) ?_ ?_
          rotate_left
          · show Act.put _ (some 44) _ = _
            simp only [Act.put, List.setIfInBounds_toArray, List.set_cons_zero, List.set_cons_succ]
            rfl
          refine last_ (i := 19) (N := some 45) #[true, true, true, true, true, true, true, true, true, true, true, true, true, true, true, true, true, true, true, true, false, false] rfl rfl (by kernel_rfl) (by decide) (fun K hK => ?_)
          have hrow := RR4.out.below b44 (Nat.le_refl _)
          have z44 := b44.size
          refine step_appG el42 _ rfl (.tmp 27) (.tmp 44) rfl W3.heap.size vt (mkTags ms i) (by rfl) hrow (some ⟨g44, 0, none⟩) 1 1 [⟨⟨#[116]⟩ ++ ⟨#[u]⟩, nm⟩] (by rfl) rfl (SrcG.one k44) (by have := HLEN.out; omega) (by omega) (by have := CC4.out.size; omega) ?_
          intro v45 w45 r45 b45
          refine hK.out _ _ ?_
          clear hK K
          refine norm_ (a' := ?_) ?_ ?_
          rotate_left
          · show Act.put _ (some 45) _ = _
            simp only [Act.put, List.setIfInBounds_toArray, List.set_cons_zero, List.set_cons_succ]
            rfl
          refine pure_ (i := 20) (N := some 46) (v := ?_) (a' := ?_) #[true, true, true, true, true, true, true, true, true, true, true, true, true, true, true, true, true, true, true, true, true, false] rfl rfl (by kernel_rfl) (fun _ _ _ h => h) (Or.inl ⟨by rfl, ?_⟩) ?_ ?_
          rotate_left
          · intro w'
            go_simp
            with_reducible rfl
          rotate_left
          · simp only [Act.put, List.setIfInBounds_toArray, List.set_cons_zero, List.set_cons_succ]
            rfl
          refine last_ (i := 21) (N := none) #[true, true, true, true, true, true, true, true, true, true, true, true, true, true, true, true, true, true, true, true, true, true] rfl rfl (by kernel_rfl) (by decide) (fun K hK => ?_)
          obtain ⟨A45, c45, rfl, hc45, hC45⟩ := RowG.toCT r45
          clear hC45 hc45
          obtain ⟨n45, hn45⟩ : ∃ n45 : Nat, n45 = (mkTags ms i ++ [(⟨⟨#[116]⟩ ++ ⟨#[u]⟩, nm⟩ : S42)]).length := ⟨_, rfl⟩
          rw [← hn45] at r45 ⊢
          clear hn45
          have kg := (KK4.out.below b44 KK4.out.lt).below b45 z3
          have e1 := kg.cell 1
          simp only [List.getElem?_toArray, List.getElem?_cons_zero, List.getElem?_cons_succ] at e1
          have f1 := kg.frozen 1
          refine skip_ (w1 := ?_) (by rfl) rfl ?_ ?_
          rotate_left
          · go_simp
            rfl
          refine hK.out _ _ ?_
          clear hK K
          refine done_ (by kernel_rfl) ?_
          have cWr : Chg (fun k => k = g5) W3 w45 := (CC4.out.trans (Chg.of_below b44 (F := fun _ => False) (fun k hk hk' => by omega)) (fun _ _ h => h.elim)).trans (Chg.of_below b45 (F := fun k => W3.heap.size ≤ k) (fun k hk _ => hk)) (fun k hk h => by omega)
          have KN := Lib.hid (kg.set 1 (.slice A45 n45 c45) (cs' := #[.slice B a.length d, .slice A45 n45 c45]) rfl)
          have CN := Lib.hid (cWr.setCell (a := ⟨g5, 1, none⟩) (fun _ => rfl) (.slice A45 n45 c45))
          have RN := Lib.hid (show RowG el42 (w45.setCell ⟨g5, 1, none⟩ (.slice A45 n45 c45)) W3.heap.size (.slice A45 n45 c45) (mkTags ms (i + 1)) from by
            rw [HTG.out]
            have e' : (⟨⟨#[116]⟩ ++ ⟨#[u]⟩, nm⟩ : S42) = mkTag i m := by
              unfold mkTag tnm
              rw [← HU.out, HKK.out, ← HNM.out]
            rw [← e']
            exact r45.moved (fun k hk _ => Below.heap_setCell _ _ _ _ (by show k ≠ g5; omega)))
          clear e1 f1 kg cWr r45 hHeld
          go_wp2_with fail
          go_roundw
          case rel => exact ⟨i + 1, .slice A45 n45 c45, by omega, by omega, by go_num, KN, RN, CN⟩
          case measure => simp [vI]; omega
        · have q2 : (m % 2 == 0) = false := by simpa using h2
          have HTG := Lib.hid (show mkTags ms (i + 1) = mkTags ms i from by
            show mkTags ms i ++ _ = _
            rw [← HM.out, if_neg h2, List.append_nil])
          go_wp2_with fail
          go_roundw
          case rel => exact ⟨i + 1, vt, by omega, by omega, by go_num, KK4, Lib.hid (by rw [HTG.out]; exact RR4.out), CC4⟩
          case measure => simp [vI]; omega
      · have hlt' : ¬ (i : Int) < (ms.length : Int) := by omega
        have h4' : (i : Int) < 4 := by omega
        have e' : mkTags ms i = tagsOf ms := by unfold tagsOf; rw [show min 4 ms.length = i by omega]
        have RT := RR.out
        rw [e'] at RT
        obtain ⟨D, g, rfl, hdg, hCD⟩ := RowG.toCT RT
        have HID := RowG.inokT RT
        have HRT := Lib.hid hCD
        have k5 := KK.out
        have k4 := K4.out.chg CC.out (by omega)
        have d0 := k5.cell 0
        have d1 := k5.cell 1
        have e0 := k4.cell 0
        have e1 := k4.cell 1
        have f0 := k4.frozen 0
        have f1 := k4.frozen 1
        simp only [List.getElem?_toArray, List.getElem?_cons_zero, List.getElem?_cons_succ] at e0 e1 d0 d1
        have K4' := Lib.hid k4
        clear RT e' k4 k5 hCD
        go_wp2_with fail
        have k6 := (K4'.out.set 0 (.slice B a.length d) (cs' := #[.slice B a.length d, .slice none 0 0]) rfl).set 1 (.slice D (tagsOf ms).length g) (cs' := #[.slice B a.length d, .slice D (tagsOf ms).length g]) rfl
        have g0 := k6.cell 0
        have g1 := k6.cell 1
        simp only [List.getElem?_toArray, List.getElem?_cons_zero, List.getElem?_cons_succ] at g0 g1
        have hcA : Chg (fun k => k = w.heap.size) wr ((wr.setCell ⟨w.heap.size, 0, none⟩ (.slice B a.length d)).setCell ⟨w.heap.size, 1, none⟩ (.slice D (tagsOf ms).length g)) := ((Chg.refl (fun k => k = w.heap.size) wr).setCell (a := ⟨w.heap.size, 0, none⟩) (fun _ => rfl) _).setCell (a := ⟨w.heap.size, 1, none⟩) (fun _ => rfl) _
        have cS := c_chg (c_chg HC.out hI5.out CC.out (fun k (hk : w.heap.size ≤ k ∧ k < g5) _ e => by omega)) (HI6.out) hcA (fun k (hk : w.heap.size < k) _ (e : k = w.heap.size) => by omega)
        have cT := ct_chg HRT.out HID hcA (fun k (hk : W3.heap.size ≤ k) _ (e : k = w.heap.size) => by omega)
        exact bodyPost_ret (v := .agg #[.slice B a.length d, .slice D (tagsOf ms).length g]) (by simp [results, Try.results12, go_sem, g0, g1]) rfl ⟨B, d, D, g, rfl, ⟨HD.out, hdg⟩, ⟨cS, cT⟩, ⟨HI6.out.mono (fun k (hk : w.heap.size < k) _ _ _ _ => Nat.le_of_lt hk), HID.mono (fun k (hk : W3.heap.size ≤ k) _ _ _ _ => by omega)⟩, ((HAR.out.chg CC.out (fun k _ (hk : k < g5) (e : k = g5) => by omega)).chg hcA (fun k (hk : w.heap.size + 1 ≤ k) _ (e : k = w.heap.size) => by omega)).lower (Nat.le_succ _) |>.mono (fun _ _ _ _ => trivial), hcA.below_of BW.out BW.out.size (fun k hk e => by omega)⟩
    · have h4' : ¬ (i : Int) < 4 := by omega
      have e' : mkTags ms i = tagsOf ms := by unfold tagsOf; rw [show min 4 ms.length = i by omega]
      have RT := RR.out
      rw [e'] at RT
      obtain ⟨D, g, rfl, hdg, hCD⟩ := RowG.toCT RT
      have HID := RowG.inokT RT
      have HRT := Lib.hid hCD
      have k5 := KK.out
      have k4 := K4.out.chg CC.out (by omega)
      have d0 := k5.cell 0
      have d1 := k5.cell 1
      have e0 := k4.cell 0
      have e1 := k4.cell 1
      have f0 := k4.frozen 0
      have f1 := k4.frozen 1
      simp only [List.getElem?_toArray, List.getElem?_cons_zero, List.getElem?_cons_succ] at e0 e1 d0 d1
      have K4' := Lib.hid k4
      clear RT e' k4 k5 hCD
      go_wp2_with fail
      have k6 := (K4'.out.set 0 (.slice B a.length d) (cs' := #[.slice B a.length d, .slice none 0 0]) rfl).set 1 (.slice D (tagsOf ms).length g) (cs' := #[.slice B a.length d, .slice D (tagsOf ms).length g]) rfl
      have g0 := k6.cell 0
      have g1 := k6.cell 1
      simp only [List.getElem?_toArray, List.getElem?_cons_zero, List.getElem?_cons_succ] at g0 g1
      have hcA : Chg (fun k => k = w.heap.size) wr ((wr.setCell ⟨w.heap.size, 0, none⟩ (.slice B a.length d)).setCell ⟨w.heap.size, 1, none⟩ (.slice D (tagsOf ms).length g)) := ((Chg.refl (fun k => k = w.heap.size) wr).setCell (a := ⟨w.heap.size, 0, none⟩) (fun _ => rfl) _).setCell (a := ⟨w.heap.size, 1, none⟩) (fun _ => rfl) _
      have cS := c_chg (c_chg HC.out hI5.out CC.out (fun k (hk : w.heap.size ≤ k ∧ k < g5) _ e => by omega)) (HI6.out) hcA (fun k (hk : w.heap.size < k) _ (e : k = w.heap.size) => by omega)
      have cT := ct_chg HRT.out HID hcA (fun k (hk : W3.heap.size ≤ k) _ (e : k = w.heap.size) => by omega)
      exact bodyPost_ret (v := .agg #[.slice B a.length d, .slice D (tagsOf ms).length g]) (by simp [results, Try.results12, go_sem, g0, g1]) rfl ⟨B, d, D, g, rfl, ⟨HD.out, hdg⟩, ⟨cS, cT⟩, ⟨HI6.out.mono (fun k (hk : w.heap.size < k) _ _ _ _ => Nat.le_of_lt hk), HID.mono (fun k (hk : W3.heap.size ≤ k) _ _ _ _ => by omega)⟩, ((HAR.out.chg CC.out (fun k _ (hk : k < g5) (e : k = g5) => by omega)).chg hcA (fun k (hk : w.heap.size + 1 ≤ k) _ (e : k = w.heap.size) => by omega)).lower (Nat.le_succ _) |>.mono (fun _ _ _ _ => trivial), hcA.below_of BW.out BW.out.size (fun k hk e => by omega)⟩

end Go.Proofs.Ytnkmpkhiilnigaa.PA
