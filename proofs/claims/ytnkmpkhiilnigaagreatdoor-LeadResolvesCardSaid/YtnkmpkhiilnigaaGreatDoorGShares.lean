/- roll.Weight, by its contract. -/
import Derived.Test.YtnkmpkhiilnigaaGreatDoorPAx0
import Derived.Test.YtnkmpkhiilnigaaGreatDoorLays
import Derived.WalkKit
import Derived.Lib.SliceRun
import Derived.Lib.Hide
import Derived.Test.YtnkmpkhiilnigaaGreatDoorGGrnd
import Derived.Lib.RowBridge
import Derived.Deep.QuietTactic
import Derived.Outline
import Derived.OwnWalk
import Derived.Deep.RegionHeld3
import Derived.Deep.CutRange
namespace Go.Proofs.YtnkmpkhiilnigaaGreatDoor.PA
open Go.RowKit Go.Shelf Go.Lib Go.Proofs.YtnkmpkhiilnigaaGreatDoorW.PrintWords Go.Proofs.YtnkmpkhiilnigaaGreatDoorW.PrintLast

/-- What a revision weighs among Shares. -/
def wt : List S51 → ByteArray → Int
  | [], _ => 0
  | s :: t, r => if s.f0.toList = r.toList then s.f1 else wt t r

instance : Inhabited S51 := ⟨z51⟩

/-- Its two cells. -/
def enc51 (x : S51) : List Value := [.string x.f0, .int .i64 x.f1]

theorem wt_idx (l : List S51) (r : ByteArray) : ∀ k : Nat, (idxByFrom (fun _ y => y.f0.toList == r.toList) z51 l k = -1 ∧ wt l r = 0) ∨ ∃ i : Nat, i < l.length ∧ idxByFrom (fun _ y => y.f0.toList == r.toList) z51 l k = ((k + i : Nat) : Int) ∧ wt l r = (l.getD i z51).f1 := by
  induction l with
  | nil => exact fun k => .inl ⟨rfl, rfl⟩
  | cons s t ih =>
    intro k
    by_cases e : s.f0.toList = r.toList
    · exact .inr ⟨0, by simp, by simp [idxByFrom, e], by simp [wt, e]⟩
    · rcases ih (k + 1) with ⟨h1, h2⟩ | ⟨i, h1, h2, h3⟩
      · exact .inl ⟨by simp [idxByFrom, e, h1], by simp [wt, e, h2]⟩
      · exact .inr ⟨i + 1, by simp; omega, by simp only [idxByFrom, beq_iff_eq, e, if_false]; rw [h2]; congr 1; omega, by simp [wt, e, h3]⟩

theorem pred29 (r : ByteArray) (B : Nat) (w : World) (hB : B < w.heap.size) (hcell : w.cell? ⟨B, 0, none⟩ = some (.string r)) :
    PredBelow Tryz.prog 66 #[.pointer (some ⟨B, 0, none⟩)] (fun x : S51 => .agg (enc51 x).toArray) (fun x => x.f0.toList == r.toList) w := fun W x hb => by
  have hc : W.cell? ⟨B, 0, none⟩ = some (.string r) := (hb.cell (p := ⟨B, 0, none⟩) hB).trans hcell
  have hBW : B < W.heap.size := Nat.lt_of_lt_of_le hB hb.size
  have hne : B ≠ W.heap.size := by omega
  show Calls Tryz.prog 66 #[.agg #[.string x.f0, .int .i64 x.f1], .pointer (some ⟨B, 0, none⟩)] W _
  go_enter Tryz.func66, Tryz.ntmps66
  go_wp2
  all_goals (go_ret; exact ⟨by simp_all, hb.alloc hb.size _⟩)

/-- A row of Shares that is read: its block, its cells. -/
theorem shares_at {w : World} {A : Option Addr} {n : Nat} {xs : List S51} (h : Kd.C k51 w A n xs) (hn : 0 < n) : ∃ b o, A = some ⟨b, o, none⟩ ∧ b < w.heap.size ∧ ∀ j, j < xs.length → w.cell? ⟨b, o + j * 2, none⟩ = some (.string (xs.getD j z51).f0) ∧ w.cell? ⟨b, o + j * 2 + 1, none⟩ = some (.int .i64 (xs.getD j z51).f1) := by
  obtain ⟨hl, _, hc⟩ := h
  obtain ⟨ad, rfl, hc2⟩ := hc hn
  obtain ⟨b, o, s⟩ := ad
  have hcell : ∀ j, j < xs.length → w.cell? ((⟨b, o, s⟩ : Addr).add (j * 2)) = some (.string (xs.getD j z51).f0) ∧ w.cell? ((⟨b, o, s⟩ : Addr).add (j * 2 + 1)) = some (.int .i64 (xs.getD j z51).f1) := fun j hj => by
    obtain ⟨c, _, hk, hcell⟩ := hc2 j _ (List.getElem?_eq_getElem hj)
    have e := k51_open hk
    have hg : xs.getD j z51 = xs[j] := by simp [List.getD_eq_getElem?_getD, hj]
    rw [hg]
    exact ⟨hcell 0 _ (by rw [e]; rfl), hcell 1 _ (by rw [e]; rfl)⟩
  have h0 := (hcell 0 (by omega)).1
  have hs : s = none := by simpa [Addr.add] using World.cell?_spot h0
  subst hs
  refine ⟨b, o, rfl, ?_, fun j hj => ?_⟩
  · rcases Nat.lt_or_ge b w.heap.size with hlt | hge
    · exact hlt
    · unfold Addr.add World.cell? at h0
      simp [Array.getElem?_eq_none hge] at h0
  · have h1 := hcell j hj
    have e0 : (⟨b, o, none⟩ : Addr).add (j * 2) = ⟨b, o + j * 2, none⟩ := by unfold Addr.add; split <;> simp_all
    have e1 : (⟨b, o, none⟩ : Addr).add (j * 2 + 1) = ⟨b, o + j * 2 + 1, none⟩ := by unfold Addr.add; split <;> simp_all <;> omega
    rw [e0, e1] at h1
    exact h1

theorem idx_none (A : Option Addr) (c : Nat) (fv : Value) (w : World) : Calls Tryz.prog 65 #[.slice A 0 c, fv] w fun e w' => e = .returned (.int .i64 (-1)) ∧ Below w.heap.size w w' := by
  go_enter Tryz.func65, Tryz.ntmps65
  go_wp2_with fail
  go_loop [8] (fun v => v = .int .i64 0) (fun _ => 0)
  case atStart => rfl
  case round =>
    obtain rfl := hrel
    go_wp2_with fail
    go_ret
    exact ⟨rfl, Below.refl _ _⟩

set_option maxHeartbeats 1000000 in
theorem weight_calls (A0 : Option Addr) (c0 : Nat) (l0 : List S51) (a1 : ByteArray) (w : World) (hr0 : Kd.C k51 w A0 l0.length l0) :
    Calls Tryz.prog 54 #[.slice A0 l0.length c0, .string a1] w fun e w' => e = .returned (.int .i64 (wt l0 a1)) ∧ Below w.heap.size w w' := by
  have hbig := hr0.2.1
  have hb1 : Below w.heap.size w (w.alloc (.cells #[.string a1] 9)) := (Below.refl _ w).alloc (Nat.le_refl _) _
  by_cases hl : l0 = []
  · subst hl
    clear hr0 hbig
    go_enter Tryz.func54, Tryz.ntmps54
    go_wp2_with fail
    refine (idx_none _ _ _ _).mono ?_
    rintro e w1 ⟨rfl, hb2⟩
    go_wp2_with fail
    go_ret
    exact ⟨rfl, hb1.trans (hb2.mono (by simp))⟩
  · obtain ⟨b, o, rfl, hb, hc⟩ := shares_at hr0 (List.length_pos_iff.2 hl)
    have eg : ∀ args w, (callFunc 66 args).run Tryz.prog w = .ok (.enter 66 args) w := enters_of Tryz.func66 (by kernel_rfl) rfl
    have hcon := AnyQ.slices_IndexFunc Tryz.idxA 2 Tryz.isAgg51 Tryz.sizeOf51 enc51 (fun _ => rfl) (fun x => x.f0.toList == a1.toList) 66 #[.pointer (some ⟨w.heap.size, 0, none⟩)] eg b o l0.length c0 l0 (w.alloc (.cells #[.string a1] 9))
      (pred29 a1 w.heap.size _ (by simp) (by simp)) (Nat.le_refl _) hbig (by simp; omega) (fun j hj i v hi => by
        refine Lib.cell?_alloc_some _ ?_
        have h1 := hc j hj
        have hg : l0.getD j z51 = l0[j]! := by simp [List.getD_eq_getElem?_getD, hj]
        rw [hg] at h1
        generalize l0[j]! = y at hi h1
        match i, hi with
        | 0, hi => simp [enc51] at hi; rw [← hi]; exact h1.1
        | 1, hi => simp [enc51] at hi; rw [← hi]; exact h1.2
        | i + 2, hi => simp [enc51] at hi)
    change Calls Tryz.prog 65 _ _ _ at hcon
    rw [List.take_length] at hcon
    rcases wt_idx l0 a1 0 with ⟨h1, h2⟩ | ⟨i, h1, h2, h3⟩
    · rw [show idxBy (fun _ y => y.f0.toList == a1.toList) l0 default = -1 from h1] at hcon
      rw [h2]
      have HCON := Lib.hid hcon
      clear hcon hc h1 h2 hl hr0
      go_enter Tryz.func54, Tryz.ntmps54
      go_wp2_with fail
      refine HCON.out.mono ?_
      rintro e w1 ⟨rfl, hb2⟩
      go_wp2_with fail
      go_ret
      exact ⟨rfl, hb1.trans (hb2.mono (by simp))⟩
    · rw [show idxBy (fun _ y => y.f0.toList == a1.toList) l0 default = ((0 + i : Nat) : Int) from h2, Nat.zero_add] at hcon
      rw [h3]
      have HCON := Lib.hid hcon
      have hce := (hc i h1).2
      generalize (l0.getD i z51).f1 = z at hce ⊢
      clear hcon hc h2 h3 hl hr0
      go_enter Tryz.func54, Tryz.ntmps54
      go_wp2_with fail
      refine HCON.out.mono ?_
      rintro e w1 ⟨rfl, hb2⟩
      have b2 := hb1.trans (hb2.mono (by simp))
      have hce1 := (b2.cell (p := ⟨b, o + i * 2 + 1, none⟩) hb).trans hce
      clear hb2 hce HCON
      go_wp2_with fail
      go_ret
      exact ⟨rfl, b2⟩

end Go.Proofs.YtnkmpkhiilnigaaGreatDoor.PA

/- roll.sorted, by its contract: the names, rising, none twice. -/
namespace Go.Proofs.YtnkmpkhiilnigaaGreatDoor.PA
open Go.RowKit Go.Shelf Go.Lib Go.Sort Go.Proofs.YtnkmpkhiilnigaaGreatDoorW.PrintWords Go.Proofs.YtnkmpkhiilnigaaGreatDoorW.PrintLast

/-- The number in a slot. -/
def vI : Value → Int
  | .int _ q => q
  | _ => 0

def keys (l : List S51) : List (List UInt8) := l.map fun s => s.f0.toList
def leS (x y : List UInt8) : Bool := decide (x ≤ y)
def namesOf (l : List S51) : List (List UInt8) := Lib.compact ((keys l).mergeSort leS)

theorem rev_calls (a : ByteArray) (b : Int) (w : World) : Calls Tryz.prog 53 #[.agg #[.string a, .int .i64 b]] w fun e w' => e = .returned (.string a) ∧ Below w.heap.size w w' := by
  go_enter Tryz.func53, Tryz.ntmps53
  go_wp2
  go_ret
  exact ⟨rfl, (Below.refl _ _).alloc (Nat.le_refl _) _⟩

theorem ownsRow_shorter {w : World} {base g n m cap : Nat} {e : TypeId} {xs : List Value} (h : w.ownsRow base e 1 (.slice (some ⟨g, 0, none⟩) n cap) n xs) (hm : m ≤ n) : w.ownsRow base e 1 (.slice (some ⟨g, 0, none⟩) m cap) m (xs.take m) := by
  obtain ⟨h1, h2⟩ := h
  rcases h2 with ⟨h0, _⟩ | ⟨g', cap', cur, he, hb, hh, h3, h4, h5, h6⟩
  · simp at h0
  · simp only [Value.slice.injEq, Option.some.injEq, Addr.mk.injEq, and_true, true_and] at he
    obtain ⟨rfl, rfl⟩ := he
    refine ⟨by simp; omega, .inr ⟨g, cap, cur, rfl, hb, hh, by omega, h4, h5, ?_⟩⟩
    rw [← h6, List.take_take, Nat.mul_one, Nat.mul_one, Nat.min_eq_left hm]

theorem fmS : ∀ L : List (List UInt8), L.flatMap elS.enc = L.map encStr
  | [] => rfl
  | x :: t => by rw [List.flatMap_cons, fmS t]; rfl

theorem grow_none (w : World) : grow w #[] = w := by simp [grow]

/-- slices.Sort, then slices.Compact, on a row of the call's own. -/
theorem sort_calls (v : Value) (B : Nat) (L : List (List UInt8)) (w : World) (h : RowG elS w B v L) (hl : L.length ≤ 1000000) :
    Calls Tryz.prog 61 #[v] w fun e w' => e = .returned (.tuple #[]) ∧ RowG elS w' B v (L.mergeSort leS) ∧ Below B w w' := by
  obtain ⟨A, c, rfl, hc, hs⟩ := h.shape
  by_cases hL : L = []
  · subst hL
    have hcon := AnyM.slices_Sort_string_none Tryz.sortA A c w
    change Calls Tryz.prog 61 _ _ _ at hcon
    refine hcon.mono ?_
    rintro e w' ⟨rfl, rfl⟩
    exact ⟨rfl, by rw [List.mergeSort_nil]; exact h, Below.refl _ _⟩
  · obtain ⟨g, cur, rfl, hg, hgl, hb, hcm, hsz, htk⟩ := hs (List.length_pos_iff.2 hL)
    rw [fmS, show elS.size = 1 from rfl, Nat.mul_one] at htk
    have hcon := AnyM.slices_Sort_string Tryz.sortA g 0 c L w (holds_of_block hb htk) hgl (by omega)
    change Calls Tryz.prog 61 _ _ _ at hcon
    refine hcon.mono ?_
    rintro e w' ⟨rfl, n, os, rfl⟩
    have hlen : (L.mergeSort leS).length = L.length := List.length_mergeSort ..
    have hgr := grownBy_sorted (w := w) (g := g) (n := n) (os := os) (L.mergeSort leS).toArray
    refine ⟨rfl, ?_, ⟨hgr.os, hgr.tape, hgr.output, hgr.size, fun k hk => hgr.block k (by omega) (by simp; omega)⟩⟩
    unfold RowG
    rw [hlen, fmS]
    exact ownsRow_sorted (w := w) (n := n) (os := os) hlen hg hb hc hcm hsz

theorem compact_calls (v : Value) (B : Nat) (L : List (List UInt8)) (w : World) (h : RowG elS w B v L) (hl : L.length ≤ 1000000) :
    Calls Tryz.prog 64 #[v] w fun e w' => ∃ v', e = .returned v' ∧ RowG elS w' B v' (Lib.compact L) ∧ Below B w w' := by
  obtain ⟨A, c, rfl, hc, hs⟩ := h.shape
  by_cases hL : L = []
  · subst hL
    have hcon := AnyG.slices_Compact_string_empty Tryz.compA A c w
    change Calls Tryz.prog 64 _ _ _ at hcon
    refine hcon.mono ?_
    rintro e w' ⟨rfl, rfl⟩
    exact ⟨_, rfl, h, Below.refl _ _⟩
  · obtain ⟨g, cur, rfl, hg, hgl, hb, hcm, hsz, htk⟩ := hs (List.length_pos_iff.2 hL)
    rw [fmS, show elS.size = 1 from rfl, Nat.mul_one] at htk
    have hcon := AnyG.slices_Compact_string Tryz.compA g 0 c L w (holds_of_block hb htk) (by omega) hc
    change Calls Tryz.prog 64 _ _ _ at hcon
    refine hcon.mono ?_
    rintro e w' ⟨rfl, q, rfl⟩
    have hcl := compact_length_le L
    have hlen : (compact L ++ List.replicate (L.length - (compact L).length) []).length = L.length := by simp; omega
    have hgr := grownBy_sorted (w := w) (g := g) (n := q) (os := #[]) (compact L ++ List.replicate (L.length - (compact L).length) []).toArray
    have hro := ownsRow_sorted (w := w) (base := B) (n := q) (os := #[]) (cap := c) (e := 9) hlen hg hb hc hcm hsz
    rw [grow_none] at hgr hro
    refine ⟨_, rfl, ?_, ⟨hgr.os, hgr.tape, hgr.output, hgr.size, fun k hk => hgr.block k (by omega) (by simp; omega)⟩⟩
    have h2 := ownsRow_shorter hro hcl
    unfold RowG
    rw [fmS]
    rw [List.map_append, List.take_left' (by simp)] at h2
    exact h2

theorem strB (a : ByteArray) : Value.string a = encStr a.toList := by
  show Value.string a = Value.string ⟨a.toList.toArray⟩
  rw [show (⟨a.toList.toArray⟩ : ByteArray) = a from by rw [ByteArray.toList_eq]]

/-- The names of the first k of two rows. -/
def pre (l0 l1 : List S51) : Nat → List S51
  | 0 => []
  | 1 => l0
  | _ => l0 ++ l1

set_option maxHeartbeats 1000000 in
theorem sorted_calls (N : Nat) (A0 : Option Addr) (c0 : Nat) (l0 : List S51) (A1 : Option Addr) (c1 : Nat) (l1 : List S51) (w : World) (hb : w.heap[N]? = some (.cells #[.slice A0 l0.length c0, .slice A1 l1.length c1] 33 (0, 0)))
    (hr0 : Kd.C k51 w A0 l0.length l0) (hr1 : Kd.C k51 w A1 l1.length l1) (h0 : l0.length ≤ 1000) (h1 : l1.length ≤ 1000) :
    Calls Tryz.prog 52 #[.func (.func 53) #[] #[], .slice (some ⟨N, 0, none⟩) 2 2] w fun e w' => ∃ v, e = .returned v ∧ RowG elS w' w.heap.size v (namesOf (l0 ++ l1)) ∧ Below w.heap.size w w' := by
  have hN : N < w.heap.size := (Array.getElem?_eq_some_iff.1 hb).1
  have hcell : ∀ k, k < 2 → ∃ A c l, w.cell? ⟨N, k, none⟩ = some (.slice A l.length c) ∧ Kd.C k51 w A l.length l ∧ l.length ≤ 1000 ∧ pre l0 l1 (k + 1) = pre l0 l1 k ++ l := fun k hk => by
    match k, hk with
    | 0, _ => exact ⟨A0, c0, l0, by simp [World.cell?, hb], hr0, h0, by simp [pre]⟩
    | 1, _ => exact ⟨A1, c1, l1, by simp [World.cell?, hb], hr1, h1, by simp [pre]⟩
  have HCELL := Lib.hid hcell
  clear hcell hb hr0 hr1
  have b0 : Below w.heap.size w w := Below.refl _ _
  go_enter Tryz.func52, Tryz.ntmps52
  go_wp2_with fail
  go_loopw [5, 12] (fun v5 v12 wr => ∃ (k : Nat) (L : List (List UInt8)), k ≤ 2 ∧ v12 = .int .i64 k ∧ Hid (L = keys (pre l0 l1 k)) ∧ L.length ≤ k * 1000 ∧ RowG elS wr w.heap.size v5 L ∧ Below w.heap.size w wr) (fun _ v12 _ => 2 - (vI v12).toNat)
  case atStart => exact ⟨0, [], by omega, rfl, Lib.hid rfl, by simp, RowG.nil _ _ _, b0⟩
  case round =>
    clear b0
    obtain ⟨k, L, hk, rfl, hL, hLl, hrow, hb⟩ := hrel
    by_cases hlt : k < 2
    · obtain ⟨A, c, l, hc, hC, hl, hp⟩ := HCELL.out k hlt
      have hc1 := (hb.cell (p := ⟨N, k, none⟩) hN).trans hc
      have HC := Lib.hid hC
      have HP := Lib.hid hp
      have hst : Hid (L = L ++ keys (l.take 0)) := Lib.hid (by rw [List.take_zero]; exact (List.append_nil L).symm)
      have hlt' : (k : Int) < 2 := by omega
      clear hc hC hp
      go_wp2_with fail
      clear hc1
      go_loopw [5, 18] (fun v5 v18 wr => ∃ (i : Nat) (M : List (List UInt8)), i ≤ l.length ∧ v18 = .int .i64 i ∧ Hid (M = L ++ keys (l.take i)) ∧ M.length ≤ k * 1000 + i ∧ RowG elS wr w.heap.size v5 M ∧ Below w.heap.size w wr) (fun _ v18 _ => l.length - (vI v18).toNat)
      case atStart => exact ⟨0, L, by omega, rfl, hst, Nat.le_trans hLl (Nat.le_add_right _ _), hrow, hb⟩
      case round =>
        clear hrow hb
        obtain ⟨i, M, hi, rfl, hM, hMl, hrow, hb⟩ := hrel
        by_cases hlt2 : i < l.length
        · obtain ⟨b, o, rfl, hbl, hcs⟩ := shares_at HC.out (by omega)
          obtain ⟨q1, q2⟩ := hcs i hlt2
          have q1 := (hb.cell (p := ⟨b, o + i * 2, none⟩) hbl).trans q1
          have q2 := (hb.cell (p := ⟨b, o + i * 2 + 1, none⟩) hbl).trans q2
          have hM2 := Lib.hid (show M ++ [(l.getD i z51).f0.toList] = L ++ keys (l.take (i + 1)) from by
            rw [hM.out, List.append_assoc]
            congr 1
            unfold keys
            rw [List.take_succ_eq_append_getElem hlt2, List.map_append, show l.getD i z51 = l[i] by simp [List.getD_eq_getElem?_getD, hlt2]]
            rfl)
          clear hcs hM
          generalize (l.getD i z51).f0 = nm at q1 hM2
          generalize (l.getD i z51).f1 = wgt at q2
          go_wp2_with fail
          refine (rev_calls _ _ _).mono ?_
          rintro e w4 ⟨rfl, hb4⟩
          have hs4 := hb4.size
          simp at hs4
          obtain ⟨W4, hW4⟩ : ∃ W4, wr.heap.size = W4 := ⟨_, rfl⟩
          have hb5 : Below wr.heap.size wr w4 := ((Below.refl _ wr).alloc (Nat.le_refl _) _).trans (hb4.mono (by simp))
          have hs5 := hb.size
          obtain ⟨N4, hN4⟩ : ∃ N4, w4.heap.size = N4 := ⟨_, rfl⟩
          have k4 : (w4.alloc (.cells #[.string nm] 9)).heap[N4]? = some (.cells (elS.enc nm.toList).toArray elS.e (0, 0)) := by
            subst hN4
            show (w4.heap.push _)[w4.heap.size]? = _
            rw [strB]
            simp [elS]
          have bA : Below N4 w4 (w4.alloc (.cells #[.string nm] 9)) := (Below.refl _ _).alloc (by omega) _
          have hrA := (hrow.below hb5 (Nat.le_refl _)).below bA (by omega)
          have hszA : w.heap.size ≤ (w4.alloc (.cells #[.string nm] 9)).heap.size := by simp; omega
          have bB := (hb.trans (hb5.mono hs5)).trans (bA.mono (by omega))
          have HN := Lib.hid hN4
          clear hN4 bA hb4 hb5
          go_wp2_with (at_builtin; refine list_appG elS _ rfl (.tmp 22) (.tmp 26) rfl w.heap.size _ M (by rfl) hrA (some ⟨w4.heap.size, 0, none⟩) 1 1 [nm.toList] (by rfl) rfl (SrcG.one (HN.out ▸ k4)) (by omega) (by omega) hszA ?_; intro v' w' r3 b3 z3)
          have b4 := bB.trans b3
          have hl3 : (M ++ [nm.toList]).length = M.length + 1 := by simp
          go_roundw
          case rel => exact ⟨i + 1, M ++ [nm.toList], by omega, by go_num, hM2, by omega, r3, b4⟩
          case measure => simp [vI]; omega
        · go_wp2_with fail
          go_roundw
          case rel => exact ⟨k + 1, M, by omega, by go_num, Lib.hid (by rw [HP.out]; rw [hM.out, hL.out, List.take_of_length_le (by omega)]; simp [keys]), by omega, hrow, hb⟩
          case measure => simp [vI]; omega
    · obtain rfl : k = 2 := by omega
      go_wp2_with fail
      refine (sort_calls _ w.heap.size L _ hrow (by omega)).mono ?_
      rintro e w4 ⟨rfl, r4, hb4⟩
      have b4 := hb.trans hb4
      have hl4 : (L.mergeSort leS).length = L.length := List.length_mergeSort ..
      clear hrow hb hb4
      go_wp2_with fail
      refine (compact_calls _ w.heap.size _ _ r4 (by omega)).mono ?_
      rintro e w5 ⟨v', rfl, r5, hb5⟩
      go_wp2_with fail
      go_ret
      exact ⟨_, rfl, by rw [hL.out] at r5; exact r5, b4.trans hb5⟩

end Go.Proofs.YtnkmpkhiilnigaaGreatDoor.PA

/- slices.Clone at Shares; rows of Shares of the call's own, in both words. -/
namespace Go.Proofs.YtnkmpkhiilnigaaGreatDoor.PA
open Go.RowKit Go.Shelf Go.Lib Go.Sort Go.Proofs.YtnkmpkhiilnigaaGreatDoorW.PrintWords Go.Proofs.YtnkmpkhiilnigaaGreatDoorW.PrintLast

theorem info51 : (Tryz.prog.info? 51).map (fun i => (i.zero, i.size, i.bytes)) = some (some (.agg #[(.string ⟨#[]⟩), (.int .i64 0)]), 2, 24) := by kernel_rfl
/-- Shares. -/
def el51 : El Tryz.prog S51 := ⟨33, 51, enc51, 2, 24, .agg #[.string ⟨#[]⟩, .int .i64 0], Tryz.underlying33, info51, rfl, by omega, by omega, fun _ => rfl, fun x u hu => by
  rcases List.mem_cons.1 hu with h | h
  · rw [h]; rfl
  · rw [List.mem_singleton.1 h]; rfl⟩

theorem drop_take_51 (xs : List S51) (j : Nat) (hj : j < xs.length) : ((xs.flatMap el51.enc).drop (j * 2)).take 2 = enc51 xs[j] := by
  apply List.ext_getElem?
  intro i
  by_cases hi : i < 2
  · rw [List.getElem?_take_of_lt hi, List.getElem?_drop]
    exact El.at_ el51 xs j hj i hi
  · rw [List.getElem?_take_eq_none (by omega), List.getElem?_eq_none (by show 2 ≤ i; omega)]

/-- In the print's words. -/
theorem RowG.toR {w : World} {base : Nat} {v : Value} {xs : List S51} (h : RowG el51 w base v xs) : Kd.R k51 51 w base (fun _ => True) v xs := by
  refine ⟨fun _ _ => trivial, xs.flatMap el51.enc, h, El.len el51 xs, fun j p hj => ?_⟩
  have hlt : j < xs.length := (List.getElem?_eq_some_iff.1 hj).1
  have hp : xs[j] = p := (List.getElem?_eq_some_iff.1 hj).2
  have := drop_take_51 xs j hlt
  rw [hp] at this
  show k51.M _ _ _ p (((xs.flatMap el51.enc).drop (j * 2)).take 2)
  rw [this]
  exact k51_mkM _ _ _ p

theorem RowG.toC {w : World} {base : Nat} {v : Value} {xs : List S51} (h : RowG el51 w base v xs) : ∃ A c, v = .slice A xs.length c ∧ xs.length ≤ c ∧ Kd.C k51 w A xs.length xs := Kd.R_reads (RowG.toR h)

/-- Shares that are read, as a source of an append. -/
theorem src_of_C {w : World} {A : Option Addr} {xs : List S51} (h : Kd.C k51 w A xs.length xs) : SrcG el51 w A xs := fun hp => by
  obtain ⟨b, o, rfl, _, hc⟩ := shares_at h hp
  refine ⟨_, rfl, fun j u hu => ?_⟩
  rw [add_at]
  have hlt : j < xs.length * 2 := by
    have := (List.getElem?_eq_some_iff.1 hu).1
    rwa [El.len el51 xs] at this
  have hj : j / 2 < xs.length := by omega
  obtain ⟨h1, h2⟩ := hc (j / 2) hj
  have hg : xs.getD (j / 2) z51 = xs[j / 2] := by simp [List.getD_eq_getElem?_getD, hj]
  rw [hg] at h1 h2
  have hat := El.at_ el51 xs (j / 2) hj (j % 2) (show j % 2 < 2 by omega)
  rw [show j / 2 * el51.size + j % 2 = j from by show j / 2 * 2 + j % 2 = j; omega, hu] at hat
  rcases (show j % 2 = 0 ∨ j % 2 = 1 by omega) with e | e
  · rw [e] at hat
    have : u = .string xs[j / 2].f0 := by simpa [el51, enc51] using hat
    rw [this, show o + j = o + j / 2 * 2 by omega]
    exact h1
  · rw [e] at hat
    have : u = .int .i64 xs[j / 2].f1 := by simpa [el51, enc51] using hat
    rw [this, show o + j = o + j / 2 * 2 + 1 by omega]
    exact h2

theorem src_lt {w : World} {A : Option Addr} {xs : List S51} (h : Kd.C k51 w A xs.length xs) {w' : World} (hb : Below w.heap.size w w') : SrcG el51 w' A xs := src_of_C (Kd.C_below h hb)

theorem clone_calls (A : Option Addr) (c : Nat) (xs : List S51) (w : World) (h : Kd.C k51 w A xs.length xs) (hl : xs.length ≤ 100000) :
    Calls Tryz.prog 49 #[.slice A xs.length c] w fun e w' => ∃ v, e = .returned v ∧ RowG el51 w' w.heap.size v xs ∧ Below w.heap.size w w' := by
  cases A with
  | none =>
    have hx : xs = [] := by
      cases xs with
      | nil => rfl
      | cons y t => obtain ⟨b, o, e, _⟩ := shares_at h (by simp); cases e
    subst hx
    have q22 : ∀ (w : World) (a : Option Addr) (n c n' c' : Nat), (binOp .eql 33 (.slice a n c) (.slice none n' c')).run Tryz.prog w = .ok (.bool a.isNone) w := fun w a n c n' c' => Lib.run_eql_slice_nil w _ _ a n c n' c' Tryz.underlying33
    go_enter Tryz.func49, Tryz.ntmps49
    go_wp2_with fail
    go_ret
    exact ⟨_, rfl, RowG.nil _ _ _, Below.refl _ _⟩
  | some a =>
    have b1 : Below w.heap.size w (w.alloc (.cells #[] 51)) := (Below.refl _ _).alloc (Nat.le_refl _) _
    have hrow : RowG el51 (w.alloc (.cells #[] 51)) w.heap.size (.slice (some ⟨w.heap.size, 0, none⟩) 0 0) [] := owns_empty (Nat.le_refl _) (by show (w.heap.push _)[w.heap.size]? = _; simp [el51])
    have hsrc := src_lt h b1
    have hsz : w.heap.size ≤ (w.alloc (.cells #[] 51)).heap.size := b1.size
    clear h
    have q22 : ∀ (w : World) (a : Option Addr) (n c n' c' : Nat), (binOp .eql 33 (.slice a n c) (.slice none n' c')).run Tryz.prog w = .ok (.bool a.isNone) w := fun w a n c n' c' => Lib.run_eql_slice_nil w _ _ a n c n' c' Tryz.underlying33
    go_enter Tryz.func49, Tryz.ntmps49
    go_wp2_with (at_builtin; refine list_appG el51 _ rfl (.tmp 5) (.tmp 6) rfl w.heap.size _ [] (by rfl) hrow (some a) xs.length c xs (by rfl) rfl hsrc (by simp) (by omega) hsz ?_; intro v' w' r3 b3 z3)
    go_ret
    exact ⟨_, rfl, r3, b1.trans b3⟩

end Go.Proofs.YtnkmpkhiilnigaaGreatDoor.PA

/- slices.Clone at tags; rows of tags of the call's own, in both words. -/
namespace Go.Proofs.YtnkmpkhiilnigaaGreatDoor.PA
open Go.RowKit Go.Shelf Go.Lib Go.Sort Go.Proofs.YtnkmpkhiilnigaaGreatDoorW.PrintWords Go.Proofs.YtnkmpkhiilnigaaGreatDoorW.PrintLast

/-- Its two cells. -/
def enc83 (x : S83) : List Value := [.string x.f0, .string x.f1]

/-- A row of tags that is read: its block, its cells. -/
theorem tags_at {w : World} {A : Option Addr} {n : Nat} {xs : List S83} (h : Kd.C k83 w A n xs) (hn : 0 < n) : ∃ b o, A = some ⟨b, o, none⟩ ∧ b < w.heap.size ∧ ∀ j, j < xs.length → w.cell? ⟨b, o + j * 2, none⟩ = some (.string (xs.getD j z83).f0) ∧ w.cell? ⟨b, o + j * 2 + 1, none⟩ = some (.string (xs.getD j z83).f1) := by
  obtain ⟨hl, _, hc⟩ := h
  obtain ⟨ad, rfl, hc2⟩ := hc hn
  obtain ⟨b, o, s⟩ := ad
  have hcell : ∀ j, j < xs.length → w.cell? ((⟨b, o, s⟩ : Addr).add (j * 2)) = some (.string (xs.getD j z83).f0) ∧ w.cell? ((⟨b, o, s⟩ : Addr).add (j * 2 + 1)) = some (.string (xs.getD j z83).f1) := fun j hj => by
    obtain ⟨c, _, hk, hcell⟩ := hc2 j _ (List.getElem?_eq_getElem hj)
    have e := k83_open hk
    have hg : xs.getD j z83 = xs[j] := by simp [List.getD_eq_getElem?_getD, hj]
    rw [hg]
    exact ⟨hcell 0 _ (by rw [e]; rfl), hcell 1 _ (by rw [e]; rfl)⟩
  have h0 := (hcell 0 (by omega)).1
  have hs : s = none := by simpa [Addr.add] using World.cell?_spot h0
  subst hs
  refine ⟨b, o, rfl, ?_, fun j hj => ?_⟩
  · rcases Nat.lt_or_ge b w.heap.size with hlt | hge
    · exact hlt
    · unfold Addr.add World.cell? at h0
      simp [Array.getElem?_eq_none hge] at h0
  · have h1 := hcell j hj
    have e0 : (⟨b, o, none⟩ : Addr).add (j * 2) = ⟨b, o + j * 2, none⟩ := by unfold Addr.add; split <;> simp_all
    have e1 : (⟨b, o, none⟩ : Addr).add (j * 2 + 1) = ⟨b, o + j * 2 + 1, none⟩ := by unfold Addr.add; split <;> simp_all <;> omega
    rw [e0, e1] at h1
    exact h1

theorem info83 : (Tryz.prog.info? 83).map (fun i => (i.zero, i.size, i.bytes)) = some (some (.agg #[(.string ⟨#[]⟩), (.string ⟨#[]⟩)]), 2, 32) := by kernel_rfl
/-- tags. -/
def el83 : El Tryz.prog S83 := ⟨34, 83, enc83, 2, 32, .agg #[.string ⟨#[]⟩, .string ⟨#[]⟩], Tryz.underlying34, info83, rfl, by omega, by omega, fun _ => rfl, fun x u hu => by
  rcases List.mem_cons.1 hu with h | h
  · rw [h]; rfl
  · rw [List.mem_singleton.1 h]; rfl⟩

theorem drop_take_83 (xs : List S83) (j : Nat) (hj : j < xs.length) : ((xs.flatMap el83.enc).drop (j * 2)).take 2 = enc83 xs[j] := by
  apply List.ext_getElem?
  intro i
  by_cases hi : i < 2
  · rw [List.getElem?_take_of_lt hi, List.getElem?_drop]
    exact El.at_ el83 xs j hj i hi
  · rw [List.getElem?_take_eq_none (by omega), List.getElem?_eq_none (by show 2 ≤ i; omega)]

/-- In the print's words. -/
theorem RowG.toRT {w : World} {base : Nat} {v : Value} {xs : List S83} (h : RowG el83 w base v xs) : Kd.R k83 83 w base (fun _ => True) v xs := by
  refine ⟨fun _ _ => trivial, xs.flatMap el83.enc, h, El.len el83 xs, fun j p hj => ?_⟩
  have hlt : j < xs.length := (List.getElem?_eq_some_iff.1 hj).1
  have hp : xs[j] = p := (List.getElem?_eq_some_iff.1 hj).2
  have := drop_take_83 xs j hlt
  rw [hp] at this
  show k83.M _ _ _ p (((xs.flatMap el83.enc).drop (j * 2)).take 2)
  rw [this]
  exact k83_mkM _ _ _ p

theorem RowG.toCT {w : World} {base : Nat} {v : Value} {xs : List S83} (h : RowG el83 w base v xs) : ∃ A c, v = .slice A xs.length c ∧ xs.length ≤ c ∧ Kd.C k83 w A xs.length xs := Kd.R_reads (RowG.toRT h)

/-- tags that are read, as a source of an append. -/
theorem src_of_CT {w : World} {A : Option Addr} {xs : List S83} (h : Kd.C k83 w A xs.length xs) : SrcG el83 w A xs := fun hp => by
  obtain ⟨b, o, rfl, _, hc⟩ := tags_at h hp
  refine ⟨_, rfl, fun j u hu => ?_⟩
  rw [add_at]
  have hlt : j < xs.length * 2 := by
    have := (List.getElem?_eq_some_iff.1 hu).1
    rwa [El.len el83 xs] at this
  have hj : j / 2 < xs.length := by omega
  obtain ⟨h1, h2⟩ := hc (j / 2) hj
  have hg : xs.getD (j / 2) z83 = xs[j / 2] := by simp [List.getD_eq_getElem?_getD, hj]
  rw [hg] at h1 h2
  have hat := El.at_ el83 xs (j / 2) hj (j % 2) (show j % 2 < 2 by omega)
  rw [show j / 2 * el83.size + j % 2 = j from by show j / 2 * 2 + j % 2 = j; omega, hu] at hat
  rcases (show j % 2 = 0 ∨ j % 2 = 1 by omega) with e | e
  · rw [e] at hat
    have : u = .string xs[j / 2].f0 := by simpa [el83, enc83] using hat
    rw [this, show o + j = o + j / 2 * 2 by omega]
    exact h1
  · rw [e] at hat
    have : u = .string xs[j / 2].f1 := by simpa [el83, enc83] using hat
    rw [this, show o + j = o + j / 2 * 2 + 1 by omega]
    exact h2

theorem src_ltT {w : World} {A : Option Addr} {xs : List S83} (h : Kd.C k83 w A xs.length xs) {w' : World} (hb : Below w.heap.size w w') : SrcG el83 w' A xs := src_of_CT (Kd.C_below h hb)

theorem cloneT_calls (A : Option Addr) (c : Nat) (xs : List S83) (w : World) (h : Kd.C k83 w A xs.length xs) (hl : xs.length ≤ 100000) :
    Calls Tryz.prog 50 #[.slice A xs.length c] w fun e w' => ∃ v, e = .returned v ∧ RowG el83 w' w.heap.size v xs ∧ Below w.heap.size w w' := by
  cases A with
  | none =>
    have hx : xs = [] := by
      cases xs with
      | nil => rfl
      | cons y t => obtain ⟨b, o, e, _⟩ := tags_at h (by simp); cases e
    subst hx
    have q22 : ∀ (w : World) (a : Option Addr) (n c n' c' : Nat), (binOp .eql 34 (.slice a n c) (.slice none n' c')).run Tryz.prog w = .ok (.bool a.isNone) w := fun w a n c n' c' => Lib.run_eql_slice_nil w _ _ a n c n' c' Tryz.underlying34
    go_enter Tryz.func50, Tryz.ntmps50
    go_wp2_with fail
    go_ret
    exact ⟨_, rfl, RowG.nil _ _ _, Below.refl _ _⟩
  | some a =>
    have b1 : Below w.heap.size w (w.alloc (.cells #[] 83)) := (Below.refl _ _).alloc (Nat.le_refl _) _
    have hrow : RowG el83 (w.alloc (.cells #[] 83)) w.heap.size (.slice (some ⟨w.heap.size, 0, none⟩) 0 0) [] := owns_empty (Nat.le_refl _) (by show (w.heap.push _)[w.heap.size]? = _; simp [el83])
    have hsrc := src_ltT h b1
    have hsz : w.heap.size ≤ (w.alloc (.cells #[] 83)).heap.size := b1.size
    clear h
    have q22 : ∀ (w : World) (a : Option Addr) (n c n' c' : Nat), (binOp .eql 34 (.slice a n c) (.slice none n' c')).run Tryz.prog w = .ok (.bool a.isNone) w := fun w a n c n' c' => Lib.run_eql_slice_nil w _ _ a n c n' c' Tryz.underlying34
    go_enter Tryz.func50, Tryz.ntmps50
    go_wp2_with (at_builtin; refine list_appG el83 _ rfl (.tmp 5) (.tmp 6) rfl w.heap.size _ [] (by rfl) hrow (some a) xs.length c xs (by rfl) rfl hsrc (by simp) (by omega) hsz ?_; intro v' w' r3 b3 z3)
    go_ret
    exact ⟨_, rfl, r3, b1.trans b3⟩

end Go.Proofs.YtnkmpkhiilnigaaGreatDoor.PA

/- roll.Shares, by its contract. -/
namespace Go.Proofs.YtnkmpkhiilnigaaGreatDoor.PA
open Go.RowKit Go.Shelf Go.Lib Go.Sort Go.Proofs.YtnkmpkhiilnigaaGreatDoorW.PrintWords Go.Proofs.YtnkmpkhiilnigaaGreatDoorW.PrintLast

def bs (n : List UInt8) : ByteArray := ⟨n.toArray⟩

section
variable (l0 l1 : List S51) (gone whole : Int)
/-- How far one is to go. -/
def dOf (n : List UInt8) : Int := wt l1 (bs n) - wt l0 (bs n)
/-- What one has gained. -/
def gainI (n : List UInt8) : Int := if 0 < dOf l0 l1 n then (dOf l0 l1 n * gone) / whole else 0
/-- One more name: what has been given and not yet been taken, the Shares so far. -/
def stepR (s : Int × List S51) (n : List UInt8) : Int × List S51 :=
  if dOf l0 l1 n < 0 then
    let m := min (-dOf l0 l1 n) s.1
    (s.1 - m, if 0 < wt l0 (bs n) - m then s.2 ++ [⟨bs n, wt l0 (bs n) - m⟩] else s.2)
  else (s.1, if 0 < wt l0 (bs n) + gainI l0 l1 gone whole n then s.2 ++ [⟨bs n, wt l0 (bs n) + gainI l0 l1 gone whole n⟩] else s.2)
def gains (ns : List (List UInt8)) : List Int := ns.map (gainI l0 l1 gone whole)
/-- The Shares on the way. -/
def rollL : List S51 :=
  if whole ≤ 0 ∨ whole ≤ gone then l1
  else if gone ≤ 0 then l0
  else ((namesOf (l0 ++ l1)).foldl (stepR l0 l1 gone whole) ((gains l0 l1 gone whole (namesOf (l0 ++ l1))).sum, [])).2
end

/-- Weights that are no trouble. -/
def Fine (l : List S51) : Prop := l.length ≤ 1000 ∧ ∀ s ∈ l, 0 ≤ s.f1 ∧ s.f1 ≤ 1000

theorem wt_fine {l : List S51} (h : ∀ s ∈ l, 0 ≤ s.f1 ∧ s.f1 ≤ 1000) (r : ByteArray) : 0 ≤ wt l r ∧ wt l r ≤ 1000 := by
  induction l with
  | nil => simp [wt]
  | cons s t ih =>
    unfold wt
    split
    · exact h s List.mem_cons_self
    · exact ih (fun x hx => h x (List.mem_cons_of_mem _ hx))

theorem names_le (l : List S51) : (namesOf l).length ≤ l.length := by
  refine Nat.le_trans (compact_length_le _) ?_
  rw [List.length_mergeSort]
  simp [keys]

theorem gain_fine {l0 l1 : List S51} (h0 : Fine l0) (h1 : Fine l1) {gone whole : Int} (g0 : 0 < gone) (g1 : gone < whole) (n : List UInt8) : 0 ≤ gainI l0 l1 gone whole n ∧ gainI l0 l1 gone whole n ≤ 1000 ∧ (0 < dOf l0 l1 n → gainI l0 l1 gone whole n ≤ dOf l0 l1 n) := by
  have a := wt_fine h0.2 (bs n)
  have b := wt_fine h1.2 (bs n)
  unfold gainI
  split
  · rename_i h
    have hd : dOf l0 l1 n ≤ 1000 := by unfold dOf; omega
    have e1 : 0 ≤ dOf l0 l1 n * gone / whole := Int.ediv_nonneg (Int.mul_nonneg (by omega) (by omega)) (by omega)
    have e2 : dOf l0 l1 n * gone / whole ≤ dOf l0 l1 n := by
      refine Int.ediv_le_of_le_mul (by omega) ?_
      exact Int.mul_le_mul_of_nonneg_left (by omega) (by omega)
    exact ⟨e1, by omega, fun _ => e2⟩
  · exact ⟨by omega, by omega, fun h => absurd h (by assumption)⟩

theorem sum_fine {α : Type} (f : α → Int) (c : Int) (hc : 0 ≤ c) : ∀ l : List α, (∀ x ∈ l, 0 ≤ f x ∧ f x ≤ c) → 0 ≤ (l.map f).sum ∧ (l.map f).sum ≤ c * l.length
  | [], _ => by simp
  | x :: t, h => by
    have ih := sum_fine f c hc t (fun y hy => h y (List.mem_cons_of_mem _ hy))
    have hx := h x List.mem_cons_self
    rw [List.map_cons, List.sum_cons, List.length_cons]
    push_cast
    rw [Int.mul_add]
    omega

end Go.Proofs.YtnkmpkhiilnigaaGreatDoor.PA
