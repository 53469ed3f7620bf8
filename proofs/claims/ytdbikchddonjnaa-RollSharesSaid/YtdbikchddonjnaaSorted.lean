/- roll.sorted, by its contract: the names, rising, none twice. -/
import Derived.Test.YtdbikchddonjnaaWt
import Derived.Test.YtdbikchddonjnaaRowG
import Derived.Lib.RowBridge
import Derived.Deep.QuietTactic
import Derived.Outline
namespace Go.Proofs.Ytdbikchddonjnaa.PA
open Go.RowKit Go.Shelf Go.Lib Go.Sort Go.Proofs.YtdbikchddonjnaaW.PrintWords Go.Proofs.YtdbikchddonjnaaW.PrintLast

/-- The number in a slot. -/
def vI : Value → Int
  | .int _ q => q
  | _ => 0

def keys (l : List S39) : List (List UInt8) := l.map fun s => s.f0.toList
def leS (x y : List UInt8) : Bool := decide (x ≤ y)
def namesOf (l : List S39) : List (List UInt8) := Lib.compact ((keys l).mergeSort leS)

theorem rev_calls (a : ByteArray) (b : Int) (w : World) : Calls Try.prog 26 #[.agg #[.string a, .int .i64 b]] w fun e w' => e = .returned (.string a) ∧ Below w.heap.size w w' := by
  go_enter Try.func26, Try.ntmps26
  go_wp2
  go_ret
  exact ⟨rfl, (Below.refl _ _).alloc (Nat.le_refl _) _⟩

theorem ownsRow_shorter {w : World} {base g n m cap : Nat} {e : TypeId} {xs : List Value} (h : w.ownsRow base e 1 (.slice (some ⟨g, 0, none⟩) n cap) n xs) (hm : m ≤ n) : w.ownsRow base e 1 (.slice (some ⟨g, 0, none⟩) m cap) m (xs.take m) := by
  obtain ⟨h1, h2⟩ := h
  rcases h2 with ⟨h0, _⟩ | ⟨g', cap', cur, he, hb, hh, h3, h4, h5, h6⟩
  · simp at h0
  · simp only [Value.slice.injEq, Option.some.injEq, Addr.mk.injEq, and_true, true_and] at he
    obtain ⟨rfl, rfl⟩ := he
    refine ⟨by simp; omega, .inr ⟨g, cap, cur, rfl, hb, hh, by omega, h4, h5, ?_⟩⟩
    rw [← h6, List.take_take, Nat.mul_one, Nat.mul_one, Nat.min_eq_left hm]

theorem fmS : ∀ L : List (List UInt8), L.flatMap elS.enc = L.map encStr
  | [] => rfl
  | x :: t => by rw [List.flatMap_cons, fmS t]; rfl

theorem grow_none (w : World) : grow w #[] = w := by simp [grow]

/-- slices.Sort, then slices.Compact, on a row of the call's own. -/
theorem sort_calls (v : Value) (B : Nat) (L : List (List UInt8)) (w : World) (h : RowG elS w B v L) (hl : L.length ≤ 1000000) :
    Calls Try.prog 32 #[v] w fun e w' => e = .returned (.tuple #[]) ∧ RowG elS w' B v (L.mergeSort leS) ∧ Below B w w' := by
  obtain ⟨A, c, rfl, hc, hs⟩ := h.shape
  by_cases hL : L = []
  · subst hL
    have hcon := AnyM.slices_Sort_string_none Try.sortA A c w
    change Calls Try.prog 32 _ _ _ at hcon
    refine hcon.mono ?_
    rintro e w' ⟨rfl, rfl⟩
    exact ⟨rfl, by rw [List.mergeSort_nil]; exact h, Below.refl _ _⟩
  · obtain ⟨g, cur, rfl, hg, hgl, hb, hcm, hsz, htk⟩ := hs (List.length_pos_iff.2 hL)
    rw [fmS, show elS.size = 1 from rfl, Nat.mul_one] at htk
    have hcon := AnyM.slices_Sort_string Try.sortA g 0 c L w (holds_of_block hb htk) hgl (by omega)
    change Calls Try.prog 32 _ _ _ at hcon
    refine hcon.mono ?_
    rintro e w' ⟨rfl, n, os, rfl⟩
    have hlen : (L.mergeSort leS).length = L.length := List.length_mergeSort ..
    have hgr := grownBy_sorted (w := w) (g := g) (n := n) (os := os) (L.mergeSort leS).toArray
    refine ⟨rfl, ?_, ⟨hgr.os, hgr.tape, hgr.output, hgr.size, fun k hk => hgr.block k (by omega) (by simp; omega)⟩⟩
    unfold RowG
    rw [hlen, fmS]
    exact ownsRow_sorted (w := w) (n := n) (os := os) hlen hg hb hc hcm hsz

theorem compact_calls (v : Value) (B : Nat) (L : List (List UInt8)) (w : World) (h : RowG elS w B v L) (hl : L.length ≤ 1000000) :
    Calls Try.prog 33 #[v] w fun e w' => ∃ v', e = .returned v' ∧ RowG elS w' B v' (Lib.compact L) ∧ Below B w w' := by
  obtain ⟨A, c, rfl, hc, hs⟩ := h.shape
  by_cases hL : L = []
  · subst hL
    have hcon := AnyG.slices_Compact_string_empty Try.compA A c w
    change Calls Try.prog 33 _ _ _ at hcon
    refine hcon.mono ?_
    rintro e w' ⟨rfl, rfl⟩
    exact ⟨_, rfl, h, Below.refl _ _⟩
  · obtain ⟨g, cur, rfl, hg, hgl, hb, hcm, hsz, htk⟩ := hs (List.length_pos_iff.2 hL)
    rw [fmS, show elS.size = 1 from rfl, Nat.mul_one] at htk
    have hcon := AnyG.slices_Compact_string Try.compA g 0 c L w (holds_of_block hb htk) (by omega) hc
    change Calls Try.prog 33 _ _ _ at hcon
    refine hcon.mono ?_
    rintro e w' ⟨rfl, q, rfl⟩
    have hcl := compact_length_le L
    have hlen : (compact L ++ List.replicate (L.length - (compact L).length) []).length = L.length := by simp; omega
    have hgr := grownBy_sorted (w := w) (g := g) (n := q) (os := #[]) (compact L ++ List.replicate (L.length - (compact L).length) []).toArray
    have hro := ownsRow_sorted (w := w) (base := B) (n := q) (os := #[]) (cap := c) (e := 9) hlen hg hb hc hcm hsz
    rw [grow_none] at hgr hro
    refine ⟨_, rfl, ?_, ⟨hgr.os, hgr.tape, hgr.output, hgr.size, fun k hk => hgr.block k (by omega) (by simp; omega)⟩⟩
    have h2 := ownsRow_shorter hro hcl
    unfold RowG
    rw [fmS]
    rw [List.map_append, List.take_left' (by simp)] at h2
    exact h2

theorem strB (a : ByteArray) : Value.string a = encStr a.toList := by
  show Value.string a = Value.string ⟨a.toList.toArray⟩
  rw [show (⟨a.toList.toArray⟩ : ByteArray) = a from by rw [ByteArray.toList_eq]]

/-- The names of the first k of two rows. -/
def pre (l0 l1 : List S39) : Nat → List S39
  | 0 => []
  | 1 => l0
  | _ => l0 ++ l1

set_option maxHeartbeats 1000000 in
theorem sorted_calls (N : Nat) (A0 : Option Addr) (c0 : Nat) (l0 : List S39) (A1 : Option Addr) (c1 : Nat) (l1 : List S39) (w : World) (hb : w.heap[N]? = some (.cells #[.slice A0 l0.length c0, .slice A1 l1.length c1] 23 (0, 0)))
    (hr0 : Kd.C k39 w A0 l0.length l0) (hr1 : Kd.C k39 w A1 l1.length l1) (h0 : l0.length ≤ 1000) (h1 : l1.length ≤ 1000) :
    Calls Try.prog 25 #[.func (.func 26) #[] #[], .slice (some ⟨N, 0, none⟩) 2 2] w fun e w' => ∃ v, e = .returned v ∧ RowG elS w' w.heap.size v (namesOf (l0 ++ l1)) ∧ Below w.heap.size w w' := by
  have hN : N < w.heap.size := (Array.getElem?_eq_some_iff.1 hb).1
  have hcell : ∀ k, k < 2 → ∃ A c l, w.cell? ⟨N, k, none⟩ = some (.slice A l.length c) ∧ Kd.C k39 w A l.length l ∧ l.length ≤ 1000 ∧ pre l0 l1 (k + 1) = pre l0 l1 k ++ l := fun k hk => by
    match k, hk with
    | 0, _ => exact ⟨A0, c0, l0, by simp [World.cell?, hb], hr0, h0, by simp [pre]⟩
    | 1, _ => exact ⟨A1, c1, l1, by simp [World.cell?, hb], hr1, h1, by simp [pre]⟩
  have HCELL := Lib.hid hcell
  clear hcell hb hr0 hr1
  have b0 : Below w.heap.size w w := Below.refl _ _
  go_enter Try.func25, Try.ntmps25
  go_wp2_with fail
  go_loopw [5, 12] (fun v5 v12 wr => ∃ (k : Nat) (L : List (List UInt8)), k ≤ 2 ∧ v12 = .int .i64 k ∧ Hid (L = keys (pre l0 l1 k)) ∧ L.length ≤ k * 1000 ∧ RowG elS wr w.heap.size v5 L ∧ Below w.heap.size w wr) (fun _ v12 _ => 2 - (vI v12).toNat)
  case atStart => exact ⟨0, [], by omega, rfl, Lib.hid rfl, by simp, RowG.nil _ _ _, b0⟩
  case round =>
    clear b0
    obtain ⟨k, L, hk, rfl, hL, hLl, hrow, hb⟩ := hrel
    by_cases hlt : k < 2
    · obtain ⟨A, c, l, hc, hC, hl, hp⟩ := HCELL.out k hlt
      have hc1 := (hb.cell (p := ⟨N, k, none⟩) hN).trans hc
      have HC := Lib.hid hC
      have HP := Lib.hid hp
      have hst : Hid (L = L ++ keys (l.take 0)) := Lib.hid (by rw [List.take_zero]; exact (List.append_nil L).symm)
      have hlt' : (k : Int) < 2 := by omega
      clear hc hC hp
      go_wp2_with fail
      clear hc1
      go_loopw [5, 18] (fun v5 v18 wr => ∃ (i : Nat) (M : List (List UInt8)), i ≤ l.length ∧ v18 = .int .i64 i ∧ Hid (M = L ++ keys (l.take i)) ∧ M.length ≤ k * 1000 + i ∧ RowG elS wr w.heap.size v5 M ∧ Below w.heap.size w wr) (fun _ v18 _ => l.length - (vI v18).toNat)
      case atStart => exact ⟨0, L, by omega, rfl, hst, Nat.le_trans hLl (Nat.le_add_right _ _), hrow, hb⟩
      case round =>
        clear hrow hb
        obtain ⟨i, M, hi, rfl, hM, hMl, hrow, hb⟩ := hrel
        by_cases hlt2 : i < l.length
        · obtain ⟨b, o, rfl, hbl, hcs⟩ := shares_at HC.out (by omega)
          obtain ⟨q1, q2⟩ := hcs i hlt2
          have q1 := (hb.cell (p := ⟨b, o + i * 2, none⟩) hbl).trans q1
          have q2 := (hb.cell (p := ⟨b, o + i * 2 + 1, none⟩) hbl).trans q2
          have hM2 := Lib.hid (show M ++ [(l.getD i z39).f0.toList] = L ++ keys (l.take (i + 1)) from by
            rw [hM.out, List.append_assoc]
            congr 1
            unfold keys
            rw [List.take_succ_eq_append_getElem hlt2, List.map_append, show l.getD i z39 = l[i] by simp [List.getD_eq_getElem?_getD, hlt2]]
            rfl)
          clear hcs hM
          generalize (l.getD i z39).f0 = nm at q1 hM2
          generalize (l.getD i z39).f1 = wgt at q2
          go_wp2_with fail
          refine (rev_calls _ _ _).mono ?_
          rintro e w4 ⟨rfl, hb4⟩
          have hs4 := hb4.size
          simp at hs4
          obtain ⟨W4, hW4⟩ : ∃ W4, wr.heap.size = W4 := ⟨_, rfl⟩
          have hb5 : Below wr.heap.size wr w4 := ((Below.refl _ wr).alloc (Nat.le_refl _) _).trans (hb4.mono (by simp))
          have hs5 := hb.size
          obtain ⟨N4, hN4⟩ : ∃ N4, w4.heap.size = N4 := ⟨_, rfl⟩
          have k4 : (w4.alloc (.cells #[.string nm] 9)).heap[N4]? = some (.cells (elS.enc nm.toList).toArray elS.e (0, 0)) := by
            subst hN4
            show (w4.heap.push _)[w4.heap.size]? = _
            rw [strB]
            simp [elS]
          have bA : Below N4 w4 (w4.alloc (.cells #[.string nm] 9)) := (Below.refl _ _).alloc (by omega) _
          have hrA := (hrow.below hb5 (Nat.le_refl _)).below bA (by omega)
          have hszA : w.heap.size ≤ (w4.alloc (.cells #[.string nm] 9)).heap.size := by simp; omega
          have bB := (hb.trans (hb5.mono hs5)).trans (bA.mono (by omega))
          have HN := Lib.hid hN4
          clear hN4 bA hb4 hb5
          go_wp2_with (at_builtin; refine list_appG elS _ rfl (.tmp 22) (.tmp 26) rfl w.heap.size _ M (by rfl) hrA (some ⟨w4.heap.size, 0, none⟩) 1 1 [nm.toList] (by rfl) rfl (SrcG.one (HN.out ▸ k4)) (by omega) (by omega) hszA ?_; intro v' w' r3 b3 z3)
          have b4 := bB.trans b3
          have hl3 : (M ++ [nm.toList]).length = M.length + 1 := by simp
          go_roundw
          case rel => exact ⟨i + 1, M ++ [nm.toList], by omega, by go_num, hM2, by omega, r3, b4⟩
          case measure => simp [vI]; omega
        · go_wp2_with fail
          go_roundw
          case rel => exact ⟨k + 1, M, by omega, by go_num, Lib.hid (by rw [HP.out]; rw [hM.out, hL.out, List.take_of_length_le (by omega)]; simp [keys]), by omega, hrow, hb⟩
          case measure => simp [vI]; omega
    · obtain rfl : k = 2 := by omega
      go_wp2_with fail
      refine (sort_calls _ w.heap.size L _ hrow (by omega)).mono ?_
      rintro e w4 ⟨rfl, r4, hb4⟩
      have b4 := hb.trans hb4
      have hl4 : (L.mergeSort leS).length = L.length := List.length_mergeSort ..
      clear hrow hb hb4
      go_wp2_with fail
      refine (compact_calls _ w.heap.size _ _ r4 (by omega)).mono ?_
      rintro e w5 ⟨v', rfl, r5, hb5⟩
      go_wp2_with fail
      go_ret
      exact ⟨_, rfl, by rw [hL.out] at r5; exact r5, b4.trans hb5⟩

end Go.Proofs.Ytdbikchddonjnaa.PA
