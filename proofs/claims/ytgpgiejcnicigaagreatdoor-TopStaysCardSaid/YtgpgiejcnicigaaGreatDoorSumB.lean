/- The evaluation of TopStays: what it takes from contracts, all told; from an evaluation to the law. -/
import Derived.Test.YtgpgiejcnicigaaGreatDoorSumA
import Derived.Lib.AppendIntMem
set_option linter.unusedSimpArgs false
set_option linter.unusedVariables false
namespace Go.Proofs.YtgpgiejcnicigaaGreatDoor.Sm
open Go.Ev Go.RowKit

/-! ### strconv.Itoa, below a hundred -/
noncomputable def dig2 (n : Nat) : List UInt8 := cond (Nat.blt n 10) [UInt8.ofNat (48 + n)] [UInt8.ofNat (48 + n / 10), UInt8.ofNat (48 + n % 10)]
theorem dig2_eq (n : Nat) (h : n < 100) : Lib.decDigits n = dig2 n := by
  unfold dig2 Lib.decDigits
  by_cases hn : n < 10
  · have : Nat.blt n 10 = true := by unfold Nat.blt; exact Nat.ble_eq_true_of_le (by omega)
    rw [this, dif_pos hn]; rfl
  · have : Nat.blt n 10 = false := by
      cases hb : Nat.blt n 10 with
      | false => rfl
      | true => unfold Nat.blt at hb; have := Nat.le_of_ble_eq_true hb; omega
    rw [this, dif_neg hn]
    unfold Lib.decDigits
    rw [dif_pos (by omega)]; rfl
noncomputable def sumI (xs : List Value) : Option Value :=
  match xs with
  | [.int .i64 (.ofNat n)] => cond (Nat.blt n 100) (some (.string ⟨⟨dig2 n⟩⟩)) none
  | _ => none
theorem vrl_one {ι : Map} {a : Value} {l : List Value} (h : VRL ι [a] l) : ∃ a', l = [a'] ∧ VR ι a a' := by
  cases h with
  | cons h1 h2 => cases h2; exact ⟨_, rfl, h1⟩
theorem sumI_ok {xs : List Value} {h : Heap} {v : Value} (e : sumI xs = some v) {ι : Map} {w : World} {xs' : List Value} (hx : VRL ι xs xs') :
    Calls Tryz.prog 61 ⟨xs'⟩ w fun e w' => ∃ v', e = .returned v' ∧ VR ι v v' ∧ Below w.heap.size w w' := by
  unfold sumI at e
  split at e
  · rename_i n
    cases hb : Nat.blt n 100 with
    | false => rw [hb] at e; cases e
    | true =>
      rw [hb] at e; cases e
      have hn : n < 100 := by unfold Nat.blt at hb; have := Nat.le_of_ble_eq_true hb; omega
      obtain ⟨a', rfl, h1⟩ := vrl_one hx
      rw [h1.int_inv]
      refine (Any.strconv_Itoa_small Tryz.itoaS n hn w).mono ?_
      rintro e w' ⟨rfl, rfl⟩
      rw [dig2_eq n hn]
      exact ⟨_, rfl, .string _, Below.refl _ _⟩
  · cases e

noncomputable def summ (k : Nat) (f : FuncId) (xs : List Value) (h : Heap) : Option Value :=
  cond (Nat.beq f 62) (sumJ xs h) (cond (Nat.beq f 61) (sumI xs) (cond (Nat.beq f 7) (sumW k xs) none))
theorem fn_is {P : Program} {f : FuncId} (h : (fnA P f).isSome = true) : ∃ fn body, fnA P f = some (fn, body) := by
  obtain ⟨⟨a, b⟩, h⟩ := Option.isSome_iff_exists.1 h
  exact ⟨a, b, h⟩
theorem summ_ok {X : Blk} {k : Nat} (hk : ((X.κ : Int) - X.δ) % 8 = k) : SummOK Tryz.prog ⟨6, X⟩ (summ k) := by
  intro f xs h v e
  unfold summ at e
  cases h1 : Nat.beq f 62 with
  | true =>
    rw [h1] at e
    obtain rfl := Nat.eq_of_beq_eq_true h1
    exact ⟨fn_is (by kernel_rfl), fun ι w xs' r g hx => sumJ_ok e r hx⟩
  | false =>
    rw [h1] at e
    cases h2 : Nat.beq f 61 with
    | true =>
      rw [h2] at e
      obtain rfl := Nat.eq_of_beq_eq_true h2
      exact ⟨fn_is (by kernel_rfl), fun ι w xs' r g hx => sumI_ok (h := h) e hx⟩
    | false =>
      rw [h2] at e
      cases h3 : Nat.beq f 7 with
      | true =>
        rw [h3] at e
        obtain rfl := Nat.eq_of_beq_eq_true h3
        exact ⟨fn_is (by kernel_rfl), fun ι w xs' r g hx => sumW_ok (h := h) hk e g hx⟩
      | false => rw [h3] at e; cases e

/-! ### The evaluation -/
noncomputable def tabL : List Value := Lib.pow10Tab.map fun z => Value.int .u64 z
noncomputable def heap0 : Heap := Heap.put .e 1 (.cells ⟨tabL⟩ 403 (1, 0))
noncomputable def run (X : Blk) (k : Nat) (b : Bool) : Option (Value × Heap × Nat) :=
  bodyA Tryz.prog ⟨6, X⟩ 100000 (callA Tryz.prog ⟨6, X⟩ (summ k) 100000 100) (bodyA Tryz.prog ⟨6, X⟩ 100000 (callA Tryz.prog ⟨6, X⟩ (summ k) 100000 100) (fun _ _ _ _ => none)) 3 [.chan (some 1), .bool b] heap0 100
def intsB : List Value → List Int → Bool
  | [], [] => true
  | .int .u64 z :: r, y :: s => cond (decide (z = y)) (intsB r s) false
  | _, _ => false
noncomputable def tabOK (o : Option Obj) : Bool :=
  match o with
  | some (.cells ⟨cs⟩ _ (1, 0)) => intsB cs Lib.pow10Tab
  | _ => false
/-- It evaluates to true (and the table is as it was). -/
noncomputable def isTrue (r : Option (Value × Heap × Nat)) : Bool :=
  match r with
  | some (.bool true, h, _) => tabOK (h.get 1)
  | _ => false

/-! ### The law -/
theorem intsB_spec : ∀ {l : List Value} {zs : List Int}, intsB l zs = true → l = zs.map fun z => Value.int .u64 z
  | [], [], _ => rfl
  | [], _ :: _, h => by simp [intsB] at h
  | _ :: _, [], h => by simp [intsB] at h
  | v :: l, z :: zs, h => by
    have key : ∃ u, v = .int .u64 u ∧ u = z ∧ intsB l zs = true := by
      cases v with
      | int k u =>
        cases k with
        | u64 =>
          have h' : cond (decide (u = z)) (intsB l zs) false = true := h
          cases hd : decide (u = z) with
          | false => rw [hd] at h'; cases h'
          | true => rw [hd] at h'; exact ⟨u, rfl, of_decide_eq_true hd, h'⟩
        | _ => cases h
      | _ => cases h
    obtain ⟨u, rfl, rfl, h2⟩ := key
    rw [List.map_cons, ← intsB_spec h2]
noncomputable def ι0 (X : Blk) (κ : Nat) : Map := fun n => if n = 1 then some ⟨1, κ, 0⟩ else if n < 6 then some ⟨n, 0, 0⟩ else if n = 50 then some X else none
theorem ints_real {ι : Map} : ∀ {zs : List Int} {l : List Value}, VRL ι (zs.map fun z => Value.int .u64 z) l → l = zs.map fun z => Value.int .u64 z
  | [], l, h => by cases h; rfl
  | x :: xs, l, h => by
    cases h with
    | cons h1 h2 => rw [ints_real h2, h1.int_inv]; rfl
/-- A row of numbers is what it is told to be. -/
theorem row_is {ι : Map} {x : Blk} {zs : List Int} {t : TypeId} {o : Obj} (hd : x.δ = 0) (h : OR ι x (.cells ⟨zs.map fun z => Value.int .u64 z⟩ t (1, 0)) o) :
    ∃ t' fz', o = .cells ⟨zs.map fun z => Value.int .u64 z⟩ t' fz' ∧ x.κ = tcode t' fz'.1 fz'.2 := by
  cases h with
  | table hk hl hc =>
    rename_i a' t' fz'
    refine ⟨t', fz', ?_, hk⟩
    rw [hd] at hc
    rw [ints_real (l := a') (VRL.of_get hl hc)]
theorem law_of {X : Blk} {k : Nat} {b : Bool} (hev : isTrue (run X k b) = true) (hk : ((X.κ : Int) - X.δ) % 8 = k) (W : World) (ht : Lib.TabIs Tryz.prog W "internal/strconv.uint64pow10" .u64 Lib.pow10Tab) :
    Calls Tryz.prog 3 #[.int .i64 ((X.κ : Int) - X.δ), .bool b] W fun e w' => e = .returned (.bool true) ∧ Below W.heap.size W w' := by
  obtain ⟨t1, fz1, hW⟩ : ∃ t fz, W.heap[1]? = some (.cells ⟨tabL⟩ t fz) := by
    unfold Lib.TabIs World.var? at ht
    rw [show Tryz.prog.globalNamed "internal/strconv.uint64pow10" = some 1 by kernel_rfl] at ht
    simp only [Option.bind_some] at ht
    split at ht
    · rename_i cs t fz h
      cases ht
      exact ⟨t, fz, h⟩
    · cases ht
  generalize hr : run X k b = r at hev
  unfold isTrue at hev
  split at hev
  · rename_i h' c'
    unfold tabOK at hev
    split at hev
    · rename_i cs t' hg
      have hcs := intsB_spec hev
      subst hcs
      let κ := tcode t1 fz1.1 fz1.2
      have hfit : fits 1 = true := by unfold fits D; decide
      have h0 : ∀ n o, heap0.get n = some o → n = 1 ∧ o = .cells ⟨tabL⟩ 403 (1, 0) := by
        intro n o h
        unfold heap0 at h
        rw [Heap.get_put hfit] at h
        split at h
        · rename_i e; cases h; exact ⟨e, rfl⟩
        · rw [T.get_e] at h; cases h
      have hι1 : ι0 X κ 1 = some ⟨1, κ, 0⟩ := rfl
      have R : Rl (ι0 X κ) heap0 W := {
        obj := by
          intro n o h
          obtain ⟨rfl, rfl⟩ := h0 n o h
          exact ⟨_, _, hι1, hW, .table rfl rfl fun i v hv => by
            obtain ⟨z, hz, rfl⟩ : ∃ z, Lib.pow10Tab[i]? = some z ∧ v = .int .u64 z := by
              simp only [tabL, List.getElem?_map] at hv
              cases hz : Lib.pow10Tab[i]? with
              | none => rw [hz] at hv; cases hv
              | some z => rw [hz] at hv; cases hv; exact ⟨z, rfl, rfl⟩
            exact ⟨_, hv, .int _ _⟩⟩
        inj := by
          intro m n o p x y h1 h2 _ _ _
          rw [(h0 m o h1).1, (h0 n p h2).1] }
      have A : Above (ι0 X κ) 100 := by
        intro n hn
        unfold ι0
        rw [if_neg (by omega), if_neg (by omega), if_neg (by omega)]
      have Gl : GL ⟨6, X⟩ (ι0 X κ) := by
        refine ⟨fun g hg => ?_, rfl⟩
        by_cases h1 : g = 1
        · subst h1; exact ⟨_, rfl⟩
        · have hg' : g < 6 := hg
          exact ⟨0, by unfold ι0; rw [if_neg h1, if_pos hg']⟩
      have hx : VRL (ι0 X κ) [.chan (some 1), .bool b] [.int .i64 ((X.κ : Int) - X.δ), .bool b] := .cons (.tok rfl) (.cons (.bool b) .nil)
      refine (calls_eval (summ_ok hk) (by kernel_rfl) hr R A Gl hx).mono ?_
      rintro e w' ⟨ι', v', rfl, hv, R', T⟩
      rw [hv.bool_inv]
      refine ⟨rfl, T.os, T.tape, T.output, T.size, fun j hj => ?_⟩
      by_cases h1 : j = 1
      · subst h1
        obtain ⟨x, o', hx', hw', ho⟩ := R'.obj 1 _ hg
        rw [T.ext 1 _ hι1] at hx'
        cases hx'
        obtain ⟨t2, fz2, rfl, hκ⟩ := row_is rfl ho
        obtain ⟨e1, e2, e3⟩ := tcode_inj (show tcode t1 fz1.1 fz1.2 = _ from hκ)
        have e4 : fz1 = fz2 := Prod.ext e2 e3
        subst e1; subst e4
        rw [hW]
        exact hw'
      · refine T.frame j hj fun n o x hn hx' => ?_
        obtain ⟨rfl, _⟩ := h0 n o hn
        rw [hι1] at hx'
        cases hx'
        exact fun h => h1 h.symm
    · cases hev
  · cases hev
end Go.Proofs.YtgpgiejcnicigaaGreatDoor.Sm
