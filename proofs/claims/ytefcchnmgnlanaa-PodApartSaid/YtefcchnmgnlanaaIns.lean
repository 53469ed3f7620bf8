/- A region that puts a number into its place: append(append(append([]int{}, a[:i]...), x), a[i:]...). Its steps. -/
import Derived.Test.YtefcchnmgnlanaaKill
import Derived.Test.YtefcchnmgnlanaaApp
import Derived.Test.YtefcchnmgnlanaaWLast
import Derived.WalkKit
namespace Go.Proofs.Ytefcchnmgnlanaa
open Go.RowKit Go.Maps

theorem owns_below {w w' : World} {base B : Nat} {e : TypeId} {size : Nat} {v : Value} {n : Nat} {xs : List Value} (h : w.ownsRow base e size v n xs) (hb : Below B w w') (hB : w.heap.size ≤ B) : w'.ownsRow base e size v n xs := by
  obtain ⟨h1, h2⟩ := h
  refine ⟨h1, ?_⟩
  rcases h2 with h2 | ⟨g, cap, cur, hv, hg, hh, r⟩
  · exact .inl h2
  · exact .inr ⟨g, cap, cur, hv, hg, (hb.block g (Nat.lt_of_lt_of_le (Array.getElem?_eq_some_iff.1 hh).1 hB)).trans hh, r⟩

theorem Row.below {w w' : World} {base B : Nat} {v : Value} {xs : List Int} (h : Row w base v xs) (hb : Below B w w') (hB : w.heap.size ≤ B) : Row w' base v xs := owns_below h hb hB

/-- A slice's first cells are the numbers ys. -/
def SrcI (w : World) (A : Option Addr) (ys : List Int) : Prop := SrcAt w A ys.length (ys.map encZ)

theorem SrcI.nil (w : World) (A : Option Addr) : SrcI w A [] := fun h => absurd h (by simp)

theorem SrcI.below {w w' : World} {A : Option Addr} {ys : List Int} {B : Nat} (h : SrcI w A ys) (hb : Below B w w') (hA : ∀ a, A = some a → a.block < B) : SrcI w' A ys := fun hp => by
  obtain ⟨ad, e, hc⟩ := h hp
  refine ⟨ad, e, fun j u hu => ?_⟩
  rw [hb.cell (p := ad.add j) (by have := hA ad e; unfold Addr.add; split <;> exact this)]
  exact hc j u hu

theorem SrcI.of_cells {w : World} {g o : Nat} {ys : List Int} (h : ∀ j, j < ys.length → w.cell? ⟨g, o + j, none⟩ = some (.int .i64 (ys.getD j 0))) : SrcI w (some ⟨g, o, none⟩) ys := fun _ => ⟨_, rfl, fun j u hu => by
  obtain ⟨x, hx, rfl⟩ := List.getElem?_map .. ▸ hu |> Option.map_eq_some_iff.1
  have hlt : j < ys.length := (List.getElem?_eq_some_iff.1 hx).1
  rw [add_at, h j hlt]
  simp [List.getD_eq_getElem?_getD, hx]⟩

theorem SrcI.one {w : World} {N : Nat} {x : Int} (h : w.heap[N]? = some (.cells #[.int .i64 x] 3 (0, 0))) : SrcI w (some ⟨N, 0, none⟩) [x] := src_one h

/-- Its first i numbers, and the rest. -/
theorem SrcI.firsts {w : World} {g : Nat} {ys : List Int} (h : ∀ j, j < ys.length → w.cell? ⟨g, j, none⟩ = some (.int .i64 (ys.getD j 0))) (i : Nat) : SrcI w (some ⟨g, 0, none⟩) (ys.take i) := by
  refine SrcI.of_cells fun j hj => ?_
  rw [List.length_take] at hj
  rw [Nat.zero_add, h j (by omega)]
  simp [List.getD_eq_getElem?_getD, show j < i by omega]

theorem SrcI.rest {w : World} {g : Nat} {ys : List Int} (h : ∀ j, j < ys.length → w.cell? ⟨g, j, none⟩ = some (.int .i64 (ys.getD j 0))) (i cp : Nat) (hc : ys.length ≤ cp) (hi : i ≤ ys.length) : SrcI w (if cp = i then some ⟨g, 0, none⟩ else some ⟨g, i, none⟩) (ys.drop i) := by
  by_cases e : cp = i
  · rw [List.drop_of_length_le (by omega)]
    exact SrcI.nil _ _
  · rw [if_neg e]
    refine SrcI.of_cells fun j hj => ?_
    rw [List.length_drop] at hj
    rw [h (i + j) (by omega)]
    simp [List.getD_eq_getElem?_getD]

theorem old_block (g i cp B : Nat) (hg : g < B) : ∀ a, (if cp = i then some (⟨g, 0, none⟩ : Addr) else some ⟨g, i, none⟩) = some a → a.block < B := fun a e => by
  split at e <;> (cases e; exact hg)

section
variable {ops : Array Oper} {o : Oper} {a : Act} {K : Act → World → Prop} {Q : Exit → Act → World → Prop} {E : Prop} (w : World)

/-- '[]int{}' as a step. -/
theorem step_build0 (hgd : o.guard = none) (ho : o.op = .buildSlice 22 0 #[]) (N : Nat) (hN : w.heap.size = N)
    (h : ∀ w', w'.heap[N]? = some (.cells #[] 3 (0, 0)) → N < w'.heap.size → Below N w w' → K (a.put o.dst (.slice (some ⟨N, 0, none⟩) 0 0)) w') :
    if Region.wanted o (yielded ops a.tmps) = true then Oper.wp Try.prog o a w K Q else E := by
  have hw : Region.wanted o (yielded ops a.tmps) = true := by simp [Region.wanted, hgd]
  rw [if_pos hw]
  subst hN
  have h1 := h (w.alloc (.cells #[] 3)) (by show (w.heap.push _)[w.heap.size]? = _; simp) (by simp) ((Below.refl _ _).alloc (Nat.le_refl _) _)
  unfold Oper.wp execOp
  simp only [ho]
  go_simp
  exact h1

/-- '[]int{x}' as a step. -/
theorem step_build1 (hgd : o.guard = none) (s : Tmp) (ho : o.op = .buildSlice 22 1 #[(0, .tmp s)]) (x : Int) (hs : a.eval (.tmp s) = .int .i64 x) (N : Nat) (hN : w.heap.size = N)
    (h : ∀ w', w'.heap[N]? = some (.cells #[.int .i64 x] 3 (0, 0)) → N < w'.heap.size → Below N w w' → K (a.put o.dst (.slice (some ⟨N, 0, none⟩) 1 1)) w') :
    if Region.wanted o (yielded ops a.tmps) = true then Oper.wp Try.prog o a w K Q else E := by
  have hw : Region.wanted o (yielded ops a.tmps) = true := by simp [Region.wanted, hgd]
  rw [if_pos hw]
  subst hN
  have h1 := h (w.alloc (.cells #[.int .i64 x] 3)) (by show (w.heap.push _)[w.heap.size]? = _; simp) (by simp) ((Below.refl _ _).alloc (Nat.le_refl _) _)
  have hs' : a.tmps[s]?.getD undef = .int .i64 x   := by simpa [Act.eval] using hs
  unfold Oper.wp execOp
  simp only [ho]
  go_simp
  exact h1

/-- append, onto a row that is new since B. -/
theorem step_app (hgd : o.guard = none) (s x : Operand) (ho : o.op = .call { callee := .builtin .append, args := #[s, x], argTypes := #[22, 22] })
    (B : Nat) (v : Value) (n : Nat) (xs : List Int) (hs : a.eval s = v) (hown : w.ownsRow B 3 1 v n (xs.map encZ))
    (A : Option Addr) (m c : Nat) (ys : List Int) (hx : a.eval x = .slice A m c) (hm : ys.length = m) (hsrc : SrcI w A ys) (hn : n ≤ 1000000) (hm6 : m ≤ 1000000) (hB : B ≤ w.heap.size)
    (h : ∀ v' w', w'.ownsRow B 3 1 v' (n + m) ((xs ++ ys).map encZ) → w.grownBy w' v.ownBlock → Below B w w' → (v' = .slice none 0 0 ↔ v = .slice none 0 0 ∧ m = 0) → K (a.put o.dst v') w') :
    if Region.wanted o (yielded ops a.tmps) = true then Oper.wp Try.prog o a w K Q else E := by
  obtain ⟨i0, hi, hz0, hz1, hz2⟩ := info_parts info3
  subst hm
  refine step_append_any (P := Try.prog) w hgd s x 22 ho B 3 i0 (.int .i64 0) 1 8 Try.underlying22 hi hz0 hz1 hz2 rfl (by omega) v n (xs.map encZ) hs hown A ys.length c (ys.map encZ) hx (by simp) hsrc
    (fun u hu => by obtain ⟨y, _, rfl⟩ := List.mem_map.1 hu; rfl) (by unfold maxLen; omega) (by omega) hB ?_
  intro v' w' h1 h2 h3 h4
  refine h v' w' (by rw [List.map_append]; exact h1) h2 ?_ h3
  refine ⟨h2.os, h2.tape, h2.output, h2.size, fun k hk => h2.block k (Nat.lt_of_lt_of_le hk hB) ?_⟩
  rcases hown.2 with ⟨rfl, _⟩ | ⟨g, cap, cur, rfl, hg, _⟩
  · simp [Value.ownBlock]
  · simp [Value.ownBlock]; omega
end

end Go.Proofs.Ytefcchnmgnlanaa
