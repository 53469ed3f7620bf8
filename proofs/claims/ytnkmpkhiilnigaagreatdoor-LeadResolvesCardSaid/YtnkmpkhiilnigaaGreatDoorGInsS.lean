/- A region that puts a text into its place: append(append(append([]string{}, a[:i]...), x), a[i:]...). Its steps. -/
import Derived.Test.YtnkmpkhiilnigaaGreatDoorGGrnd
import Derived.Test.YtnkmpkhiilnigaaGreatDoorWWords
import Derived.Sort.OwnSorted
import Derived.WalkKit
namespace Go.Proofs.YtnkmpkhiilnigaaGreatDoor
open Go.RowKit Go.Maps

theorem owns_belowS {w w' : World} {base B : Nat} {e : TypeId} {size : Nat} {v : Value} {n : Nat} {xs : List Value} (h : w.ownsRow base e size v n xs) (hb : Below B w w') (hB : w.heap.size ≤ B) : w'.ownsRow base e size v n xs := by
  obtain ⟨h1, h2⟩ := h
  refine ⟨h1, ?_⟩
  rcases h2 with h2 | ⟨g, cap, cur, hv, hg, hh, r⟩
  · exact .inl h2
  · exact .inr ⟨g, cap, cur, hv, hg, (hb.block g (Nat.lt_of_lt_of_le (Array.getElem?_eq_some_iff.1 hh).1 hB)).trans hh, r⟩

/-- A slice's first cells are the texts ys. -/
def SrcS (w : World) (A : Option Addr) (ys : List (List UInt8)) : Prop := SrcAt w A ys.length (ys.map encStr)

theorem SrcS.nil (w : World) (A : Option Addr) : SrcS w A [] := fun h => absurd h (by simp)

theorem SrcS.below {w w' : World} {A : Option Addr} {ys : List (List UInt8)} {B : Nat} (h : SrcS w A ys) (hb : Below B w w') (hA : ∀ a, A = some a → a.block < B) : SrcS w' A ys := fun hp => by
  obtain ⟨ad, e, hc⟩ := h hp
  refine ⟨ad, e, fun j u hu => ?_⟩
  rw [hb.cell (p := ad.add j) (by have := hA ad e; unfold Addr.add; split <;> exact this)]
  exact hc j u hu

theorem SrcS.of_cells {w : World} {g o : Nat} {ys : List (List UInt8)} (h : ∀ j, j < ys.length → w.cell? ⟨g, o + j, none⟩ = some (encStr (ys.getD j []))) : SrcS w (some ⟨g, o, none⟩) ys := fun _ => ⟨_, rfl, fun j u hu => by
  obtain ⟨x, hx, rfl⟩ := List.getElem?_map .. ▸ hu |> Option.map_eq_some_iff.1
  have hlt : j < ys.length := (List.getElem?_eq_some_iff.1 hx).1
  rw [add_at, h j hlt]
  simp [List.getD_eq_getElem?_getD, hx]⟩

theorem SrcS.one {w : World} {N : Nat} {x : List UInt8} (h : w.heap[N]? = some (.cells #[encStr x] 9 (0, 0))) : SrcS w (some ⟨N, 0, none⟩) [x] := src_one h

/-- Its first i texts, and the rest. -/
theorem SrcS.firsts {w : World} {g : Nat} {ys : List (List UInt8)} (h : ∀ j, j < ys.length → w.cell? ⟨g, j, none⟩ = some (encStr (ys.getD j []))) (i : Nat) : SrcS w (some ⟨g, 0, none⟩) (ys.take i) := by
  refine SrcS.of_cells fun j hj => ?_
  rw [List.length_take] at hj
  rw [Nat.zero_add, h j (by omega)]
  simp [List.getD_eq_getElem?_getD, show j < i by omega]

theorem SrcS.rest {w : World} {g : Nat} {ys : List (List UInt8)} (h : ∀ j, j < ys.length → w.cell? ⟨g, j, none⟩ = some (encStr (ys.getD j []))) (i cp : Nat) (hc : ys.length ≤ cp) (hi : i ≤ ys.length) : SrcS w (if cp = i then some ⟨g, 0, none⟩ else some ⟨g, i, none⟩) (ys.drop i) := by
  by_cases e : cp = i
  · rw [List.drop_of_length_le (by omega)]
    exact SrcS.nil _ _
  · rw [if_neg e]
    refine SrcS.of_cells fun j hj => ?_
    rw [List.length_drop] at hj
    rw [h (i + j) (by omega)]
    simp [List.getD_eq_getElem?_getD]

theorem old_blockS (g i cp B : Nat) (hg : g < B) : ∀ a, (if cp = i then some (⟨g, 0, none⟩ : Addr) else some ⟨g, i, none⟩) = some a → a.block < B := fun a e => by
  split at e <;> (cases e; exact hg)

section
variable {ops : Array Oper} {o : Oper} {a : Act} {K : Act → World → Prop} {Q : Exit → Act → World → Prop} {E : Prop} (w : World)

/-- '[]int{}' as a step. -/
theorem step_build0S (hgd : o.guard = none) (ho : o.op = .buildSlice 68 0 #[]) (N : Nat) (hN : w.heap.size = N)
    (h : ∀ w', w'.heap[N]? = some (.cells #[] 9 (0, 0)) → N < w'.heap.size → Below N w w' → K (a.put o.dst (.slice (some ⟨N, 0, none⟩) 0 0)) w') :
    if Region.wanted o (yielded ops a.tmps) = true then Oper.wp Tryz.prog o a w K Q else E := by
  have hw : Region.wanted o (yielded ops a.tmps) = true := by simp [Region.wanted, hgd]
  rw [if_pos hw]
  subst hN
  have h1 := h (w.alloc (.cells #[] 9)) (by show (w.heap.push _)[w.heap.size]? = _; simp) (by simp) ((Below.refl _ _).alloc (Nat.le_refl _) _)
  unfold Oper.wp execOp
  simp only [ho]
  go_simp
  exact h1

/-- '[]int{x}' as a step. -/
theorem step_build1S (hgd : o.guard = none) (s : Tmp) (ho : o.op = .buildSlice 68 1 #[(0, .tmp s)]) (x : List UInt8) (hs : a.eval (.tmp s) = encStr x) (N : Nat) (hN : w.heap.size = N)
    (h : ∀ w', w'.heap[N]? = some (.cells #[encStr x] 9 (0, 0)) → N < w'.heap.size → Below N w w' → K (a.put o.dst (.slice (some ⟨N, 0, none⟩) 1 1)) w') :
    if Region.wanted o (yielded ops a.tmps) = true then Oper.wp Tryz.prog o a w K Q else E := by
  have hw : Region.wanted o (yielded ops a.tmps) = true := by simp [Region.wanted, hgd]
  rw [if_pos hw]
  subst hN
  have h1 := h (w.alloc (.cells #[encStr x] 9)) (by show (w.heap.push _)[w.heap.size]? = _; simp) (by simp) ((Below.refl _ _).alloc (Nat.le_refl _) _)
  have hs' : a.tmps[s]?.getD undef = encStr x   := by simpa [Act.eval] using hs
  unfold Oper.wp execOp
  simp only [ho]
  go_simp
  exact h1

/-- append, onto a row that is new since B. -/
theorem step_appS (hgd : o.guard = none) (s x : Operand) (ho : o.op = .call { callee := .builtin .append, args := #[s, x], argTypes := #[68, 68] })
    (B : Nat) (v : Value) (n : Nat) (xs : List (List UInt8)) (hs : a.eval s = v) (hown : w.ownsRow B 9 1 v n (xs.map encStr))
    (A : Option Addr) (m c : Nat) (ys : List (List UInt8)) (hx : a.eval x = .slice A m c) (hm : ys.length = m) (hsrc : SrcS w A ys) (hn : n ≤ 1000000) (hm6 : m ≤ 1000000) (hB : B ≤ w.heap.size)
    (h : ∀ v' w', w'.ownsRow B 9 1 v' (n + m) ((xs ++ ys).map encStr) → w.grownBy w' v.ownBlock → Below B w w' → (v' = .slice none 0 0 ↔ v = .slice none 0 0 ∧ m = 0) → K (a.put o.dst v') w') :
    if Region.wanted o (yielded ops a.tmps) = true then Oper.wp Tryz.prog o a w K Q else E := by
  obtain ⟨i0, hi, hz0, hz1, hz2⟩ := info_parts info_string
  subst hm
  refine step_append_any (P := Tryz.prog) w hgd s x 68 ho B 9 i0 (.string ⟨#[]⟩) 1 16 Tryz.underlying68 hi hz0 hz1 hz2 rfl (by omega) v n (xs.map encStr) hs hown A ys.length c (ys.map encStr) hx (by simp) hsrc
    (fun u hu => by obtain ⟨y, _, rfl⟩ := List.mem_map.1 hu; rfl) (by unfold maxLen; omega) (by omega) hB ?_
  intro v' w' h1 h2 h3 h4
  refine h v' w' (by rw [List.map_append]; exact h1) h2 ?_ h3
  refine ⟨h2.os, h2.tape, h2.output, h2.size, fun k hk => h2.block k (Nat.lt_of_lt_of_le hk hB) ?_⟩
  rcases hown.2 with ⟨rfl, _⟩ | ⟨g, cap, cur, rfl, hg, _⟩
  · simp [Value.ownBlock]
  · simp [Value.ownBlock]; omega
end

end Go.Proofs.YtnkmpkhiilnigaaGreatDoor
