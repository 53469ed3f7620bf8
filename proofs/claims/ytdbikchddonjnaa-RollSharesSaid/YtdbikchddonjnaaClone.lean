/- slices.Clone at Shares; rows of Shares of the call's own, in both words. -/
import Derived.Test.YtdbikchddonjnaaSorted
namespace Go.Proofs.Ytdbikchddonjnaa.PA
open Go.RowKit Go.Shelf Go.Lib Go.Sort Go.Proofs.YtdbikchddonjnaaW.PrintWords Go.Proofs.YtdbikchddonjnaaW.PrintLast

/-- Shares. -/
def el39 : El Try.prog S39 := ⟨23, 39, enc39, 2, 24, .agg #[.string ⟨#[]⟩, .int .i64 0], Try.underlying23, info39, rfl, by omega, by omega, fun _ => rfl, fun x u hu => by
  rcases List.mem_cons.1 hu with h | h
  · rw [h]; rfl
  · rw [List.mem_singleton.1 h]; rfl⟩

theorem drop_take_39 (xs : List S39) (j : Nat) (hj : j < xs.length) : ((xs.flatMap el39.enc).drop (j * 2)).take 2 = enc39 xs[j] := by
  apply List.ext_getElem?
  intro i
  by_cases hi : i < 2
  · rw [List.getElem?_take_of_lt hi, List.getElem?_drop]
    exact El.at_ el39 xs j hj i hi
  · rw [List.getElem?_take_eq_none (by omega), List.getElem?_eq_none (by show 2 ≤ i; omega)]

/-- In the print's words. -/
theorem RowG.toR {w : World} {base : Nat} {v : Value} {xs : List S39} (h : RowG el39 w base v xs) : Kd.R k39 39 w base (fun _ => True) v xs := by
  refine ⟨fun _ _ => trivial, xs.flatMap el39.enc, h, El.len el39 xs, fun j p hj => ?_⟩
  have hlt : j < xs.length := (List.getElem?_eq_some_iff.1 hj).1
  have hp : xs[j] = p := (List.getElem?_eq_some_iff.1 hj).2
  have := drop_take_39 xs j hlt
  rw [hp] at this
  show k39.M _ _ _ p (((xs.flatMap el39.enc).drop (j * 2)).take 2)
  rw [this]
  exact k39_mkM _ _ _ p

theorem RowG.toC {w : World} {base : Nat} {v : Value} {xs : List S39} (h : RowG el39 w base v xs) : ∃ A c, v = .slice A xs.length c ∧ xs.length ≤ c ∧ Kd.C k39 w A xs.length xs := Kd.R_reads (RowG.toR h)

/-- Shares that are read, as a source of an append. -/
theorem src_of_C {w : World} {A : Option Addr} {xs : List S39} (h : Kd.C k39 w A xs.length xs) : SrcG el39 w A xs := fun hp => by
  obtain ⟨b, o, rfl, _, hc⟩ := shares_at h hp
  refine ⟨_, rfl, fun j u hu => ?_⟩
  rw [add_at]
  have hlt : j < xs.length * 2 := by
    have := (List.getElem?_eq_some_iff.1 hu).1
    rwa [El.len el39 xs] at this
  have hj : j / 2 < xs.length := by omega
  obtain ⟨h1, h2⟩ := hc (j / 2) hj
  have hg : xs.getD (j / 2) z39 = xs[j / 2] := by simp [List.getD_eq_getElem?_getD, hj]
  rw [hg] at h1 h2
  have hat := El.at_ el39 xs (j / 2) hj (j % 2) (show j % 2 < 2 by omega)
  rw [show j / 2 * el39.size + j % 2 = j from by show j / 2 * 2 + j % 2 = j; omega, hu] at hat
  rcases (show j % 2 = 0 ∨ j % 2 = 1 by omega) with e | e
  · rw [e] at hat
    have : u = .string xs[j / 2].f0 := by simpa [el39, enc39] using hat
    rw [this, show o + j = o + j / 2 * 2 by omega]
    exact h1
  · rw [e] at hat
    have : u = .int .i64 xs[j / 2].f1 := by simpa [el39, enc39] using hat
    rw [this, show o + j = o + j / 2 * 2 + 1 by omega]
    exact h2

theorem src_lt {w : World} {A : Option Addr} {xs : List S39} (h : Kd.C k39 w A xs.length xs) {w' : World} (hb : Below w.heap.size w w') : SrcG el39 w' A xs := src_of_C (Kd.C_below h hb)

theorem clone_calls (A : Option Addr) (c : Nat) (xs : List S39) (w : World) (h : Kd.C k39 w A xs.length xs) (hl : xs.length ≤ 100000) :
    Calls Try.prog 24 #[.slice A xs.length c] w fun e w' => ∃ v, e = .returned v ∧ RowG el39 w' w.heap.size v xs ∧ Below w.heap.size w w' := by
  cases A with
  | none =>
    have hx : xs = [] := by
      cases xs with
      | nil => rfl
      | cons y t => obtain ⟨b, o, e, _⟩ := shares_at h (by simp); cases e
    subst hx
    have q22 : ∀ (w : World) (a : Option Addr) (n c n' c' : Nat), (binOp .eql 23 (.slice a n c) (.slice none n' c')).run Try.prog w = .ok (.bool a.isNone) w := fun w a n c n' c' => Lib.run_eql_slice_nil w _ _ a n c n' c' Try.underlying23
    go_enter Try.func24, Try.ntmps24
    go_wp2_with fail
    go_ret
    exact ⟨_, rfl, RowG.nil _ _ _, Below.refl _ _⟩
  | some a =>
    have b1 : Below w.heap.size w (w.alloc (.cells #[] 39)) := (Below.refl _ _).alloc (Nat.le_refl _) _
    have hrow : RowG el39 (w.alloc (.cells #[] 39)) w.heap.size (.slice (some ⟨w.heap.size, 0, none⟩) 0 0) [] := owns_empty (Nat.le_refl _) (by show (w.heap.push _)[w.heap.size]? = _; simp [el39])
    have hsrc := src_lt h b1
    have hsz : w.heap.size ≤ (w.alloc (.cells #[] 39)).heap.size := b1.size
    clear h
    have q22 : ∀ (w : World) (a : Option Addr) (n c n' c' : Nat), (binOp .eql 23 (.slice a n c) (.slice none n' c')).run Try.prog w = .ok (.bool a.isNone) w := fun w a n c n' c' => Lib.run_eql_slice_nil w _ _ a n c n' c' Try.underlying23
    go_enter Try.func24, Try.ntmps24
    go_wp2_with (at_builtin; refine list_appG el39 _ rfl (.tmp 5) (.tmp 6) rfl w.heap.size _ [] (by rfl) hrow (some a) xs.length c xs (by rfl) rfl hsrc (by simp) (by omega) hsz ?_; intro v' w' r3 b3 z3)
    go_ret
    exact ⟨_, rfl, r3, b1.trans b3⟩

end Go.Proofs.Ytdbikchddonjnaa.PA
