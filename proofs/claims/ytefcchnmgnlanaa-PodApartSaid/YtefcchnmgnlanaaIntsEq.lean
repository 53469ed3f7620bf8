/- 'ints' of two rows that hold the same numbers: true. -/
import Derived.Test.YtefcchnmgnlanaaKill
namespace Go.Proofs.Ytefcchnmgnlanaa
open Go.RowKit Go.Maps

/-- The slice at A holds the numbers xs. -/
def Reads (w : World) (A : Option Addr) (xs : List Int) : Prop := xs.length ≤ 1152921504606846976 ∧ (0 < xs.length → ∃ b o, A = some ⟨b, o, none⟩ ∧ ∀ j, j < xs.length → w.cell? ⟨b, o + j, none⟩ = some (.int .i64 (xs.getD j 0)))

theorem Row.reads {w : World} {base : Nat} {v : Value} {xs : List Int} (h : Row w base v xs) (hr : xs.length ≤ 1000) : ∃ A c, v = .slice A xs.length c ∧ Reads w A xs := by
  obtain ⟨A, c, e, hs⟩ := h.shape
  refine ⟨A, c, e, by omega, fun hp => ?_⟩
  obtain ⟨g, rfl, _, _, hc⟩ := hs hp
  exact ⟨g, 0, rfl, fun j hj => by rw [Nat.zero_add]; exact hc j hj⟩

theorem ints_same {w : World} {A B : Option Addr} {c d : Nat} {xs : List Int} (hx : Reads w A xs) (hy : Reads w B xs) :
    Calls Try.prog 18 #[.slice A xs.length c, .slice B xs.length d] w fun e w' => e = .returned (.bool true) ∧ ∃ q, w' = w.drewN q := by
  have hl := hx.1
  go_enter Try.func18, Try.ntmps18
  go_wp2_with fail
  go_loopw [5] (fun v wr => ∃ (i q : Nat), i ≤ xs.length ∧ v = .int .i64 i ∧ wr = w.drewN q) (fun v _ => xs.length - (vInt v).toNat)
  case atStart => exact ⟨0, 0, by omega, rfl, rfl⟩
  case round =>
    obtain ⟨i, q, hi, rfl, rfl⟩ := hrel
    by_cases hlt : i < xs.length
    · obtain ⟨b, o, rfl, h1⟩ := hx.2 (by omega)
      obtain ⟨b', o', rfl, h2⟩ := hy.2 (by omega)
      have c1 := h1 i hlt
      have c2 := h2 i hlt
      clear h1 h2
      generalize xs.getD i 0 = x at c1 c2
      go_wp2_with fail
      go_quiet (fail)
      go_wp2_with fail
      go_roundw
      case rel => exact ⟨i + 1, _, by omega, by go_num, rfl⟩
      case measure => simp [vInt]; omega
    · go_wp2_with fail
      go_ret
      exact ⟨rfl, q, rfl⟩

end Go.Proofs.Ytefcchnmgnlanaa
