/- RollKnown: the walk. -/
import Derived.Test.YtdbikchddonjnaaText
import Derived.Test.YtdbikchddonjnaaPureMore
import Derived.Test.YtdbikchddonjnaaMono
set_option linter.unusedSimpArgs false
set_option linter.unusedVariables false
namespace Go.Proofs.Ytdbikchddonjnaa.PA
open Go.RowKit Go.Shelf Go.Lib Go.Sort Go.Proofs.YtdbikchddonjnaaW.PrintWords Go.Proofs.YtdbikchddonjnaaW.PrintLast

def k1 : List UInt8 := [97, 45, 49]
def k2 : List UInt8 := [97, 45, 50]
def k3 : List UInt8 := [97, 45, 51]
def aK : List S39 := [⟨⟨#[97, 45, 49]⟩, 60⟩, ⟨⟨#[97, 45, 50]⟩, 40⟩]
def bK : List S39 := [⟨⟨#[97, 45, 50]⟩, 10⟩, ⟨⟨#[97, 45, 51]⟩, 90⟩]
def tK (q : Nat) : Int := match q with | 0 => 0 | 1 => 1 | 2 => 3 | 3 => 5 | 4 => 7 | 5 => 9 | _ => 10
def wK (q : Nat) : ByteArray := match q with | 0 => ⟨#[97, 45, 49, 58, 54, 48, 32, 97, 45, 50, 58, 52, 48]⟩ | 1 => ⟨#[97, 45, 49, 58, 53, 49, 32, 97, 45, 50, 58, 52, 48, 32, 97, 45, 51, 58, 57]⟩ | 2 => ⟨#[97, 45, 49, 58, 51, 51, 32, 97, 45, 50, 58, 52, 48, 32, 97, 45, 51, 58, 50, 55]⟩ | 3 => ⟨#[97, 45, 49, 58, 49, 53, 32, 97, 45, 50, 58, 52, 48, 32, 97, 45, 51, 58, 52, 53]⟩ | 4 => ⟨#[97, 45, 50, 58, 51, 55, 32, 97, 45, 51, 58, 54, 51]⟩ | 5 => ⟨#[97, 45, 50, 58, 49, 57, 32, 97, 45, 51, 58, 56, 49]⟩ | _ => ⟨#[97, 45, 50, 58, 49, 48, 32, 97, 45, 51, 58, 57, 48]⟩
def lK (q : Nat) : List S39 := match q with | 0 => [⟨⟨#[97, 45, 49]⟩, 60⟩, ⟨⟨#[97, 45, 50]⟩, 40⟩] | 1 => [⟨⟨#[97, 45, 49]⟩, 51⟩, ⟨⟨#[97, 45, 50]⟩, 40⟩, ⟨⟨#[97, 45, 51]⟩, 9⟩] | 2 => [⟨⟨#[97, 45, 49]⟩, 33⟩, ⟨⟨#[97, 45, 50]⟩, 40⟩, ⟨⟨#[97, 45, 51]⟩, 27⟩] | 3 => [⟨⟨#[97, 45, 49]⟩, 15⟩, ⟨⟨#[97, 45, 50]⟩, 40⟩, ⟨⟨#[97, 45, 51]⟩, 45⟩] | 4 => [⟨⟨#[97, 45, 50]⟩, 37⟩, ⟨⟨#[97, 45, 51]⟩, 63⟩] | 5 => [⟨⟨#[97, 45, 50]⟩, 19⟩, ⟨⟨#[97, 45, 51]⟩, 81⟩] | _ => [⟨⟨#[97, 45, 50]⟩, 10⟩, ⟨⟨#[97, 45, 51]⟩, 90⟩]
theorem namesK : namesOf (aK ++ bK) = [k1, k2, k3] := by
  have h : keys (aK ++ bK) = [k1, k2, k2, k3] := by
    simp only [keys, aK, bK, List.cons_append, List.nil_append, List.map_cons, List.map_nil, ByteArray.toList_eq]
    rfl
  unfold namesOf
  rw [h, List.mergeSort_of_pairwise (by decide)]
  decide
theorem rollK0 : rollL aK bK 0 10 = lK 0 := by
  unfold rollL
  rw [if_neg (by omega), if_pos (by omega)]; rfl
theorem rollK1 : rollL aK bK 1 10 = lK 1 := by
  unfold rollL
  rw [if_neg (by omega), if_neg (by omega), namesK]
  simp [gains, gainI, dOf, stepR, wt, aK, bK, bs, k1, k2, k3, lK, ByteArray.toList_eq]
  try rfl
theorem rollK2 : rollL aK bK 3 10 = lK 2 := by
  unfold rollL
  rw [if_neg (by omega), if_neg (by omega), namesK]
  simp [gains, gainI, dOf, stepR, wt, aK, bK, bs, k1, k2, k3, lK, ByteArray.toList_eq]
  try rfl
theorem rollK3 : rollL aK bK 5 10 = lK 3 := by
  unfold rollL
  rw [if_neg (by omega), if_neg (by omega), namesK]
  simp [gains, gainI, dOf, stepR, wt, aK, bK, bs, k1, k2, k3, lK, ByteArray.toList_eq]
  try rfl
theorem rollK4 : rollL aK bK 7 10 = lK 4 := by
  unfold rollL
  rw [if_neg (by omega), if_neg (by omega), namesK]
  simp [gains, gainI, dOf, stepR, wt, aK, bK, bs, k1, k2, k3, lK, ByteArray.toList_eq]
  try rfl
theorem rollK5 : rollL aK bK 9 10 = lK 5 := by
  unfold rollL
  rw [if_neg (by omega), if_neg (by omega), namesK]
  simp [gains, gainI, dOf, stepR, wt, aK, bK, bs, k1, k2, k3, lK, ByteArray.toList_eq]
  try rfl
theorem rollK6 : rollL aK bK 10 10 = lK 6 := by
  unfold rollL
  rw [if_pos (by omega)]; rfl
theorem rollK (q : Nat) (h : q < 7) : rollL aK bK (tK q) 10 = lK q := by
  match q, h with
  | 0, _ => exact rollK0
  | 1, _ => exact rollK1
  | 2, _ => exact rollK2
  | 3, _ => exact rollK3
  | 4, _ => exact rollK4
  | 5, _ => exact rollK5
  | 6, _ => exact rollK6
def dgK (n : Int) : ByteArray := (damperref1_Digits.f 40 n).getD ⟨#[]⟩
theorem textK (q : Nat) (h : q < 7) : textOf dgK (lK q) [] = wK q := by
  match q, h with
  | 0, _ => decide +kernel
  | 1, _ => decide +kernel
  | 2, _ => decide +kernel
  | 3, _ => decide +kernel
  | 4, _ => decide +kernel
  | 5, _ => decide +kernel
  | 6, _ => decide +kernel
theorem digK (q : Nat) (h : q < 7) : (∀ x ∈ lK q, damperref1_Digits.f 40 x.f1 = some (dgK x.f1)) ∧ (∀ x ∈ lK q, x.f0.size ≤ 100 ∧ (dgK x.f1).size ≤ 100) ∧ (lK q).length ≤ 1000 := by
  match q, h with
  | 0, _ => exact ⟨fun x hx => by simp only [lK, List.mem_cons, List.not_mem_nil, or_false] at hx; rcases hx with rfl | rfl <;> decide +kernel, fun x hx => by simp only [lK, List.mem_cons, List.not_mem_nil, or_false] at hx; rcases hx with rfl | rfl <;> decide +kernel, by decide⟩
  | 1, _ => exact ⟨fun x hx => by simp only [lK, List.mem_cons, List.not_mem_nil, or_false] at hx; rcases hx with rfl | rfl | rfl <;> decide +kernel, fun x hx => by simp only [lK, List.mem_cons, List.not_mem_nil, or_false] at hx; rcases hx with rfl | rfl | rfl <;> decide +kernel, by decide⟩
  | 2, _ => exact ⟨fun x hx => by simp only [lK, List.mem_cons, List.not_mem_nil, or_false] at hx; rcases hx with rfl | rfl | rfl <;> decide +kernel, fun x hx => by simp only [lK, List.mem_cons, List.not_mem_nil, or_false] at hx; rcases hx with rfl | rfl | rfl <;> decide +kernel, by decide⟩
  | 3, _ => exact ⟨fun x hx => by simp only [lK, List.mem_cons, List.not_mem_nil, or_false] at hx; rcases hx with rfl | rfl | rfl <;> decide +kernel, fun x hx => by simp only [lK, List.mem_cons, List.not_mem_nil, or_false] at hx; rcases hx with rfl | rfl | rfl <;> decide +kernel, by decide⟩
  | 4, _ => exact ⟨fun x hx => by simp only [lK, List.mem_cons, List.not_mem_nil, or_false] at hx; rcases hx with rfl | rfl <;> decide +kernel, fun x hx => by simp only [lK, List.mem_cons, List.not_mem_nil, or_false] at hx; rcases hx with rfl | rfl <;> decide +kernel, by decide⟩
  | 5, _ => exact ⟨fun x hx => by simp only [lK, List.mem_cons, List.not_mem_nil, or_false] at hx; rcases hx with rfl | rfl <;> decide +kernel, fun x hx => by simp only [lK, List.mem_cons, List.not_mem_nil, or_false] at hx; rcases hx with rfl | rfl <;> decide +kernel, by decide⟩
  | 6, _ => exact ⟨fun x hx => by simp only [lK, List.mem_cons, List.not_mem_nil, or_false] at hx; rcases hx with rfl | rfl <;> decide +kernel, fun x hx => by simp only [lK, List.mem_cons, List.not_mem_nil, or_false] at hx; rcases hx with rfl | rfl <;> decide +kernel, by decide⟩
theorem cellT {w : World} {g : Nat} (h : Blk w g #[.int .i64 0, .int .i64 1, .int .i64 3, .int .i64 5, .int .i64 7, .int .i64 9, .int .i64 10] 3) {q : Nat} (hq : q < 7) : w.cell? ⟨g, q, none⟩ = some (.int .i64 (tK q)) := by
  rw [h.cell]
  match q, hq with
  | 0, _ => rfl
  | 1, _ => rfl
  | 2, _ => rfl
  | 3, _ => rfl
  | 4, _ => rfl
  | 5, _ => rfl
  | 6, _ => rfl
theorem cellW {w : World} {g : Nat} (h : Blk w g #[.string ⟨#[97, 45, 49, 58, 54, 48, 32, 97, 45, 50, 58, 52, 48]⟩, .string ⟨#[97, 45, 49, 58, 53, 49, 32, 97, 45, 50, 58, 52, 48, 32, 97, 45, 51, 58, 57]⟩, .string ⟨#[97, 45, 49, 58, 51, 51, 32, 97, 45, 50, 58, 52, 48, 32, 97, 45, 51, 58, 50, 55]⟩, .string ⟨#[97, 45, 49, 58, 49, 53, 32, 97, 45, 50, 58, 52, 48, 32, 97, 45, 51, 58, 52, 53]⟩, .string ⟨#[97, 45, 50, 58, 51, 55, 32, 97, 45, 51, 58, 54, 51]⟩, .string ⟨#[97, 45, 50, 58, 49, 57, 32, 97, 45, 51, 58, 56, 49]⟩, .string ⟨#[97, 45, 50, 58, 49, 48, 32, 97, 45, 51, 58, 57, 48]⟩] 9) {q : Nat} (hq : q < 7) : w.cell? ⟨g, q, none⟩ = some (.string (wK q)) := by
  rw [h.cell]
  match q, hq with
  | 0, _ => rfl
  | 1, _ => rfl
  | 2, _ => rfl
  | 3, _ => rfl
  | 4, _ => rfl
  | 5, _ => rfl
  | 6, _ => rfl
theorem c_two {w : World} {g : Nat} {x y : S39} (h : Blk w g #[.string x.f0, .int .i64 x.f1, .string y.f0, .int .i64 y.f1] 39) : Kd.C k39 w (some ⟨g, 0, none⟩) 2 [x, y] := by
  have e : ∀ n, (⟨g, 0, none⟩ : Addr).add n = ⟨g, n, none⟩ := fun n => by rw [add_at, Nat.zero_add]
  refine ⟨rfl, by decide, fun _ => ⟨⟨g, 0, none⟩, rfl, fun j p hj => ?_⟩⟩
  match j, hj with
  | 0, hj =>
    simp at hj
    subst hj
    refine ⟨[.string x.f0, .int .i64 x.f1], rfl, k39.K_of_M (k39_mkM w 0 (fun _ => True) x), fun i u hu => ?_⟩
    rw [e, h.cell]
    match i, hu with
    | 0, hu => simpa using hu
    | 1, hu => simpa using hu
  | 1, hj =>
    simp at hj
    subst hj
    refine ⟨[.string y.f0, .int .i64 y.f1], rfl, k39.K_of_M (k39_mkM w 0 (fun _ => True) y), fun i u hu => ?_⟩
    rw [e, h.cell]
    match i, hu with
    | 0, hu => exact hu
    | 1, hu => exact hu

set_option maxRecDepth 100000 in
set_option maxHeartbeats 8000000 in
theorem known_law (a0 : Int) (w : World) :
    Calls Try.prog 8 #[.int .i64 a0] w fun e w' => e = .returned (.bool true) ∧ Below w.heap.size w w' := by
  have h7 := Lib.hid (within6 a0 7 (by omega) (by omega))
  have q0 := Int.emod_nonneg a0 (b := 7) (by omega)
  have q1 := Int.emod_lt_of_pos a0 (b := 7) (by omega)
  go_enter Try.func8, Try.ntmps8
  go_wp2_with fail
  refine (damperlaw6_known.calls true _ known_f).mono ?_
  rintro e w1 ⟨rfl, hb1⟩
  obtain ⟨g, hg⟩ : ∃ g, g = w1.heap.size := ⟨_, rfl⟩
  obtain ⟨W, hW⟩ : ∃ W, W = (((w1.alloc (.cells #[.string ⟨#[97, 45, 49]⟩, .int .i64 60, .string ⟨#[97, 45, 50]⟩, .int .i64 40] 39)).alloc (.cells #[.string ⟨#[97, 45, 50]⟩, .int .i64 10, .string ⟨#[97, 45, 51]⟩, .int .i64 90] 39)).alloc (.cells #[.int .i64 0, .int .i64 1, .int .i64 3, .int .i64 5, .int .i64 7, .int .i64 9, .int .i64 10] 3)).alloc (.cells #[.string ⟨#[97, 45, 49, 58, 54, 48, 32, 97, 45, 50, 58, 52, 48]⟩, .string ⟨#[97, 45, 49, 58, 53, 49, 32, 97, 45, 50, 58, 52, 48, 32, 97, 45, 51, 58, 57]⟩, .string ⟨#[97, 45, 49, 58, 51, 51, 32, 97, 45, 50, 58, 52, 48, 32, 97, 45, 51, 58, 50, 55]⟩, .string ⟨#[97, 45, 49, 58, 49, 53, 32, 97, 45, 50, 58, 52, 48, 32, 97, 45, 51, 58, 52, 53]⟩, .string ⟨#[97, 45, 50, 58, 51, 55, 32, 97, 45, 51, 58, 54, 51]⟩, .string ⟨#[97, 45, 50, 58, 49, 57, 32, 97, 45, 51, 58, 56, 49]⟩, .string ⟨#[97, 45, 50, 58, 49, 48, 32, 97, 45, 51, 58, 57, 48]⟩] 9) := ⟨_, rfl⟩
  have bW : Below w1.heap.size w1 W := by rw [hW]; exact ((((Below.refl _ _).alloc (Nat.le_refl _) _).alloc (by simp) _).alloc (by simp; omega) _).alloc (by simp; omega) _
  have ka : Blk W g #[.string ⟨#[97, 45, 49]⟩, .int .i64 60, .string ⟨#[97, 45, 50]⟩, .int .i64 40] 39 := by rw [hW, hg]; exact (((Blk.new _ _ _).alloc _).alloc _).alloc _
  have kb : Blk W (g + 1) #[.string ⟨#[97, 45, 50]⟩, .int .i64 10, .string ⟨#[97, 45, 51]⟩, .int .i64 90] 39 := by
    rw [hW, hg]
    have := ((Blk.new (w1.alloc (.cells #[.string ⟨#[97, 45, 49]⟩, .int .i64 60, .string ⟨#[97, 45, 50]⟩, .int .i64 40] 39)) #[.string ⟨#[97, 45, 50]⟩, .int .i64 10, .string ⟨#[97, 45, 51]⟩, .int .i64 90] 39).alloc (.cells #[.int .i64 0, .int .i64 1, .int .i64 3, .int .i64 5, .int .i64 7, .int .i64 9, .int .i64 10] 3)).alloc (.cells #[.string ⟨#[97, 45, 49, 58, 54, 48, 32, 97, 45, 50, 58, 52, 48]⟩, .string ⟨#[97, 45, 49, 58, 53, 49, 32, 97, 45, 50, 58, 52, 48, 32, 97, 45, 51, 58, 57]⟩, .string ⟨#[97, 45, 49, 58, 51, 51, 32, 97, 45, 50, 58, 52, 48, 32, 97, 45, 51, 58, 50, 55]⟩, .string ⟨#[97, 45, 49, 58, 49, 53, 32, 97, 45, 50, 58, 52, 48, 32, 97, 45, 51, 58, 52, 53]⟩, .string ⟨#[97, 45, 50, 58, 51, 55, 32, 97, 45, 51, 58, 54, 51]⟩, .string ⟨#[97, 45, 50, 58, 49, 57, 32, 97, 45, 51, 58, 56, 49]⟩, .string ⟨#[97, 45, 50, 58, 49, 48, 32, 97, 45, 51, 58, 57, 48]⟩] 9)
    simpa using this
  have kt : Blk W (g + 1 + 1) #[.int .i64 0, .int .i64 1, .int .i64 3, .int .i64 5, .int .i64 7, .int .i64 9, .int .i64 10] 3 := by
    rw [hW, hg]
    have := (Blk.new ((w1.alloc (.cells #[.string ⟨#[97, 45, 49]⟩, .int .i64 60, .string ⟨#[97, 45, 50]⟩, .int .i64 40] 39)).alloc (.cells #[.string ⟨#[97, 45, 50]⟩, .int .i64 10, .string ⟨#[97, 45, 51]⟩, .int .i64 90] 39)) #[.int .i64 0, .int .i64 1, .int .i64 3, .int .i64 5, .int .i64 7, .int .i64 9, .int .i64 10] 3).alloc (.cells #[.string ⟨#[97, 45, 49, 58, 54, 48, 32, 97, 45, 50, 58, 52, 48]⟩, .string ⟨#[97, 45, 49, 58, 53, 49, 32, 97, 45, 50, 58, 52, 48, 32, 97, 45, 51, 58, 57]⟩, .string ⟨#[97, 45, 49, 58, 51, 51, 32, 97, 45, 50, 58, 52, 48, 32, 97, 45, 51, 58, 50, 55]⟩, .string ⟨#[97, 45, 49, 58, 49, 53, 32, 97, 45, 50, 58, 52, 48, 32, 97, 45, 51, 58, 52, 53]⟩, .string ⟨#[97, 45, 50, 58, 51, 55, 32, 97, 45, 51, 58, 54, 51]⟩, .string ⟨#[97, 45, 50, 58, 49, 57, 32, 97, 45, 51, 58, 56, 49]⟩, .string ⟨#[97, 45, 50, 58, 49, 48, 32, 97, 45, 51, 58, 57, 48]⟩] 9)
    simpa [Nat.add_assoc] using this
  have kw : Blk W (g + 1 + 1 + 1) #[.string ⟨#[97, 45, 49, 58, 54, 48, 32, 97, 45, 50, 58, 52, 48]⟩, .string ⟨#[97, 45, 49, 58, 53, 49, 32, 97, 45, 50, 58, 52, 48, 32, 97, 45, 51, 58, 57]⟩, .string ⟨#[97, 45, 49, 58, 51, 51, 32, 97, 45, 50, 58, 52, 48, 32, 97, 45, 51, 58, 50, 55]⟩, .string ⟨#[97, 45, 49, 58, 49, 53, 32, 97, 45, 50, 58, 52, 48, 32, 97, 45, 51, 58, 52, 53]⟩, .string ⟨#[97, 45, 50, 58, 51, 55, 32, 97, 45, 51, 58, 54, 51]⟩, .string ⟨#[97, 45, 50, 58, 49, 57, 32, 97, 45, 51, 58, 56, 49]⟩, .string ⟨#[97, 45, 50, 58, 49, 48, 32, 97, 45, 51, 58, 57, 48]⟩] 9 := by
    rw [hW, hg]
    have := Blk.new (((w1.alloc (.cells #[.string ⟨#[97, 45, 49]⟩, .int .i64 60, .string ⟨#[97, 45, 50]⟩, .int .i64 40] 39)).alloc (.cells #[.string ⟨#[97, 45, 50]⟩, .int .i64 10, .string ⟨#[97, 45, 51]⟩, .int .i64 90] 39)).alloc (.cells #[.int .i64 0, .int .i64 1, .int .i64 3, .int .i64 5, .int .i64 7, .int .i64 9, .int .i64 10] 3)) #[.string ⟨#[97, 45, 49, 58, 54, 48, 32, 97, 45, 50, 58, 52, 48]⟩, .string ⟨#[97, 45, 49, 58, 53, 49, 32, 97, 45, 50, 58, 52, 48, 32, 97, 45, 51, 58, 57]⟩, .string ⟨#[97, 45, 49, 58, 51, 51, 32, 97, 45, 50, 58, 52, 48, 32, 97, 45, 51, 58, 50, 55]⟩, .string ⟨#[97, 45, 49, 58, 49, 53, 32, 97, 45, 50, 58, 52, 48, 32, 97, 45, 51, 58, 52, 53]⟩, .string ⟨#[97, 45, 50, 58, 51, 55, 32, 97, 45, 51, 58, 54, 51]⟩, .string ⟨#[97, 45, 50, 58, 49, 57, 32, 97, 45, 51, 58, 56, 49]⟩, .string ⟨#[97, 45, 50, 58, 49, 48, 32, 97, 45, 51, 58, 57, 48]⟩] 9
    simpa [Nat.add_assoc] using this
  have BW := Lib.hid (tx_step hb1 bW)
  have KA := Lib.hid ka
  have KB := Lib.hid kb
  have KT := Lib.hid kt
  have KW := Lib.hid kw
  clear ka kb kt kw bW hb1
  go_upto_region 7 with fail
  rw [← hW, ← hg]
  clear hW hg
  go_wp2_with fail
  refine (damperlaw6_within.calls a0 7 (a0 % 7) _ h7.out).mono ?_
  rintro e w2 ⟨rfl, hd2⟩
  have hb2 := hd2.below
  have B2 := Lib.hid (tx_step BW.out hb2)
  have KA2 := Lib.hid (KA.out.below hb2 KA.out.lt)
  have KB2 := Lib.hid (KB.out.below hb2 KB.out.lt)
  have KT2 := Lib.hid (KT.out.below hb2 KT.out.lt)
  have KW2 := Lib.hid (KW.out.below hb2 KW.out.lt)
  clear hd2 hb2 h7 BW KA KB KT KW
  generalize a0 % 7 = qz at q0 q1 ⊢
  obtain ⟨q, rfl⟩ := Int.eq_ofNat_of_zero_le q0
  have hq : q < 7 := by omega
  have hqi : (q : Int) < 7 := by omega
  have dr := (Below.refl w2.heap.size w2).drew
  have B3 := Lib.hid (tx_step B2.out dr)
  have KA3 := Lib.hid (KA2.out.below dr KA2.out.lt)
  have KB3 := Lib.hid (KB2.out.below dr KB2.out.lt)
  have KT3 := Lib.hid (KT2.out.below dr KT2.out.lt)
  have KW3 := Lib.hid (KW2.out.below dr KW2.out.lt)
  clear dr B2 KA2 KB2 KT2 KW2 q0 q1
  have CA := Lib.hid (show Kd.C k39 w2.drew (some ⟨g, 0, none⟩) 2 aK from c_two KA3.out)
  have CB := Lib.hid (show Kd.C k39 w2.drew (some ⟨g + 1, 0, none⟩) 2 bK from c_two KB3.out)
  have hfa : Fine aK := ⟨by decide, fun s hs => by simp only [aK, List.mem_cons, List.not_mem_nil, or_false] at hs; rcases hs with rfl | rfl <;> decide⟩
  have hfb : Fine bK := ⟨by decide, fun s hs => by simp only [bK, List.mem_cons, List.not_mem_nil, or_false] at hs; rcases hs with rfl | rfl <;> decide⟩
  have HTX := Lib.hid (textK q hq)
  have HTC := Lib.hid (fun (A4 : Option Addr) (c4 : Nat) (w4 : World) (h : Kd.C k39 w4 A4 (lK q).length (lK q)) => (show Calls Try.prog 22 #[.agg #[.slice A4 (lK q).length c4, .slice none 0 0]] w4 (fun e w' => e = .returned (.string (textOf dgK (lK q) [])) ∧ Below w4.heap.size w4 w') from text_calls (c := c4) (d := 0) (tg := []) dgK w4 h (Kd.C_nil _ _) (digK q hq).1 (digK q hq).2.1 (fun x hx => by simp at hx) (digK q hq).2.2 (by simp)))
  have hsc : Calls Try.prog 16 #[.slice (some ⟨g, 0, none⟩) 2 2, .slice (some ⟨g + 1, 0, none⟩) 2 2, .int .i64 (tK q), .int .i64 10] w2.drew fun e w' => ∃ v, e = .returned v ∧ RowG el39 w' w2.drew.heap.size v (lK q) ∧ Below w2.drew.heap.size w2.drew w' := by
    have := shares_calls (some ⟨g, 0, none⟩) 2 aK (some ⟨g + 1, 0, none⟩) 2 bK (tK q) 10 w2.drew CA.out CB.out hfa hfb (by omega)
    rw [rollK q hq] at this
    exact this
  have HSC := Lib.hid hsc
  clear hfa hfb hsc
  obtain ⟨tq, htq⟩ : ∃ tq, tq = tK q := ⟨_, rfl⟩
  obtain ⟨wq, hwq⟩ : ∃ wq, wq = wK q := ⟨_, rfl⟩
  have CT := Lib.hid (show ∀ w', Below w2.drew.heap.size w2.drew w' → w'.cell? ⟨g + 1 + 1, q, none⟩ = some (.int .i64 tq) ∧ w'.cell? ⟨g + 1 + 1 + 1, q, none⟩ = some (.string wq) from fun w' hb => ⟨htq ▸ cellT (KT3.out.below hb KT3.out.lt) hq, hwq ▸ cellW (KW3.out.below hb KW3.out.lt) hq⟩)
  rw [← htq] at HSC
  rw [← hwq] at HTX
  clear htq hwq KA3 KB3 KT3 KW3
  go_wp2_with fail
  refine start_ (n := 15) (S := fun w' => w'.cell? ⟨g + 1 + 1, q, none⟩ = some (.int .i64 tq) ∧ w'.cell? ⟨g + 1 + 1 + 1, q, none⟩ = some (.string wq)) (ds := []) #[false, false, false, false, false, false, false, false, false, false, false, false, false, false, false] (by kernel_rfl) rfl rfl ⟨(CT.out _ (Below.refl _ _)).1, (CT.out _ (Below.refl _ _)).2⟩ (fun hHeld => ?_)
  refine pure_ (i := 0) (N := some 22) (v := ?_) (a' := ?_) #[true, false, false, false, false, false, false, false, false, false, false, false, false, false, false] rfl rfl (by kernel_rfl) (fun _ _ _ h => h) (Or.inl ⟨by rfl, ?_⟩) ?_ ?_
  rotate_left
  · intro w'
    go_simp
    with_reducible rfl
  rotate_left
  · simp only [Act.put, List.setIfInBounds_toArray, List.set_cons_zero, List.set_cons_succ]
    rfl
  refine pure_ (i := 1) (N := some 23) (v := ?_) (a' := ?_) #[true, true, false, false, false, false, false, false, false, false, false, false, false, false, false] rfl rfl (by kernel_rfl) (fun _ _ _ h => h) (Or.inl ⟨by rfl, ?_⟩) ?_ ?_
  rotate_left
  · intro w'
    go_simp
    with_reducible rfl
  rotate_left
  · simp only [Act.put, List.setIfInBounds_toArray, List.set_cons_zero, List.set_cons_succ]
    rfl
  refine pure_ (i := 2) (N := some 24) (v := ?_) (a' := ?_) #[true, true, true, false, false, false, false, false, false, false, false, false, false, false, false] rfl rfl (by kernel_rfl) (fun _ _ _ h => h) (Or.inl ⟨by rfl, ?_⟩) ?_ ?_
  rotate_left
  · intro w'
    go_simp
    with_reducible rfl
  rotate_left
  · simp only [Act.put, List.setIfInBounds_toArray, List.set_cons_zero, List.set_cons_succ]
    rfl
  refine pure_ (i := 3) (N := some 25) (v := ?_) (a' := ?_) #[true, true, true, true, false, false, false, false, false, false, false, false, false, false, false] rfl rfl (by kernel_rfl) (fun _ _ _ h => h) (Or.inl ⟨by rfl, ?_⟩) ?_ ?_
  rotate_left
  · intro w'
    go_simp
    with_reducible rfl
  rotate_left
  · simp only [Act.put, List.setIfInBounds_toArray, List.set_cons_zero, List.set_cons_succ]
    rfl
  refine pure_ (i := 4) (N := some 26) (v := ?_) (a' := ?_) #[true, true, true, true, true, false, false, false, false, false, false, false, false, false, false] rfl rfl (by kernel_rfl) (fun _ _ _ h => h) (Or.inl ⟨by rfl, ?_⟩) ?_ ?_
  rotate_left
  · intro w'
    go_simp
    with_reducible rfl
  rotate_left
  · simp only [Act.put, List.setIfInBounds_toArray, List.set_cons_zero, List.set_cons_succ]
    rfl
  refine pure_ (i := 9) (N := some 31) (v := ?_) (a' := ?_) #[true, true, true, true, true, false, false, false, false, true, false, false, false, false, false] rfl rfl (by kernel_rfl) (fun _ _ _ h => h) (Or.inl ⟨by rfl, ?_⟩) ?_ ?_
  rotate_left
  · intro w'
    go_simp
    with_reducible rfl
  rotate_left
  · simp only [Act.put, List.setIfInBounds_toArray, List.set_cons_zero, List.set_cons_succ]
    rfl
  refine pure_ (i := 10) (N := some 32) (v := ?_) (a' := ?_) #[true, true, true, true, true, false, false, false, false, true, true, false, false, false, false] rfl rfl (by kernel_rfl) (fun _ _ _ h => h) (Or.inl ⟨by rfl, ?_⟩) ?_ ?_
  rotate_left
  · intro w'
    go_simp
    with_reducible rfl
  rotate_left
  · simp only [Act.put, List.setIfInBounds_toArray, List.set_cons_zero, List.set_cons_succ]
    rfl
  refine pure_ (i := 11) (N := some 33) (v := ?_) (a' := ?_) #[true, true, true, true, true, false, false, false, false, true, true, true, false, false, false] rfl rfl (by kernel_rfl) (fun _ _ _ h => h) (Or.inl ⟨by rfl, ?_⟩) ?_ ?_
  rotate_left
  · intro w'
    go_simp
    with_reducible rfl
  rotate_left
  · simp only [Act.put, List.setIfInBounds_toArray, List.set_cons_zero, List.set_cons_succ]
    rfl
  refine take_ (i := 5) (N := some 27) (v := ?_) (a' := ?_) #[true, true, true, true, true, true, false, false, false, true, true, true, false, false, false] rfl rfl (by kernel_rfl) (fun _ _ _ h => h) (Or.inl ⟨by rfl, ?_⟩) hHeld ?_ ?_
  rotate_left
  · rintro w' ⟨s0, s1⟩
    go_simp
    with_reducible rfl
  rotate_left
  · simp only [Act.put, List.setIfInBounds_toArray, List.set_cons_zero, List.set_cons_succ]
    rfl
  refine take_ (i := 12) (N := some 34) (v := ?_) (a' := ?_) #[true, true, true, true, true, true, false, false, false, true, true, true, true, false, false] rfl rfl (by kernel_rfl) (fun _ _ _ h => h) (Or.inl ⟨by rfl, ?_⟩) hHeld ?_ ?_
  rotate_left
  · rintro w' ⟨s0, s1⟩
    go_simp
    with_reducible rfl
  rotate_left
  · simp only [Act.put, List.setIfInBounds_toArray, List.set_cons_zero, List.set_cons_succ]
    rfl
  refine one_ (i := 6) (N := some 28) #[true, true, true, true, true, true, true, false, false, true, true, true, true, false, false] rfl rfl (by kernel_rfl) (by decide) (fun K hK => ?_)
  refine goes_ Try.func16 (by kernel_rfl) rfl #[.slice (some ⟨g, 0, none⟩) 2 2, .slice (some ⟨g + 1, 0, none⟩) 2 2, .int .i64 tq, .int .i64 10] (by rfl) rfl rfl (by simp only [List.map_toArray, List.map_cons, List.map_nil]; rfl) ?_
  with_reducible refine (HSC.out).mono ?_
  rintro e w4 ⟨v4, rfl, r4, hb4⟩
  obtain ⟨A4, c4, rfl, hc4, hC4⟩ := Kd.R_reads (RowG.toR r4)
  have C4 := Lib.hid hC4
  clear r4 hC4
  refine ⟨_, rfl, ?_⟩
  refine hK.out _ _ ⟨(CT.out _ hb4).1, (CT.out _ hb4).2⟩ (fun hHeld => ?_)
  clear hK K
  refine norm_ (a' := ?_) ?_ ?_
  rotate_left
  · show Act.put _ (some 28) _ = _
    simp only [Act.put, List.setIfInBounds_toArray, List.set_cons_zero, List.set_cons_succ]
    rfl
  refine pure_ (i := 7) (N := some 29) (v := ?_) (a' := ?_) #[true, true, true, true, true, true, true, true, false, true, true, true, true, false, false] rfl rfl (by kernel_rfl) (fun _ _ _ h => h) (Or.inl ⟨by rfl, ?_⟩) ?_ ?_
  rotate_left
  · intro w'
    go_simp
    with_reducible rfl
  rotate_left
  · simp only [Act.put, List.setIfInBounds_toArray, List.set_cons_zero, List.set_cons_succ]
    rfl
  refine one_ (i := 8) (N := some 30) #[true, true, true, true, true, true, true, true, true, true, true, true, true, false, false] rfl rfl (by kernel_rfl) (by decide) (fun K hK => ?_)
  refine goes_ Try.func22 (by kernel_rfl) rfl #[.agg #[.slice A4 (lK q).length c4, .slice none 0 0]] (by rfl) rfl rfl (by simp only [List.map_toArray, List.map_cons, List.map_nil]; rfl) ?_
  with_reducible refine (HTC.out A4 c4 _ C4.out).mono ?_
  rintro e w5 ⟨rfl, hb5⟩
  rw [HTX.out]
  have b5 := tx_step hb4 hb5
  refine ⟨_, rfl, ?_⟩
  refine hK.out _ _ ⟨(CT.out _ b5).1, (CT.out _ b5).2⟩ (fun hHeld => ?_)
  clear hK K
  refine norm_ (a' := ?_) ?_ ?_
  rotate_left
  · show Act.put _ (some 30) _ = _
    simp only [Act.put, List.setIfInBounds_toArray, List.set_cons_zero, List.set_cons_succ]
    rfl
  refine pure_ (i := 13) (N := some 35) (v := ?_) (a' := ?_) #[true, true, true, true, true, true, true, true, true, true, true, true, true, true, false] rfl rfl (by kernel_rfl) (fun _ _ _ h => h) (Or.inl ⟨by rfl, ?_⟩) ?_ ?_
  rotate_left
  · intro w'
    go_simp
    with_reducible rfl
  rotate_left
  · simp only [Act.put, List.setIfInBounds_toArray, List.set_cons_zero, List.set_cons_succ]
    rfl
  refine pure_ (i := 14) (N := some 2) (v := ?_) (a' := ?_) #[true, true, true, true, true, true, true, true, true, true, true, true, true, true, true] rfl rfl (by kernel_rfl) (fun _ _ _ h => h) (Or.inl ⟨by rfl, ?_⟩) ?_ ?_
  rotate_left
  · intro w'
    go_simp
    with_reducible rfl
  rotate_left
  · simp only [Act.put, List.setIfInBounds_toArray, List.set_cons_zero, List.set_cons_succ]
    rfl
  refine done_ (by kernel_rfl) ?_
  go_wp2_with fail
  go_ret
  exact ⟨rfl, tx_step B3.out b5⟩

end Go.Proofs.Ytdbikchddonjnaa.PA
