/- The lead law's known, tables that are the same (doors). -/
import Derived.Test.YtnkmpkhiilnigaaGreatDoorGTurn
import Derived.Test.YtnkmpkhiilnigaaGreatDoorGTabs
set_option linter.unusedSimpArgs false
set_option linter.unusedVariables false
namespace Go.Proofs.YtnkmpkhiilnigaaGreatDoor.PA
open Go.RowKit Go.Shelf Go.Lib Go.Sort Go.Proofs.YtnkmpkhiilnigaaGreatDoorW.PrintWords Go.Proofs.YtnkmpkhiilnigaaGreatDoorW.PrintLast

/-- The tags are the same as themselves. -/
theorem same_tags (sh : List S51) (l : List S83) (hl : l.length ≤ 1000000) : ∀ m i : Nat, i + m = l.length → damperref5_Same.l0 (m + 1) (i : Int) sh l sh l = some true := by
  intro m
  induction m with
  | zero =>
    intro i hi
    unfold damperref5_Same.l0
    rw [if_neg (by omega)]
  | succ m ih =>
    intro i hi
    unfold damperref5_Same.l0
    rw [if_pos (by omega), if_pos (by omega), if_pos (by omega), if_neg (by simp), w64 (by omega) (by omega)]
    have := ih (i + 1) (by omega)
    rw [show ((i + 1 : Nat) : Int) = (i : Int) + 1 by omega] at this
    exact this
theorem same_j0 (k : Nat) (sh : List S51) (tg : List S83) : damperref5_Same.j0 (k + 1) false sh tg sh tg = damperref5_Same.l0 k 0 sh tg sh tg := by
  simp only [damperref5_Same.j0]
  rw [if_neg (by decide)]
theorem sameT_f {sh : List S51} {tg : List S83} (h0 : sh.length ≤ 100000) (h1 : tg.length ≤ 100000) : damperref5_Same.f (sh.length + tg.length + 2) sh tg sh tg = some true := by
  unfold damperref5_Same.f
  rw [same_f (by omega) _ (by omega), Option.bind_some, if_pos rfl, show ((tg.length : Int) != (tg.length : Int)) = false by simp]
  rw [show sh.length + tg.length + 2 = (sh.length + tg.length + 1) + 1 from rfl, same_j0]
  refine le_up (fun k => damperref5_Same.l0 k 0 sh tg sh tg) (fun k => (damperref5_Same.mono_l k).2 0 sh tg sh tg) (k := tg.length + 1) ?_ (sh.length + tg.length + 1) (by omega)
  have := same_tags sh tg (by omega) tg.length 0 (by omega)
  exact this
/-- Two tables that are the same. -/
theorem sameS {A : Option Addr} {c : Nat} {sh : List S51} {B : Option Addr} {d : Nat} {tg : List S83} {A' : Option Addr} {c' : Nat} {sh' : List S51} {B' : Option Addr} {d' : Nat} {tg' : List S83} (w : World)
    (h0 : Kd.C k51 w A sh.length sh) (l0 : sh.length ≤ c) (h1 : Kd.C k83 w B tg.length tg) (l1 : tg.length ≤ d) (h2 : Kd.C k51 w A' sh'.length sh') (l2 : sh'.length ≤ c') (h3 : Kd.C k83 w B' tg'.length tg') (l3 : tg'.length ≤ d')
    (hs : sh.length ≤ 100000) (ht : tg.length ≤ 100000) (e1 : sh = sh') (e2 : tg = tg') :
    Calls Tryz.prog 9 #[.agg #[.slice A sh.length c, .slice B tg.length d], .agg #[.slice A' sh'.length c', .slice B' tg'.length d']] w fun e w' => e = .returned (.bool true) ∧ Below w.heap.size w w' :=
  damperref5_Same.calls (sh.length + tg.length + 2) A c sh B d tg A' c' sh' B' d' tg' true w h0 l0 h1 l1 h2 l2 h3 l3 (by subst e1; subst e2; exact sameT_f hs ht)
/-- One Share that lies in a block. -/
theorem c_one {w : World} {g : Nat} {x : S51} (h : Blk w g #[.string x.f0, .int .i64 x.f1] 51) : Kd.C k51 w (some ⟨g, 0, none⟩) 1 [x] := by
  refine ⟨rfl, by decide, fun _ => ⟨⟨g, 0, none⟩, rfl, fun j p hj => ?_⟩⟩
  match j, hj with
  | 0, hj =>
    simp at hj
    subst hj
    refine ⟨[.string x.f0, .int .i64 x.f1], rfl, k51.K_of_M (k51_mkM w 0 (fun _ => True) x), fun i u hu => ?_⟩
    have e : (⟨g, 0, none⟩ : Addr).add (0 * k51.sz + i) = ⟨g, i, none⟩ := by unfold Addr.add; split <;> simp_all
    rw [e, h.cell i]
    simpa using hu
/-- The chapter's example. -/
def sA : List S51 := [⟨⟨#[97, 45, 49]⟩, 100⟩]
theorem sA_fine : Fine sA := ⟨by decide, fun s hs => by rw [List.mem_singleton.1 hs]; exact ⟨by decide, by decide⟩⟩
theorem sA_base : baseW none sA 5 10 = ⟨sA, sA, 5, 10, [], []⟩ := rfl
theorem sA_turn : (turnW none sA [] 5 10).now = sA := by
  show rollL sA sA (5 - 5) 10 = sA
  exact roll_from (by omega) (by omega)
set_option maxHeartbeats 1000000 in
theorem known13 (w : World) : Calls Tryz.prog 4 #[] w fun e w' => e = .returned (.bool true) ∧ Below w.heap.size w w' := by
  go_enter Tryz.func4, Tryz.ntmps4
  go_wp2_with fail
  refine (new_calls w).mono ?_
  rintro e w1 ⟨p, b, rfl, hR, hp, hb, hb1⟩
  have HB1 := Lib.hid hb1
  clear hb1
  go_wp2_with fail
  refine (table_none hR ⟨#[120]⟩ (by decide) rfl).mono ?_
  rintro e w2 ⟨rfl, hb2⟩
  have hR2 := hR.below hb2
  have HB2 := Lib.hid (HB1.out.trans (hb2.mono HB1.out.size))
  clear hb2 hR HB1
  go_wp2_with fail
  obtain ⟨W4, hW4⟩ : ∃ W4, W4 = (w2.alloc (.cells #[.slice none 0 0, .slice none 0 0] 36)).alloc (.cells #[.string ⟨#[97, 45, 49]⟩, .int .i64 100] 51) := ⟨_, rfl⟩
  have b4 : Below w2.heap.size w2 W4 := by rw [hW4]; exact ((Below.refl _ _).alloc (Nat.le_refl _) _).alloc (by simp) _
  have k4 : Blk W4 (w2.heap.size + 1) #[.string ⟨#[97, 45, 49]⟩, .int .i64 100] 51 := by
    rw [hW4]
    have := Blk.new (w2.alloc (.cells #[.slice none 0 0, .slice none 0 0] 36)) #[.string ⟨#[97, 45, 49]⟩, .int .i64 100] 51
    simpa using this
  rw [← hW4]
  clear hW4
  have hC : Kd.C k51 W4 (some ⟨w2.heap.size + 1, 0, none⟩) sA.length sA := c_one (x := ⟨⟨#[97, 45, 49]⟩, 100⟩) k4
  have hR4 := hR2.below b4
  have bA := HB2.out.trans (b4.mono HB2.out.size)
  have htc := turn_calls hR4 (fun k hk e => by
    obtain ⟨_, _, _, S, f, _, h4, _⟩ := hR4
    have := h4.lt
    omega) ⟨#[120]⟩ (by decide) (by decide) (some ⟨w2.heap.size + 1, 0, none⟩) 1 sA none 0 [] hC (Kd.C_nil _ _) (by decide) (by decide) 5 10 (by omega) (by omega) (by omega) (by rw [show noWays (⟨#[120]⟩ : ByteArray).data.toList = none from rfl, sA_base]; exact sA_fine) (by rw [show noWays (⟨#[120]⟩ : ByteArray).data.toList = none from rfl, sA_base]; exact sA_fine) (by rw [show noWays (⟨#[120]⟩ : ByteArray).data.toList = none from rfl, sA_base]; decide) (by rw [show noWays (⟨#[120]⟩ : ByteArray).data.toList = none from rfl, sA_base]; decide) (by rw [show noWays (⟨#[120]⟩ : ByteArray).data.toList = none from rfl, sA_turn]; decide) (fun m e => by cases e)
  rw [show noWays (⟨#[120]⟩ : ByteArray).data.toList = none from rfl, sA_turn] at htc
  have HT := Lib.hid htc
  have BA := Lib.hid bA
  clear htc hC hR4 hR2 b4 k4 bA HB2
  refine HT.out.mono ?_
  rintro e w5 ⟨v0, v1, rfl, r0, r1, _, hc⟩
  obtain ⟨A5, c5, rfl, _, hC5⟩ := RowG.toC r0
  obtain ⟨A6, c6, rfl, _, hC6⟩ := RowG.toCT r1
  obtain ⟨g, o, rfl, hgl, hce⟩ := shares_at hC5 (by decide)
  have hce := (hce 0 (by decide)).2
  have b5 := hc.below_of BA.out BA.out.size (fun k hk e => by omega)
  have HB5 := Lib.hid b5
  clear r0 r1 hC5 hC6 hc HT b5 BA
  simp only [sA, List.getD_cons_zero, Nat.zero_mul, Nat.add_zero] at hce
  rw [show sA.length = 1 from rfl, show ([] : List S83).length = 0 from rfl]
  go_wp2_with fail
  go_ret
  exact ⟨rfl, HB5.out.alloc HB5.out.size _⟩

end Go.Proofs.YtnkmpkhiilnigaaGreatDoor.PA
