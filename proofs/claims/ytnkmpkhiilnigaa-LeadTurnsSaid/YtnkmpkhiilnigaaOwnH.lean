/- What LeadOwn leans on: a Roller and what does not belong to it; rows that may be written. (Printed by genx.py from ownh.src.) -/
import Derived.Test.YtnkmpkhiilnigaaGLeadS
namespace Go.Proofs.Ytnkmpkhiilnigaa.PA
open Go.RowKit Go.Shelf Go.Lib Go.Sort Go.Proofs.YtnkmpkhiilnigaaW.PrintWords Go.Proofs.YtnkmpkhiilnigaaW.PrintLast

/-- The Roller; nothing of it lies where F says. -/
def RollerO (w : World) (p b : Nat) (F : Nat → Prop) (M : List UInt8 → Option WayM) : Prop := ∃ ok, RollerAt w p b ok M ∧ (∀ k, w.heap.size ≤ k → ok k) ∧ ∀ k, F k → ¬ ok k
theorem RollerO.below {w w' : World} {p b : Nat} {F : Nat → Prop} {M : List UInt8 → Option WayM} (h : RollerO w p b F M) (hc : Below w.heap.size w w') : RollerO w' p b F M := by
  obtain ⟨ok, h1, h2, h3⟩ := h
  exact ⟨ok, h1.below hc, fun k hk => h2 k (Nat.le_trans hc.size hk), h3⟩
theorem RollerO.mono {w : World} {p b : Nat} {F G : Nat → Prop} {M : List UInt8 → Option WayM} (h : RollerO w p b F M) (hG : ∀ k, G k → F k) : RollerO w p b G M := by
  obtain ⟨ok, h1, h2, h3⟩ := h
  exact ⟨ok, h1, h2, fun k hk => h3 k (hG k hk)⟩
theorem RollerO.lt {w : World} {p b : Nat} {F : Nat → Prop} {M : List UInt8 → Option WayM} (h : RollerO w p b F M) : p < w.heap.size ∧ b < w.heap.size ∧ p ≠ b := by
  obtain ⟨ok, ⟨h1, h2, _, S, f, _, h4, _⟩, _⟩ := h
  exact ⟨h1.lt, h4.lt, h2⟩
/-- What is made beside it is not its own. -/
theorem RollerO.free {w w' : World} {p b : Nat} {F : Nat → Prop} {M : List UInt8 → Option WayM} (h : RollerO w p b F M) (hc : Below w.heap.size w w') : RollerO w' p b (fun k => F k ∨ w.heap.size ≤ k ∧ k < w'.heap.size) M := by
  obtain ⟨ok, h1, h2, h3⟩ := h
  obtain ⟨q1, q2, q3, q4⟩ := h1
  have h1 : RollerAt w p b ok M := ⟨q1, q2, q3, q4⟩
  refine ⟨fun k => ok k ∧ (k < w.heap.size ∨ w'.heap.size ≤ k), (h1.okm (fun k hk => q3 k hk.1) (fun k hk hlt => ⟨hk, .inl hlt⟩)).below hc, fun k hk => ⟨h2 k (Nat.le_trans hc.size hk), .inr hk⟩, fun k hk ho => ?_⟩
  rcases hk with hk | ⟨k1, k2⟩
  · exact h3 k hk ho.1
  · rcases ho.2 with h | h <;> omega
theorem RollerO.first {w : World} {p b : Nat} {ok : Nat → Prop} (h : RollerAt w p b ok noWays) : RollerO w p b (fun k => k < w.heap.size) noWays := by
  obtain ⟨h1, h2, _, S, f, h3, h4, h5, h6⟩ := h
  have hb := h4.lt
  exact ⟨fun k => w.heap.size ≤ k, ⟨h1, h2, fun k hk e => by omega, S, f, h3, h4, h5, fun x m e => by cases e⟩, fun k hk => hk, fun k hk => by omega⟩
/-- A cell elsewhere is written. -/
theorem RollerO.set {w : World} {p b : Nat} {F : Nat → Prop} {M : List UInt8 → Option WayM} (h : RollerO w p b F M) {a : Addr} (u : Value) (hF : F a.block) (hp : p < a.block) (hb : b < a.block) : RollerO (w.setCell a u) p b F M := by
  obtain ⟨ok, h1, h2, h3⟩ := h
  have hc : Chg (fun k => k = a.block) w (w.setCell a u) := (Chg.refl (fun k => k = a.block) w).setCell (fun _ => rfl) u
  refine ⟨ok, h1.chg hc (by omega) (by omega) (fun k hk _ e => h3 _ hF (e ▸ hk)), fun k hk => h2 k (Nat.le_trans hc.size hk), h3⟩

/-- A row that may be written: what it holds is not asked. -/
def ArrO (w : World) (lo : Nat) (F : Nat → Prop) (e : TypeId) (A : Option Addr) (n : Nat) : Prop := 0 < n → ∃ g cur, A = some ⟨g, 0, none⟩ ∧ lo ≤ g ∧ F g ∧ Blk w g cur e ∧ n * 2 ≤ cur.size
theorem ArrO.below {w w' : World} {lo : Nat} {F : Nat → Prop} {e : TypeId} {A : Option Addr} {n : Nat} (h : ArrO w lo F e A n) (hc : Below w.heap.size w w') : ArrO w' lo F e A n := fun hn => by
  obtain ⟨g, cur, h1, h2, h3, h4, h5⟩ := h hn
  exact ⟨g, cur, h1, h2, h3, h4.below hc h4.lt, h5⟩
theorem ArrO.chg {w w' : World} {lo : Nat} {F G : Nat → Prop} {e : TypeId} {A : Option Addr} {n : Nat} (h : ArrO w lo F e A n) (hc : Chg G w w') (hG : ∀ k, lo ≤ k → F k → ¬ G k) : ArrO w' lo F e A n := fun hn => by
  obtain ⟨g, cur, h1, h2, h3, h4, h5⟩ := h hn
  exact ⟨g, cur, h1, h2, h3, h4.chg hc (hG g h2 h3), h5⟩
theorem ArrO.mono {w : World} {lo : Nat} {F G : Nat → Prop} {e : TypeId} {A : Option Addr} {n : Nat} (h : ArrO w lo F e A n) (hG : ∀ k, lo ≤ k → k < w.heap.size → F k → G k) : ArrO w lo G e A n := fun hn => by
  obtain ⟨g, cur, h1, h2, h3, h4, h5⟩ := h hn
  exact ⟨g, cur, h1, h2, hG g h2 h4.lt h3, h4, h5⟩
theorem ArrO.lower {w : World} {lo lo' : Nat} {F : Nat → Prop} {e : TypeId} {A : Option Addr} {n : Nat} (h : ArrO w lo F e A n) (hl : lo' ≤ lo) : ArrO w lo' F e A n := fun hn => by
  obtain ⟨g, cur, h1, h2, h3⟩ := h hn
  exact ⟨g, cur, h1, Nat.le_trans hl h2, h3⟩
theorem ArrO.set {w : World} {lo : Nat} {F : Nat → Prop} {e : TypeId} {A : Option Addr} {n : Nat} (h : ArrO w lo F e A n) (g i : Nat) (u : Value) : ArrO (w.setCell ⟨g, i, none⟩ u) lo F e A n := fun hn => by
  obtain ⟨g', cur, h1, h2, h3, h4, h5⟩ := h hn
  by_cases e' : g' = g
  · subst e'
    exact ⟨g', _, h1, h2, h3, h4.set i u rfl, by simpa using h5⟩
  · exact ⟨g', cur, h1, h2, h3, h4.far e' u, h5⟩
theorem ArrO.of_row {α : Type} {E : El Try.prog α} {w : World} {base c : Nat} {A : Option Addr} {l : List α} (h : RowG E w base (.slice A l.length c) l) (h2 : E.size = 2) : ArrO w base (fun k => (Value.slice A l.length c).ownBlock = some k) E.e A l.length := fun hn => by
  obtain ⟨A', c', e, hc, hs⟩ := h.shape
  obtain ⟨g, cur, hA, hg, hlt, hh, _, hz, _⟩ := hs hn
  cases e
  subst hA
  refine ⟨g, cur, rfl, hg, by simp [Value.ownBlock], hh, ?_⟩
  rw [hz, h2]
  exact Nat.mul_le_mul_right _ hc
theorem blk_ne {w : World} {p q : Nat} {cs cs' : Array Value} {t t' : TypeId} (h : Blk w p cs t) (h' : Blk w q cs' t') (ht : t ≠ t') : p ≠ q := fun e => by
  subst e
  unfold Blk at h h'
  rw [h] at h'
  cases h'
  exact ht rfl
/-- The cell that a round writes. -/
theorem ArrO.at_ {w : World} {lo : Nat} {F : Nat → Prop} {e : TypeId} {A : Option Addr} {n : Nat} (h : ArrO w lo F e A n) {i : Nat} (hi : i < n) (j : Nat) (hj : j < 2) : ∃ g cur v, A = some ⟨g, 0, none⟩ ∧ lo ≤ g ∧ F g ∧ Blk w g cur e ∧ w.cell? ⟨g, i * 2 + j, none⟩ = some v ∧ w.frozen? ⟨g, i * 2 + j, none⟩ = false := by
  obtain ⟨g, cur, h1, h2, h3, h4, h5⟩ := h (by omega)
  have hlt : i * 2 + j < cur.size := by omega
  exact ⟨g, cur, cur[i * 2 + j], h1, h2, h3, h4, by rw [h4.cell, Array.getElem?_eq_getElem hlt], h4.frozen _⟩

/-- Turn, with what belongs to whom. -/
theorem turnO {w : World} {p b : Nat} {F : Nat → Prop} {M : List UInt8 → Option WayM} (h : RollerO w p b F M) {t : Int} (hM : OkM M t) (name : ByteArray) (hs : name.size ≤ 1000) (hroute : name.data.toList ∈ routes)
    (At : Option Addr) (ct : Nat) (sh : List S40) (Au : Option Addr) (cu : Nat) (tg : List S42) (hsh : Kd.C k40 w At sh.length sh) (htg : Kd.C k42 w Au tg.length tg) (ht : Tab R6 sh) (hl1 : tg.length ≤ 100)
    (now whole : Int) (h0 : 0 ≤ t) (hn0 : t ≤ now) (hn1 : now ≤ 1000000) (hw1 : whole ≤ 1000000) :
    Calls Try.prog 14 #[.pointer (some ⟨p, 0, none⟩), .string name, .agg #[.slice At sh.length ct, .slice Au tg.length cu], .int .i64 now, .int .i64 whole] w fun e w' => ∃ A c B d, e = .returned (.agg #[.slice A (turnW (M name.data.toList) sh tg now whole).now.length c, .slice B tg.length d]) ∧
      (Kd.C k40 w' A (turnW (M name.data.toList) sh tg now whole).now.length (turnW (M name.data.toList) sh tg now whole).now ∧ (turnW (M name.data.toList) sh tg now whole).now.length ≤ c ∧ Kd.C k42 w' B tg.length tg ∧ tg.length ≤ d) ∧
      ∃ G : Nat → Prop, (ArrO w' w.heap.size G 40 A (turnW (M name.data.toList) sh tg now whole).now.length ∧ ArrO w' w.heap.size G 42 B tg.length) ∧
      RollerO w' p b (fun k => F k ∨ G k) (setWay name.data.toList (some (turnW (M name.data.toList) sh tg now whole)) M) ∧ OkM (setWay name.data.toList (some (turnW (M name.data.toList) sh tg now whole)) M) now ∧ Chg (fun k => k = b) w w' := by
  obtain ⟨hp, hb, hne⟩ := h.lt
  obtain ⟨ok, hR, hok, hF⟩ := h
  have hMn : ∀ m, M name.data.toList = some m → OkWay m t := fun m e => hM _ m e
  obtain ⟨b1, b2, b3, b4⟩ := base_ok hMn ht h0 hn0 whole
  have tw := turn_ok hMn ht hl1 h0 hn0 whole
  refine (turn_calls hR hok name hs hroute At ct sh Au cu tg hsh htg (by have := tab_len ht; omega) (by omega) now whole (by omega) (by omega) (by omega) (b1.fine (by decide)) (b2.fine (by decide)) (by omega) (by omega) (by have := tab_len tw.cur; omega) (fun m e => by have := tab_len (hMn m e).dst; omega)).mono ?_
  rintro e w' ⟨v0, v1, rfl, r0, r1, hR', hc⟩
  obtain ⟨A, c, rfl, hc0, hC0⟩ := RowG.toC r0
  obtain ⟨B, d, rfl, hd0, hD0⟩ := RowG.toCT r1
  refine ⟨A, c, B, d, rfl, ⟨hC0, hc0, hD0, hd0⟩, fun k => (Value.slice A (turnW (M name.data.toList) sh tg now whole).now.length c).ownBlock = some k ∨ (Value.slice B tg.length d).ownBlock = some k, ⟨(ArrO.of_row r0 rfl).mono (fun k _ _ hk => .inl hk), (ArrO.of_row r1 rfl).mono (fun k _ _ hk => .inr hk)⟩, ⟨_, hR', fun k hk => ⟨hok k (Nat.le_trans hc.size hk), fun e => by have := own_lt r0 k e; omega, fun e => by have := own_lt r1 k e; omega⟩, fun k hk ho => ?_⟩, fun x m e => ?_, hc⟩
  · rcases hk with hk | hk | hk
    · exact hF k hk ho.1
    · exact ho.2.1 hk
    · exact ho.2.2 hk
  · unfold setWay at e
    by_cases e' : x = name.data.toList
    · rw [if_pos e'] at e
      cases e
      exact tw
    · rw [if_neg e'] at e
      exact (hM.mono hn0) x m e

/-- Table, with what belongs to whom. -/
theorem tableO {w : World} {p b : Nat} {F : Nat → Prop} {M : List UInt8 → Option WayM} (h : RollerO w p b F M) {t : Int} (hM : OkM M t) (name : ByteArray) (hs : name.size ≤ 1000) (m : WayM) (hm : M name.data.toList = some m) :
    Calls Try.prog 19 #[.pointer (some ⟨p, 0, none⟩), .string name] w fun e w' => ∃ A c B d, e = .returned (.tuple #[.agg #[.slice A m.now.length c, .slice B m.tags.length d], .bool true]) ∧
      (Kd.C k40 w' A m.now.length m.now ∧ m.now.length ≤ c ∧ Kd.C k42 w' B m.tags.length m.tags ∧ m.tags.length ≤ d) ∧ ArrO w' w.heap.size (fun k => w.heap.size ≤ k ∧ k < w'.heap.size) 40 A m.now.length ∧ RollerO w' p b (fun k => F k ∨ w.heap.size ≤ k ∧ k < w'.heap.size) M ∧ Below w.heap.size w w' := by
  obtain ⟨hp, hb, hne⟩ := h.lt
  have hO := h
  obtain ⟨ok, hR, hok, _⟩ := h
  have hw := hM _ m hm
  refine (table_some hR name hs m hm (by have := tab_len hw.cur; omega) (by have := hw.tags; omega)).mono ?_
  rintro e w' ⟨v0, v1, rfl, r0, r1, hbl⟩
  obtain ⟨A, c, rfl, hc0, hC0⟩ := RowG.toC r0
  obtain ⟨B, d, rfl, hd0, hD0⟩ := RowG.toCT r1
  exact ⟨A, c, B, d, rfl, ⟨hC0, hc0, hD0, hd0⟩, (ArrO.of_row r0 rfl).mono (fun k hk hk' _ => ⟨hk, hk'⟩), hO.free hbl, hbl⟩

end Go.Proofs.Ytnkmpkhiilnigaa.PA
