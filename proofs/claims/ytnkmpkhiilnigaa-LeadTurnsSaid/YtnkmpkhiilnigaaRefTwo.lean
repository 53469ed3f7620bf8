/- The document's Roller by itself, and beside the program's: calls in short. (Printed by genx.py from reftwo.src.) -/
import Derived.Test.YtnkmpkhiilnigaaRefDrop
import Derived.Test.YtnkmpkhiilnigaaOwnH
set_option linter.unusedSimpArgs false
set_option linter.unusedVariables false
namespace Go.Proofs.Ytnkmpkhiilnigaa.PA
open Go.RowKit Go.Shelf Go.Lib Go.Sort Go.Proofs.YtnkmpkhiilnigaaW.PrintWords Go.Proofs.YtnkmpkhiilnigaaW.PrintLast

/-- It stays, whatever becomes of blocks that are not kept. -/
def Kept (P : (Nat → Prop) → World → Prop) : Prop := ∀ K K' w w', (∀ k, k < w.heap.size → K k → K' k) → Chg (fun k => ¬ K k) w w' → P K w → P K' w'
def RowK (A : Option Addr) (l : List S40) (K : Nat → Prop) (w : World) : Prop := Kd.C k40 w A l.length l ∧ InOk K A l.length
def RowKT (A : Option Addr) (l : List S42) (K : Nat → Prop) (w : World) : Prop := Kd.C k42 w A l.length l ∧ InOk K A l.length
def BlkK (g : Nat) (cs : Array Value) (t : TypeId) (K : Nat → Prop) (w : World) : Prop := K g ∧ Blk w g cs t
def BelowK (w0 : World) (K : Nat → Prop) (w : World) : Prop := Below w0.heap.size w0 w ∧ ∀ k, k < w0.heap.size → K k

theorem RowK.c {A : Option Addr} {l : List S40} {K : Nat → Prop} {w : World} (h : RowK A l K w) : Kd.C k40 w A l.length l := h.1
theorem RowKT.c0 {A : Option Addr} {K : Nat → Prop} {w : World} (h : RowKT A [] K w) : Kd.C k42 w A 0 [] := h.1
theorem RowKT.c {A : Option Addr} {l : List S42} {K : Nat → Prop} {w : World} (h : RowKT A l K w) : Kd.C k42 w A l.length l := h.1
theorem BlkK.b {g : Nat} {cs : Array Value} {t : TypeId} {K : Nat → Prop} {w : World} (h : BlkK g cs t K w) : Blk w g cs t := h.2

theorem Kept.and {P Q : (Nat → Prop) → World → Prop} (hp : Kept P) (hq : Kept Q) : Kept (fun K w => P K w ∧ Q K w) := fun K K' w w' hk hc ⟨a, c⟩ => ⟨hp K K' w w' hk hc a, hq K K' w w' hk hc c⟩
theorem Kept.row (A : Option Addr) (l : List S40) : Kept (RowK A l) := fun K K' w w' hk hc h =>
  ⟨c_chg h.1 h.2 hc (fun _ hk _ hn => hn hk), fun hp a e => hk _ (share_lt h.1 hp a e) (h.2 hp a e)⟩
theorem Kept.rowT (A : Option Addr) (l : List S42) : Kept (RowKT A l) := fun K K' w w' hk hc h =>
  ⟨ct_chg h.1 h.2 hc (fun _ hk _ hn => hn hk), fun hp a e => hk _ (tag_lt h.1 hp a e) (h.2 hp a e)⟩
theorem Kept.blk (g : Nat) (cs : Array Value) (t : TypeId) : Kept (BlkK g cs t) := fun K K' w w' hk hc h => ⟨hk _ h.2.lt h.1, h.2.chg hc (fun hn => hn h.1)⟩
theorem Kept.below (w0 : World) : Kept (BelowK w0) := fun K K' w w' hk hc h =>
  ⟨hc.below_of h.1 h.1.size (fun k hk hn => hn (h.2 k hk)), fun k hk' => hk k (Nat.lt_of_lt_of_le hk' h.1.size) (h.2 k hk')⟩
theorem Kept.step {P : (Nat → Prop) → World → Prop} (hp : Kept P) {K : Nat → Prop} {w w' : World} (hc : Below w.heap.size w w') (h : P K w) : P K w' := hp K K w w' (fun _ _ h => h) (Chg.of_below hc (fun k h1 h2 => by omega)) h
theorem rowKT_nil (K : Nat → Prop) (w : World) : RowKT none [] K w := ⟨(rowT_nil 0 w).1, fun hp => absurd hp (by decide)⟩

/-- The document's Roller at q: what its ways are; ok: blocks that are not its own. -/
def DocS (w : World) (q : Nat) (ok : Nat → Prop) (D : List UInt8 → Option WayM) (n : Nat) : Prop := ∃ l, DocAt w q ok l ∧ (∀ k, w.heap.size ≤ k → ok k) ∧ (∀ nm : ByteArray, findM l nm = D nm.data.toList) ∧ l.length ≤ n
theorem DocS.below {w w' : World} {q n : Nat} {ok : Nat → Prop} {D : List UInt8 → Option WayM} (h : DocS w q ok D n) (hc : Below w.heap.size w w') : DocS w' q ok D n := by
  obtain ⟨l, h1, h2, h3⟩ := h
  exact ⟨l, h1.below hc, fun k hk => h2 k (Nat.le_trans hc.size hk), h3⟩
theorem DocS.map {w w' : World} {q n b : Nat} {ok : Nat → Prop} {D : List UInt8 → Option WayM} {E : Array MapEntry} {m : Nat} (h : DocS w q ok D n) (hb : w.heap[b]? = some (.map E m)) (hc : Chg (fun k => k = b) w w') : DocS w' q ok D n := by
  obtain ⟨l, h1, h2, h3⟩ := h
  exact ⟨l, h1.map hb hc, fun k hk => h2 k (Nat.le_trans hc.size hk), h3⟩
theorem DocS.tab {w w' : World} {q n g : Nat} {ok : Nat → Prop} {D : List UInt8 → Option WayM} {cs : Array Value} (h : DocS w q ok D n) (hb : Blk w g cs 29) (hs : ∀ (j : Nat) (s : ByteArray), cs[j]? ≠ some (.string s)) (hc : Chg (fun k => k = g) w w') : DocS w' q ok D n := by
  obtain ⟨l, h1, h2, h3⟩ := h
  exact ⟨l, h1.tab hb hs hc, fun k hk => h2 k (Nat.le_trans hc.size hk), h3⟩
/-- A Roller without ways. -/
theorem DocS.first {w : World} {q : Nat} (h : Blk w q #[.slice none 0 0] 52) : DocS w q (fun k => k ≠ q) noWays 0 :=
  ⟨[], ⟨⟨0, none, 0, h, RowG.nil _ _ _, fun k _ e => by simp [Value.ownBlock] at e⟩, fun x hx => by simp at hx, by simp, fun k hk => hk, fun k _ x hx => by simp at hx⟩, fun k hk e => by have := h.lt; omega, fun nm => rfl, by simp⟩
theorem DocS.at_ {w : World} {q n : Nat} {ok : Nat → Prop} {D : List UInt8 → Option WayM} (h : DocS w q ok D n) (nm : ByteArray) : ∃ l, DocAt w q ok l ∧ findM l nm = D nm.data.toList ∧ l.length ≤ n := by
  obtain ⟨l, h1, _, h3, h4⟩ := h
  exact ⟨l, h1, h3 nm, h4⟩

theorem nm_eq {a b : ByteArray} : (a.toList = b.toList) ↔ (a.data.toList = b.data.toList) := by rw [ByteArray.toList_eq, ByteArray.toList_eq]

/-- Its Turn. -/
theorem docS_turn {w : World} {q n : Nat} {ok : Nat → Prop} {D : List UInt8 → Option WayM} (h : DocS w q ok D n) (hn : n ≤ 100) {t : Int} (hM : OkM D t) (nm : ByteArray)
    (At : Option Addr) (ct : Nat) (sh : List S40) (Au : Option Addr) (cu : Nat) (tg : List S42) (hsh : Kd.C k40 w At sh.length sh) (hct : sh.length ≤ ct) (htg : Kd.C k42 w Au tg.length tg) (hcu : tg.length ≤ cu) (ht : Tab R6 sh) (hl1 : tg.length ≤ 100)
    (now whole : Int) (h0 : 0 ≤ t) (hn0 : t ≤ now) (hn1 : now ≤ 1000000) (hw1 : whole ≤ 1000000) :
    Calls Try.prog 21 #[.pointer (some ⟨q, 0, none⟩), .string nm, .agg #[.slice At sh.length ct, .slice Au tg.length cu], .int .i64 now, .int .i64 whole] w fun e w' => ∃ A c B d, e = .returned (.agg #[.slice A (turnW (D nm.data.toList) sh tg now whole).now.length c, .slice B tg.length d]) ∧
      (Kd.C k40 w' A (turnW (D nm.data.toList) sh tg now whole).now.length (turnW (D nm.data.toList) sh tg now whole).now ∧ (turnW (D nm.data.toList) sh tg now whole).now.length ≤ c ∧ Kd.C k42 w' B tg.length tg ∧ tg.length ≤ d) ∧
      ∃ ok', (InOk ok' A (turnW (D nm.data.toList) sh tg now whole).now.length ∧ InOk ok' B tg.length) ∧ DocS w' q ok' (setWay nm.data.toList (some (turnW (D nm.data.toList) sh tg now whole)) D) (n + 1) ∧ OkM (setWay nm.data.toList (some (turnW (D nm.data.toList) sh tg now whole)) D) now ∧ (∀ k, k < w.heap.size → ok k → ok' k) ∧ Chg (fun k => ¬ ok k) w w' := by
  obtain ⟨l, h1, h2, h3, h4⟩ := h
  have hMn : ∀ m, D nm.data.toList = some m → OkWay m t := fun m e => hM _ m e
  obtain ⟨b1, b2, b3, b4⟩ := base_ok hMn ht h0 hn0 whole
  have tw := turn_ok hMn ht hl1 h0 hn0 whole
  have f1 : Fine (baseW (D nm.data.toList) sh now whole).fr := b1.fine (by decide)
  have f2 : Fine (baseW (D nm.data.toList) sh now whole).dst := b2.fine (by decide)
  have z1 := tab_len b1
  have z2 := tab_len b2
  have z3 := tab_len ht
  have z4 := tab_len tw.cur
  have e3 := h3 nm
  refine (dturn_calls h1 h2 nm (by omega) At ct sh Au cu tg hsh hct htg hcu (by omega) (by omega) now whole (by omega) (by omega) (by omega) (baseW (D nm.data.toList) sh now whole) (by rw [e3]) f1 f2 (by omega) (by omega) (by omega) (by omega) (by have : (rollL (baseW (D nm.data.toList) sh now whole).fr (baseW (D nm.data.toList) sh now whole).dst (now - (baseW (D nm.data.toList) sh now whole).since) whole).length ≤ 6 := z4; omega) (fun m e => by rw [e3] at e; have := tab_len (hMn m e).dst; omega)).mono ?_
  rintro e w' ⟨A, c, B, d, ok', l', rfl, ⟨r0, l0, r1, l1⟩, ⟨i0, i1⟩, hd, hk1, hk2, hf, hlen, hc⟩
  refine ⟨A, c, B, d, rfl, ⟨r0, l0, r1, l1⟩, ok', ⟨i0, i1⟩, ⟨l', hd, hk1, fun nm' => ?_, by omega⟩, fun x m e => ?_, hk2, hc⟩
  · rw [hf nm', e3, h3 nm']
    unfold setWay
    by_cases e : nm'.toList = nm.toList
    · rw [if_pos e, if_pos (nm_eq.1 e)]
    · rw [if_neg e, if_neg (fun e' => e (nm_eq.2 e'))]
  · unfold setWay at e
    by_cases e' : x = nm.data.toList
    · rw [if_pos e'] at e
      cases e
      exact tw
    · rw [if_neg e'] at e
      exact (hM.mono hn0) x m e

/-- .. of a table without tags. -/
theorem docS_turn0 {w : World} {q n : Nat} {ok : Nat → Prop} {D : List UInt8 → Option WayM} (h : DocS w q ok D n) (hn : n ≤ 100) {t : Int} (hM : OkM D t) (nm : ByteArray)
    (At : Option Addr) (ct : Nat) (sh : List S40) (hsh : Kd.C k40 w At sh.length sh) (hct : sh.length ≤ ct) (ht : Tab R6 sh) (now whole : Int) (h0 : 0 ≤ t) (hn0 : t ≤ now) (hn1 : now ≤ 1000000) (hw1 : whole ≤ 1000000) :
    Calls Try.prog 21 #[.pointer (some ⟨q, 0, none⟩), .string nm, .agg #[.slice At sh.length ct, .slice none 0 0], .int .i64 now, .int .i64 whole] w fun e w' => ∃ A c B d, e = .returned (.agg #[.slice A (turnW (D nm.data.toList) sh [] now whole).now.length c, .slice B 0 d]) ∧
      (Kd.C k40 w' A (turnW (D nm.data.toList) sh [] now whole).now.length (turnW (D nm.data.toList) sh [] now whole).now ∧ (turnW (D nm.data.toList) sh [] now whole).now.length ≤ c ∧ Kd.C k42 w' B 0 []) ∧
      ∃ ok', DocS w' q ok' (setWay nm.data.toList (some (turnW (D nm.data.toList) sh [] now whole)) D) (n + 1) ∧ OkM (setWay nm.data.toList (some (turnW (D nm.data.toList) sh [] now whole)) D) now ∧ (∀ k, k < w.heap.size → ok k → ok' k) ∧ Chg (fun k => ¬ ok k) w w' := by
  refine (docS_turn h hn hM nm At ct sh none 0 [] hsh hct (Kd.C_nil _ _) (by simp) ht (by simp) now whole h0 hn0 hn1 hw1).mono ?_
  rintro e w' ⟨A, c, B, d, he, ⟨h1, h2, h3, _⟩, ok', _, h6⟩
  exact ⟨A, c, B, d, he, ⟨h1, h2, h3⟩, ok', h6⟩
theorem sameC {A : Option Addr} {c : Nat} {sh : List S40} {B : Option Addr} {d : Nat} {A' : Option Addr} {c' : Nat} {sh' : List S40} {B' : Option Addr} {d' : Nat} (w : World)
    (h0 : Kd.C k40 w A sh.length sh) (l0 : sh.length ≤ c) (h1 : Kd.C k42 w B 0 []) (h2 : Kd.C k40 w A' sh'.length sh') (l2 : sh'.length ≤ c') (h3 : Kd.C k42 w B' 0 []) (hs : sh.length ≤ 100000) (e1 : sh = sh') :
    Calls Try.prog 18 #[.agg #[.slice A sh.length c, .slice B 0 d], .agg #[.slice A' sh'.length c', .slice B' 0 d']] w fun e w' => e = .returned (.bool true) ∧ Below w.heap.size w w' :=
  sameS (tg := []) (tg' := []) w h0 l0 h1 (Nat.zero_le _) h2 l2 h3 (Nat.zero_le _) hs (by simp) e1 rfl

/-- Both Rollers, the program's (p, its map b), the document's (q): nothing of the one is the other's; K: blocks that stay whatever is done. -/
def Two (w : World) (p b q : Nat) (K : Nat → Prop) (M D : List UInt8 → Option WayM) (n : Nat) : Prop := ∃ ok, RollerO w p b (fun k => ¬ ok k) M ∧ DocS w q ok D n ∧ ok p ∧ ok b ∧ (∀ k, K k → ok k ∧ k ≠ b) ∧ ∀ k, w.heap.size ≤ k → K k
theorem Two.below {w w' : World} {p b q n : Nat} {K : Nat → Prop} {M D : List UInt8 → Option WayM} (h : Two w p b q K M D n) (hc : Below w.heap.size w w') : Two w' p b q K M D n := by
  obtain ⟨ok, h1, h2, h3, h4, h5, h6⟩ := h
  exact ⟨ok, h1.below hc, h2.below hc, h3, h4, h5, fun k hk => h6 k (Nat.le_trans hc.size hk)⟩
theorem Two.new {w : World} {p b q n : Nat} {K : Nat → Prop} {M D : List UInt8 → Option WayM} (h : Two w p b q K M D n) {k : Nat} (hk : w.heap.size ≤ k) : K k := by
  obtain ⟨ok, _, _, _, _, _, h6⟩ := h
  exact h6 k hk
theorem Two.lt {w : World} {p b q n : Nat} {K : Nat → Prop} {M D : List UInt8 → Option WayM} (h : Two w p b q K M D n) : p < w.heap.size ∧ b < w.heap.size ∧ q < w.heap.size := by
  obtain ⟨ok, h1, ⟨l, ⟨⟨_, _, _, hb, _⟩, _⟩, _⟩, _⟩ := h
  exact ⟨h1.lt.1, h1.lt.2.1, hb.lt⟩
theorem Two.sub {w : World} {p b q n : Nat} {K K' : Nat → Prop} {M D : List UInt8 → Option WayM} (h : Two w p b q K M D n) (hK : ∀ k, K' k → K k) (hn : ∀ k, w.heap.size ≤ k → K' k) : Two w p b q K' M D n := by
  obtain ⟨ok, h1, h2, h3, h4, h5, _⟩ := h
  exact ⟨ok, h1, h2, h3, h4, fun k hk => h5 k (hK k hk), hn⟩
theorem Two.first {w : World} {p b q : Nat} {ok0 : Nat → Prop} (h : RollerAt w p b ok0 noWays) (hq : Blk w q #[.slice none 0 0] 52) (hp : p ≠ q) (hb : b ≠ q) : Two w p b q (fun k => k ≠ q ∧ k ≠ b) noWays noWays 0 :=
  ⟨fun k => k ≠ q, (RollerO.first h).mono (fun k hk => by have := hq.lt; have : k = q := Classical.not_not.1 hk; omega), DocS.first hq, hp, hb, fun _ hk => hk, fun k hk => by have := hq.lt; have := (RollerO.first h).lt.2.1; exact ⟨by omega, by omega⟩⟩
theorem RollerO.mapAt {w : World} {p b : Nat} {F : Nat → Prop} {M : List UInt8 → Option WayM} (h : RollerO w p b F M) : ∃ E m, w.heap[b]? = some (.map E m) := by
  obtain ⟨ok, ⟨_, _, _, S, f, _, ⟨D, h4, _⟩, _⟩, _⟩ := h
  obtain ⟨es, clock, h, _⟩ := h4
  exact ⟨es, clock, h⟩
/-- The document's Roller is turned: the program's stays. -/
theorem RollerO.beside {w w' : World} {p b : Nat} {ok ok' : Nat → Prop} {M : List UInt8 → Option WayM} (h : RollerO w p b (fun k => ¬ ok k) M) (hp : ok p) (hb : ok b) (hc : Chg (fun k => ¬ ok k) w w') (h1 : ∀ k, k < w.heap.size → ok k → ok' k) (h2 : ∀ k, w'.heap.size ≤ k → ok' k) : RollerO w' p b (fun k => ¬ ok' k) M := by
  obtain ⟨okR, q1, q2, q3⟩ := h
  have q4 : ∀ k, okR k → k ≠ b := by
    obtain ⟨_, _, h4, _⟩ := q1
    exact h4
  refine ⟨fun k => okR k ∧ (k < w.heap.size ∨ w'.heap.size ≤ k), (q1.okm (fun k hk => q4 k hk.1) (fun k hk hlt => ⟨hk, .inl hlt⟩)).chg hc (fun hn => hn hp) (fun hn => hn hb) (fun k hk _ hn => q3 k hn hk.1), fun k hk => ⟨q2 k (Nat.le_trans hc.size hk), .inr hk⟩, fun k hk hr => ?_⟩
  rcases hr.2 with h | h
  · exact q3 k (fun ho => hk (h1 k h ho)) hr.1
  · exact hk (h2 k h)
/-- A table's block that the law writes. -/
theorem RollerO.tab {w w' : World} {p b g : Nat} {F : Nat → Prop} {M : List UInt8 → Option WayM} {cs : Array Value} (h : RollerO w p b F M) (hc : Chg (fun k => k = g) w w') (hgb : b ≠ g) (hk : Blk w g cs 29) (hs : ∀ (j : Nat) (s : ByteArray), cs[j]? ≠ some (.string s)) : RollerO w' p b F M := by
  obtain ⟨ok, h1, h2, h3⟩ := h
  have hpg : p ≠ g := blk_neT h1.blk hk (by decide)
  have hs1 : ∀ {A : Option Addr} {l : List S40}, Kd.C k40 w A l.length l → 0 < l.length → ∀ a, A = some a → a.block ≠ g := fun h0 hp ad e e' => by
    obtain ⟨g', o, hA, _, hc0⟩ := shares_at h0 hp
    rw [hA] at e
    cases e
    have h9 := (hc0 0 hp).1
    subst e'
    rw [hk.cell] at h9
    exact hs _ _ h9
  have hs2 : ∀ {A : Option Addr} {l : List S42}, Kd.C k42 w A l.length l → 0 < l.length → ∀ a, A = some a → a.block ≠ g := fun h0 hp ad e e' => by
    obtain ⟨g', o, hA, _, hc0⟩ := tags_at h0 hp
    rw [hA] at e
    cases e
    have h9 := (hc0 0 hp).1
    subst e'
    rw [hk.cell] at h9
    exact hs _ _ h9
  refine ⟨fun k => ok k ∧ k ≠ g, ?_, fun k hk' => ⟨h2 k (Nat.le_trans hc.size hk'), fun e => by subst e; have := hk.lt; have := hc.size; omega⟩, fun k hk ho => h3 k hk ho.1⟩
  obtain ⟨k1, k2, k3, S, f, k4, k5, k6, k7⟩ := h1
  have hw : ∀ x mm, M x = some mm → WayAt w (fun k => ok k ∧ k ≠ g) (f x) mm := fun x mm e => by
    obtain ⟨A0, c0, A1, c1, A2, c2, A3, c3, e', ⟨q0, q1, q2, q3⟩, o0, o1, o2, o3⟩ := k7 x mm e
    exact ⟨A0, c0, A1, c1, A2, c2, A3, c3, e', ⟨q0, q1, q2, q3⟩, fun hp ad e => ⟨o0 hp ad e, hs1 q0 hp ad e⟩, fun hp ad e => ⟨o1 hp ad e, hs1 q1 hp ad e⟩, fun hp ad e => ⟨o2 hp ad e, hs1 q2 hp ad e⟩, fun hp ad e => ⟨o3 hp ad e, hs2 q3 hp ad e⟩⟩
  exact ⟨k1.chg hc hpg, k2, fun k hk' => k3 k hk'.1, S, f, k4, k5.chg hc hgb, k6, fun x mm e => (hw x mm e).chg hc (fun k hk' _ e' => hk'.2 e')⟩
theorem Two.tab {w w' : World} {p b q n g : Nat} {K : Nat → Prop} {M D : List UInt8 → Option WayM} {cs : Array Value} (h : Two w p b q K M D n) (hc : Chg (fun k => k = g) w w') (hgb : b ≠ g) (hk : Blk w g cs 29) (hs : ∀ (j : Nat) (s : ByteArray), cs[j]? ≠ some (.string s)) : Two w' p b q K M D n := by
  obtain ⟨ok, h1, h2, h3, h4, h5, h6⟩ := h
  exact ⟨ok, h1.tab hc hgb hk hs, h2.tab hk hs hc, h3, h4, h5, fun k hk => h6 k (Nat.le_trans hc.size hk)⟩

/-- The program's Turn. -/
theorem two_turn {w : World} {p b q n : Nat} {K : Nat → Prop} {M D : List UInt8 → Option WayM} (h : Two w p b q K M D n) {t : Int} (hM : OkM M t) (name : ByteArray) (hs : name.size ≤ 1000) (hroute : name.data.toList ∈ routes)
    (At : Option Addr) (ct : Nat) (sh : List S40) (Au : Option Addr) (cu : Nat) (tg : List S42) (hsh : Kd.C k40 w At sh.length sh) (htg : Kd.C k42 w Au tg.length tg) (ht : Tab R6 sh) (hl1 : tg.length ≤ 100)
    (now whole : Int) (h0 : 0 ≤ t) (hn0 : t ≤ now) (hn1 : now ≤ 1000000) (hw1 : whole ≤ 1000000) :
    Calls Try.prog 14 #[.pointer (some ⟨p, 0, none⟩), .string name, .agg #[.slice At sh.length ct, .slice Au tg.length cu], .int .i64 now, .int .i64 whole] w fun e w' => ∃ A c B d, e = .returned (.agg #[.slice A (turnW (M name.data.toList) sh tg now whole).now.length c, .slice B tg.length d]) ∧
      (RowK A (turnW (M name.data.toList) sh tg now whole).now K w' ∧ (turnW (M name.data.toList) sh tg now whole).now.length ≤ c ∧ RowKT B tg K w' ∧ tg.length ≤ d) ∧
      Two w' p b q K (setWay name.data.toList (some (turnW (M name.data.toList) sh tg now whole)) M) D n ∧ OkM (setWay name.data.toList (some (turnW (M name.data.toList) sh tg now whole)) M) now ∧ Chg (fun k => ¬ K k) w w' := by
  obtain ⟨ok, h1, h2, h3, h4, h5, h6⟩ := h
  obtain ⟨E, m, hmb⟩ := h1.mapAt
  refine (turnO h1 hM name hs hroute At ct sh Au cu tg hsh htg ht hl1 now whole h0 hn0 hn1 hw1).mono ?_
  rintro e w' ⟨A, c, B, d, rfl, ⟨r0, l0, r1, l1⟩, G, ⟨a0, a1⟩, hR, hO, hc⟩
  have hcK : Chg (fun k => ¬ K k) w w' := hc.mono (fun k _ e hk => (h5 k hk).2 e)
  exact ⟨A, c, B, d, rfl, ⟨⟨r0, fun hp a e => by obtain ⟨g, cur, e', hg, _⟩ := a0 hp; rw [e] at e'; cases e'; exact h6 _ hg⟩, l0, ⟨r1, fun hp a e => by obtain ⟨g, cur, e', hg, _⟩ := a1 hp; rw [e] at e'; cases e'; exact h6 _ hg⟩, l1⟩, ⟨ok, hR.mono (fun k hk => .inl hk), h2.map hmb hc, h3, h4, h5, fun k hk => h6 k (Nat.le_trans hc.size hk)⟩, hO, hcK⟩
theorem two_turn0 {w : World} {p b q n : Nat} {K : Nat → Prop} {M D : List UInt8 → Option WayM} (h : Two w p b q K M D n) {t : Int} (hM : OkM M t) (name : ByteArray) (hs : name.size ≤ 1000) (hroute : name.data.toList ∈ routes)
    (At : Option Addr) (ct : Nat) (sh : List S40) (hsh : Kd.C k40 w At sh.length sh) (ht : Tab R6 sh) (now whole : Int) (h0 : 0 ≤ t) (hn0 : t ≤ now) (hn1 : now ≤ 1000000) (hw1 : whole ≤ 1000000) :
    Calls Try.prog 14 #[.pointer (some ⟨p, 0, none⟩), .string name, .agg #[.slice At sh.length ct, .slice none 0 0], .int .i64 now, .int .i64 whole] w fun e w' => ∃ A c B d, e = .returned (.agg #[.slice A (turnW (M name.data.toList) sh [] now whole).now.length c, .slice B 0 d]) ∧
      (RowK A (turnW (M name.data.toList) sh [] now whole).now K w' ∧ (turnW (M name.data.toList) sh [] now whole).now.length ≤ c ∧ RowKT B [] K w') ∧
      Two w' p b q K (setWay name.data.toList (some (turnW (M name.data.toList) sh [] now whole)) M) D n ∧ OkM (setWay name.data.toList (some (turnW (M name.data.toList) sh [] now whole)) M) now ∧ Chg (fun k => ¬ K k) w w' :=
  (two_turn h hM name hs hroute At ct sh none 0 [] hsh (Kd.C_nil _ _) ht (by simp) now whole h0 hn0 hn1 hw1).mono fun e w' ⟨A, c, B, d, he, ⟨h1, h2, h3, _⟩, h5⟩ => ⟨A, c, B, d, he, ⟨h1, h2, h3⟩, h5⟩

/-- The document's Turn. -/
theorem two_dturn {w : World} {p b q n : Nat} {K : Nat → Prop} {M D : List UInt8 → Option WayM} (h : Two w p b q K M D n) (hn : n ≤ 100) {t : Int} (hM : OkM D t) (nm : ByteArray)
    (At : Option Addr) (ct : Nat) (sh : List S40) (Au : Option Addr) (cu : Nat) (tg : List S42) (hsh : Kd.C k40 w At sh.length sh) (hct : sh.length ≤ ct) (htg : Kd.C k42 w Au tg.length tg) (hcu : tg.length ≤ cu) (ht : Tab R6 sh) (hl1 : tg.length ≤ 100)
    (now whole : Int) (h0 : 0 ≤ t) (hn0 : t ≤ now) (hn1 : now ≤ 1000000) (hw1 : whole ≤ 1000000) :
    Calls Try.prog 21 #[.pointer (some ⟨q, 0, none⟩), .string nm, .agg #[.slice At sh.length ct, .slice Au tg.length cu], .int .i64 now, .int .i64 whole] w fun e w' => ∃ A c B d, e = .returned (.agg #[.slice A (turnW (D nm.data.toList) sh tg now whole).now.length c, .slice B tg.length d]) ∧
      (Kd.C k40 w' A (turnW (D nm.data.toList) sh tg now whole).now.length (turnW (D nm.data.toList) sh tg now whole).now ∧ (turnW (D nm.data.toList) sh tg now whole).now.length ≤ c ∧ Kd.C k42 w' B tg.length tg ∧ tg.length ≤ d) ∧
      ∃ K', Two w' p b q K' M (setWay nm.data.toList (some (turnW (D nm.data.toList) sh tg now whole)) D) (n + 1) ∧ OkM (setWay nm.data.toList (some (turnW (D nm.data.toList) sh tg now whole)) D) now ∧ (∀ k, k < w.heap.size → K k → K' k) ∧ Chg (fun k => ¬ K k) w w' := by
  obtain ⟨ok, h1, h2, h3, h4, h5, h6⟩ := h
  have hlt := h1.lt
  refine (docS_turn h2 hn hM nm At ct sh Au cu tg hsh hct htg hcu ht hl1 now whole h0 hn0 hn1 hw1).mono ?_
  rintro e w' ⟨A, c, B, d, rfl, hrows, ok', _, hD, hO, hk, hc⟩
  have hcK : Chg (fun k => ¬ K k) w w' := hc.mono (fun k _ hn hk => hn (h5 k hk).1)
  have hok : ∀ k, w'.heap.size ≤ k → ok' k := by obtain ⟨_, _, h6, _⟩ := hD; exact h6
  exact ⟨A, c, B, d, rfl, hrows, fun k => (K k ∨ w.heap.size ≤ k) ∧ ok' k ∧ k ≠ b, ⟨ok', h1.beside h3 h4 hc hk hok, hD, hk p hlt.1 h3, hk b hlt.2.1 h4, fun k hk => hk.2, fun k hk' => ⟨.inr (Nat.le_trans hc.size hk'), hok k hk', by have := hc.size; omega⟩⟩, hO, fun k hk' hK => ⟨.inl hK, hk k hk' (h5 k hK).1, (h5 k hK).2⟩, hcK⟩
theorem two_dturn0 {w : World} {p b q n : Nat} {K : Nat → Prop} {M D : List UInt8 → Option WayM} (h : Two w p b q K M D n) (hn : n ≤ 100) {t : Int} (hM : OkM D t) (nm : ByteArray)
    (At : Option Addr) (ct : Nat) (sh : List S40) (hsh : Kd.C k40 w At sh.length sh) (hct : sh.length ≤ ct) (ht : Tab R6 sh) (now whole : Int) (h0 : 0 ≤ t) (hn0 : t ≤ now) (hn1 : now ≤ 1000000) (hw1 : whole ≤ 1000000) :
    Calls Try.prog 21 #[.pointer (some ⟨q, 0, none⟩), .string nm, .agg #[.slice At sh.length ct, .slice none 0 0], .int .i64 now, .int .i64 whole] w fun e w' => ∃ A c B d, e = .returned (.agg #[.slice A (turnW (D nm.data.toList) sh [] now whole).now.length c, .slice B 0 d]) ∧
      (Kd.C k40 w' A (turnW (D nm.data.toList) sh [] now whole).now.length (turnW (D nm.data.toList) sh [] now whole).now ∧ (turnW (D nm.data.toList) sh [] now whole).now.length ≤ c ∧ Kd.C k42 w' B 0 []) ∧
      ∃ K', Two w' p b q K' M (setWay nm.data.toList (some (turnW (D nm.data.toList) sh [] now whole)) D) (n + 1) ∧ OkM (setWay nm.data.toList (some (turnW (D nm.data.toList) sh [] now whole)) D) now ∧ (∀ k, k < w.heap.size → K k → K' k) ∧ Chg (fun k => ¬ K k) w w' :=
  (two_dturn h hn hM nm At ct sh none 0 [] hsh hct (Kd.C_nil _ _) (by simp) ht (by simp) now whole h0 hn0 hn1 hw1).mono fun e w' ⟨A, c, B, d, he, ⟨h1, h2, h3, _⟩, h5⟩ => ⟨A, c, B, d, he, ⟨h1, h2, h3⟩, h5⟩

/-- Drop, both. -/
theorem OkM.set {M : List UInt8 → Option WayM} {t : Int} (h : OkM M t) (x : List UInt8) : OkM (setWay x Option.none M) t := fun y m e => by
  unfold setWay at e
  by_cases e' : y = x
  · rw [if_pos e'] at e; cases e
  · rw [if_neg e'] at e; exact h y m e
theorem two_drop {w : World} {p b q n : Nat} {K : Nat → Prop} {M D : List UInt8 → Option WayM} (h : Two w p b q K M D n) (name : ByteArray) (hs : name.size ≤ 1000) :
    Calls Try.prog 23 #[.pointer (some ⟨p, 0, none⟩), .string name] w fun e w' => e = .returned (.tuple #[]) ∧ Two w' p b q K (setWay name.data.toList none M) D n ∧ Chg (fun k => ¬ K k) w w' := by
  obtain ⟨ok, h1, h2, h3, h4, h5, h6⟩ := h
  obtain ⟨E, m, hmb⟩ := h1.mapAt
  obtain ⟨okR, q1, q2, q3⟩ := h1
  refine (drop_calls q1 name hs).mono ?_
  rintro e w' ⟨rfl, hR, hc⟩
  exact ⟨rfl, ⟨ok, ⟨okR, hR, fun k hk => q2 k (Nat.le_trans hc.size hk), q3⟩, h2.map hmb hc, h3, h4, h5, fun k hk => h6 k (Nat.le_trans hc.size hk)⟩, hc.mono (fun k _ e hk => (h5 k hk).2 e)⟩
theorem two_ddrop {w : World} {p b q n : Nat} {K : Nat → Prop} {M D : List UInt8 → Option WayM} (h : Two w p b q K M D n) (hn : n ≤ 1000) (nm : ByteArray) :
    Calls Try.prog 24 #[.pointer (some ⟨q, 0, none⟩), .string nm] w fun e w' => e = .returned (.tuple #[]) ∧ ∃ K', Two w' p b q K' M (setWay nm.data.toList none D) n ∧ (∀ k, k < w.heap.size → K k → K' k) ∧ Chg (fun k => ¬ K k) w w' := by
  obtain ⟨ok, h1, ⟨l, d1, d2, d3, d4⟩, h3, h4, h5, h6⟩ := h
  have hlt := h1.lt
  refine (ddrop_calls d1 d2 nm (by omega)).mono ?_
  rintro e w' ⟨rfl, ok', hD, hok, hk, hc⟩
  have hcK : Chg (fun k => ¬ K k) w w' := hc.mono (fun k _ hn hk => hn (h5 k hk).1)
  refine ⟨rfl, fun k => (K k ∨ w.heap.size ≤ k) ∧ ok' k ∧ k ≠ b, ⟨ok', h1.beside h3 h4 hc hk hok, ⟨dropW l nm, hD, hok, fun nm' => ?_, by unfold dropW; exact Nat.le_trans (List.length_filter_le _ _) d4⟩, hk p hlt.1 h3, hk b hlt.2.1 h4, fun k hk => hk.2, fun k hk' => ⟨.inr (Nat.le_trans hc.size hk'), hok k hk', by have := hc.size; omega⟩⟩, fun k hk' hK => ⟨.inl hK, hk k hk' (h5 k hK).1, (h5 k hK).2⟩, hcK⟩
  rw [find_drop, d3 nm']
  unfold setWay
  by_cases e : nm'.toList = nm.toList
  · rw [if_pos e, if_pos (nm_eq.1 e)]
  · rw [if_neg e, if_neg (fun e' => e (nm_eq.2 e'))]

/-- Table, both. -/
theorem two_table_some {w : World} {p b q n : Nat} {K : Nat → Prop} {M D : List UInt8 → Option WayM} (h : Two w p b q K M D n) {t : Int} (hM : OkM M t) (name : ByteArray) (hs : name.size ≤ 1000) (m : WayM) (hm : M name.data.toList = some m) :
    Calls Try.prog 19 #[.pointer (some ⟨p, 0, none⟩), .string name] w fun e w' => ∃ A c B d, e = .returned (.tuple #[.agg #[.slice A m.now.length c, .slice B m.tags.length d], .bool true]) ∧
      (Kd.C k40 w' A m.now.length m.now ∧ m.now.length ≤ c ∧ Kd.C k42 w' B m.tags.length m.tags ∧ m.tags.length ≤ d) ∧ Below w.heap.size w w' := by
  obtain ⟨ok, h1, _⟩ := h
  refine (tableO h1 hM name hs m hm).mono ?_
  rintro e w' ⟨A, c, B, d, he, hr, _, _, hb⟩
  exact ⟨A, c, B, d, he, hr, hb⟩
theorem two_table_none {w : World} {p b q n : Nat} {K : Nat → Prop} {M D : List UInt8 → Option WayM} (h : Two w p b q K M D n) (name : ByteArray) (hs : name.size ≤ 1000) (hm : M name.data.toList = none) :
    Calls Try.prog 19 #[.pointer (some ⟨p, 0, none⟩), .string name] w fun e w' => e = .returned (.tuple #[.agg #[.slice none 0 0, .slice none 0 0], .bool false]) ∧ Below w.heap.size w w' := by
  obtain ⟨ok, ⟨okR, q1, _⟩, _⟩ := h
  exact table_none q1 name hs hm
theorem two_dtable_some {w : World} {p b q n : Nat} {K : Nat → Prop} {M D : List UInt8 → Option WayM} (h : Two w p b q K M D n) (hn : n ≤ 1000) {t : Int} (hM : OkM D t) (nm : ByteArray) (m : WayM) (hm : D nm.data.toList = some m) :
    Calls Try.prog 26 #[.pointer (some ⟨q, 0, none⟩), .string nm] w fun e w' => ∃ A c B d, e = .returned (.tuple #[.agg #[.slice A m.now.length c, .slice B m.tags.length d], .bool true]) ∧
      (Kd.C k40 w' A m.now.length m.now ∧ m.now.length ≤ c ∧ Kd.C k42 w' B m.tags.length m.tags ∧ m.tags.length ≤ d) ∧ Below w.heap.size w w' := by
  obtain ⟨ok, _, ⟨l, d1, _, d3, d4⟩, _⟩ := h
  have hw := hM _ m hm
  have hf : (findW l nm).map (·.m) = some m := (d3 nm).trans hm
  obtain ⟨x, hx, rfl⟩ := Option.map_eq_some_iff.1 hf
  refine (dtable_some d1 nm (by omega) x hx (by have := tab_len hw.cur; omega) (by have := hw.tags; omega)).mono ?_
  rintro e w' ⟨A, c, B, d, he, hr, _, hb⟩
  exact ⟨A, c, B, d, he, hr, hb⟩
theorem two_dtable_none {w : World} {p b q n : Nat} {K : Nat → Prop} {M D : List UInt8 → Option WayM} (h : Two w p b q K M D n) (hn : n ≤ 1000) (nm : ByteArray) (hm : D nm.data.toList = none) :
    Calls Try.prog 26 #[.pointer (some ⟨q, 0, none⟩), .string nm] w fun e w' => e = .returned (.tuple #[.agg #[.slice none 0 0, .slice none 0 0], .bool false]) ∧ Below w.heap.size w w' := by
  obtain ⟨ok, _, ⟨l, d1, _, d3, d4⟩, _⟩ := h
  have hf : (findW l nm).map (·.m) = none := (d3 nm).trans hm
  exact dtable_none d1 nm (by omega) (Option.map_eq_none_iff.1 hf)

end Go.Proofs.Ytnkmpkhiilnigaa.PA
