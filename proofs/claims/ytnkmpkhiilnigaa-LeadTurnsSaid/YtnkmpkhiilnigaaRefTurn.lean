/- The document's Roller: Turn. (Printed by genx.py from refturn.src.) -/
import Derived.Test.YtnkmpkhiilnigaaRefRoller
import Derived.Deep.CutRange
import Derived.Deep.DeepCutAuto
namespace Go.Proofs.Ytnkmpkhiilnigaa.PA
open Go.RowKit Go.Shelf Go.Lib Go.Sort Go.Proofs.YtnkmpkhiilnigaaW.PrintWords Go.Proofs.YtnkmpkhiilnigaaW.PrintLast

/-- append, in a plain region: only the row's own block may change. -/
theorem list_appO {P : Program} {α : Type} (E : El P α) {ops : Array Oper} {rest : List Oper} {o : Oper} {a : Act} {Q : Exit → Act → World → Prop} (w : World) (hgd : o.guard = none) (s x : Operand) (ho : o.op = .call { callee := .builtin .append, args := #[s, x], argTypes := #[E.t, E.t] })
    (B : Nat) (v : Value) (xs : List α) (hs : a.eval s = v) (hown : RowG E w B v xs)
    (A : Option Addr) (m c : Nat) (ys : List α) (hx : a.eval x = .slice A m c) (hm : ys.length = m) (hsrc : SrcG E w A ys) (hn : xs.length ≤ 1000000) (hm6 : m ≤ 1000000) (hB : B ≤ w.heap.size)
    (h : ∀ v' w', RowG E w' B v' (xs ++ ys) → Chg (fun k => v.ownBlock = some k) w w' → (v'.ownBlock = v.ownBlock ∨ v'.ownBlock = some w.heap.size) → wpList P ops Q rest (a.put o.dst v') w') : wpList P ops Q (o :: rest) a w := by
  subst hm
  have hown' : w.ownsRow B E.e E.size v xs.length (xs.flatMap E.enc) := hown
  obtain ⟨i0, hi, hz, hsize, hby⟩ := info_parts E.hinfo
  refine wpList_append_any (P := P) w hgd s x E.t ho B E.e i0 E.z E.size E.bytes E.ht hi hz hsize hby E.hzs E.hsz v xs.length (xs.flatMap E.enc) hs hown' A ys.length c (ys.flatMap E.enc) hx (El.len E ys) hsrc
    (fun u hu => by obtain ⟨y, _, hy⟩ := List.mem_flatMap.1 hu; exact E.h1 y u hy) (by unfold maxLen; omega) (by have := Nat.mul_le_mul (show xs.length + ys.length ≤ 2000000 by omega) E.hb; omega) hB ?_
  intro v' w' h1 h2 h3 h4
  exact h v' w' (by unfold RowG; rw [List.length_append, List.flatMap_append]; exact h1) (Chg.of_grownBy h2 (fun k e => e)) h4

/-- A way is another one. -/
def updW (l : List DW) (g : Nat) (m : WayM) : List DW := l.map (fun y => if y.g = g then ⟨y.g, y.nm, m⟩ else y)
theorem updW_g (l : List DW) (g : Nat) (m : WayM) : (updW l g m).map (·.g) = l.map (·.g) := by
  unfold updW
  rw [List.map_map]
  refine List.map_congr_left (fun y _ => ?_)
  show (if y.g = g then (⟨y.g, y.nm, m⟩ : DW) else y).g = y.g
  split <;> rfl
theorem updW_len (l : List DW) (g : Nat) (m : WayM) : (updW l g m).length = l.length := by unfold updW; rw [List.length_map]
/-- What a name has. -/
def findM (l : List DW) (nm : ByteArray) : Option WayM := (findW l nm).map (·.m)
theorem g_inj {l : List DW} (h : (l.map (·.g)).Nodup) {x y : DW} (hx : x ∈ l) (hy : y ∈ l) (e : x.g = y.g) : x = y := by
  induction l with
  | nil => cases hx
  | cons z t ih =>
    rw [List.map_cons, List.nodup_cons] at h
    rcases List.mem_cons.1 hx with rfl | hx'
    · rcases List.mem_cons.1 hy with rfl | hy'
      · rfl
      · exact absurd (List.mem_map.2 ⟨y, hy', e.symm⟩) h.1
    · rcases List.mem_cons.1 hy with rfl | hy'
      · exact absurd (List.mem_map.2 ⟨x, hx', e⟩) h.1
      · exact ih h.2 hx' hy'
theorem DocAt.upd {w w' : World} {p : Nat} {ok : Nat → Prop} {l : List DW} (h : DocAt w p ok l) {x : DW} (hx : x ∈ l) {m : WayM} (hc : Chg (fun k => k = x.g) w w') (hn : DWAt w' ok ⟨x.g, x.nm, m⟩) : DocAt w' p ok (updW l x.g m) := by
  obtain ⟨⟨base, A, c, h1, h2, h3⟩, h4, h5, h6, h7⟩ := h
  have hxb : ∃ cs, Blk w x.g cs 76 := by obtain ⟨A0, c0, A1, c1, A2, c2, A3, c3, hk, _⟩ := h4 x hx; exact ⟨_, hk⟩
  obtain ⟨cs, hxb⟩ := hxb
  have hne : ∀ {q : Nat} {cs' : Array Value} {t : TypeId}, Blk w q cs' t → t ≠ 76 → ¬ q = x.g := fun hk ht e => by
    subst e
    unfold Blk at hk hxb
    rw [hk] at hxb
    cases hxb
    exact ht rfl
  refine ⟨⟨base, A, c, by rw [updW_len]; exact h1.chg hc (hne h1 (by decide)), ?_, by rw [updW_len]; exact h3⟩, fun y hy => ?_, by rw [updW_g]; exact h5, h6, fun k hk y hy => ?_⟩
  · rw [updW_g, updW_len]
    obtain ⟨q1, q2⟩ := h2
    refine ⟨q1, ?_⟩
    rcases q2 with q2 | ⟨g, cap, cur, hv, hg, hh, r⟩
    · exact .inl q2
    · exact .inr ⟨g, cap, cur, hv, hg, (hc.block g (Array.getElem?_eq_some_iff.1 hh).1 (hne (t := 73) hh (by decide))).trans hh, r⟩
  · unfold updW at hy
    obtain ⟨z, hz, rfl⟩ := List.mem_map.1 hy
    by_cases e : z.g = x.g
    · obtain rfl := g_inj h5 hz hx e
      rw [if_pos rfl]
      exact hn
    · rw [if_neg e]
      exact (h4 z hz).chg hc e (fun k hk _ e' => h7 k hk x hx e')
  · unfold updW at hy
    obtain ⟨z, hz, rfl⟩ := List.mem_map.1 hy
    have : (if z.g = x.g then (⟨z.g, z.nm, m⟩ : DW) else z).g = z.g := by split <;> rfl
    rw [this]
    exact h7 k hk z hz
theorem find_upd {l : List DW} (h : (l.map (·.g)).Nodup) {nm : ByteArray} {x : DW} (hx : findW l nm = some x) (m : WayM) : findW (updW l x.g m) nm = some ⟨x.g, x.nm, m⟩ := by
  induction l with
  | nil => cases hx
  | cons z t ih =>
    unfold findW at hx
    rw [List.find?_cons] at hx
    show findW ((if z.g = x.g then ⟨z.g, z.nm, m⟩ else z) :: updW t x.g m) nm = _
    unfold findW
    rw [List.find?_cons]
    by_cases e : (z.nm.toList == nm.toList) = true
    · rw [e] at hx
      cases hx
      rw [if_pos rfl]
      simp only [e]
    · have e0 : (z.nm.toList == nm.toList) = false := by simpa using e
      rw [e0] at hx
      have hne : z.g ≠ x.g := fun e' => by
        rw [List.map_cons, List.nodup_cons] at h
        exact h.1 (List.mem_map.2 ⟨x, List.mem_of_find?_eq_some hx, e'.symm⟩)
      rw [if_neg hne]
      simp only [e0]
      rw [List.map_cons, List.nodup_cons] at h
      exact ih h.2 hx
theorem findM_other {l : List DW} {nm nm' : ByteArray} {x : DW} (h : (l.map (·.g)).Nodup) (hx : findW l nm = some x) (m : WayM) (hne : nm'.toList ≠ nm.toList) : findM (updW l x.g m) nm' = findM l nm' := by
  have hxn : x.nm.toList = nm.toList := by
    unfold findW at hx
    have := List.find?_some hx
    simpa using this
  have hmem : x ∈ l := List.mem_of_find?_eq_some hx
  clear hx
  have hall : ∀ y ∈ l, y.g = x.g → y.nm.toList = nm.toList := fun y hy e => by rw [g_inj h hy hmem e]; exact hxn
  clear hmem h
  unfold findM
  induction l with
  | nil => rfl
  | cons z t ih =>
    show (findW ((if z.g = x.g then ⟨z.g, z.nm, m⟩ else z) :: updW t x.g m) nm').map _ = _
    unfold findW
    rw [List.find?_cons, List.find?_cons]
    by_cases e : z.g = x.g
    · rw [if_pos e]
      have h1 : (z.nm.toList == nm'.toList) = false := by
        have := hall z (List.mem_cons_self ..) e
        rw [this]
        simpa using fun e => hne e.symm
      simp only [h1]
      exact ih (fun y hy => hall y (List.mem_cons_of_mem _ hy))
    · rw [if_neg e]
      cases (z.nm.toList == nm'.toList) with
      | true => rfl
      | false => exact ih (fun y hy => hall y (List.mem_cons_of_mem _ hy))

theorem own_type {w : World} {base : Nat} {v : Value} {gs : List Nat} (h : RowG elW w base v gs) {k : Nat} (hk : v.ownBlock = some k) : ∃ cur, Blk w k cur 73 := by
  rcases h.2 with ⟨rfl, _⟩ | ⟨g, cap, cur, rfl, _, hh, _⟩
  · simp [Value.ownBlock] at hk
  · obtain rfl : g = k := by simpa [Value.ownBlock] using hk
    exact ⟨cur, hh⟩
theorem blk_neT {w : World} {p q : Nat} {cs cs' : Array Value} {t t' : TypeId} (h : Blk w p cs t) (h' : Blk w q cs' t') (ht : t ≠ t') : p ≠ q := fun e => by
  subst e
  unfold Blk at h h'
  rw [h] at h'
  cases h'
  exact ht rfl
theorem DWAt.blk {w : World} {ok : Nat → Prop} {x : DW} (h : DWAt w ok x) : ∃ cs, Blk w x.g cs 76 := by
  obtain ⟨A0, c0, A1, c1, A2, c2, A3, c3, hk, _⟩ := h
  exact ⟨_, hk⟩

/-- A way more. -/
theorem doc_push {w1 w2 w3 : World} {p base c c' : Nat} {ok : Nat → Prop} {l : List DW} {A A' : Option Addr} (h1 : Blk w1 p #[.slice A l.length c] 52) (h2 : RowG elW w1 base (.slice A l.length c) (l.map (·.g))) (h3 : ∀ k, ok k → (Value.slice A l.length c).ownBlock ≠ some k)
    {G : Nat} {nm : ByteArray} {m : WayM} (h4 : ∀ x ∈ l, DWAt w1 (fun k => ok k ∧ k ≠ G) x) (h5 : (l.map (·.g)).Nodup) (h6 : ∀ k, ok k → k ≠ p) (h7 : ∀ k, ok k → ∀ x ∈ l, k ≠ x.g)
    (hn : DWAt w1 (fun k => ok k ∧ k ≠ G) ⟨G, nm, m⟩) (hG : ∀ x ∈ l, x.g ≠ G) (r2 : RowG elW w2 base (.slice A' (l.length + 1) c') (l.map (·.g) ++ [G])) (c2 : Chg (fun k => (Value.slice A l.length c).ownBlock = some k) w1 w2)
    (ho : (Value.slice A' (l.length + 1) c').ownBlock = (Value.slice A l.length c).ownBlock ∨ (Value.slice A' (l.length + 1) c').ownBlock = some w1.heap.size) (e3 : w3 = w2.setCell ⟨p, 0, none⟩ (.slice A' (l.length + 1) c')) :
    DocAt w3 p (fun k => ok k ∧ k ≠ G ∧ (Value.slice A' (l.length + 1) c').ownBlock ≠ some k) (l ++ [⟨G, nm, m⟩]) := by
  have hpo : ¬ (Value.slice A l.length c).ownBlock = some p := fun e => by
    obtain ⟨cur, hk⟩ := own_type h2 e
    exact blk_neT h1 hk (by decide) rfl
  have k2 := h1.chg c2 hpo
  have hpo' : ¬ (Value.slice A' (l.length + 1) c').ownBlock = some p := fun e => by
    obtain ⟨cur, hk⟩ := own_type r2 e
    exact blk_neT k2 hk (by decide) rfl
  have c3 : Chg (fun k => k = p) w2 w3 := by rw [e3]; exact (Chg.refl (fun k => k = p) w2).setCell (fun _ => rfl) _
  have k3 : Blk w3 p #[.slice A' (l.length + 1) c'] 52 := by rw [e3]; exact k2.set 0 _ rfl
  have hway : ∀ x : DW, DWAt w1 (fun k => ok k ∧ k ≠ G) x → DWAt w3 (fun k => ok k ∧ k ≠ G ∧ (Value.slice A' (l.length + 1) c').ownBlock ≠ some k) x := fun x hx => by
    have hx' : DWAt w1 (fun k => ok k ∧ k ≠ G ∧ (Value.slice A' (l.length + 1) c').ownBlock ≠ some k) x := hx.okm (fun k hk hlt => ⟨hk.1, hk.2, fun e => by
      rcases ho with ho | ho
      · exact h3 k hk.1 (ho.symm.trans e)
      · rw [ho] at e
        cases e
        exact Nat.lt_irrefl _ hlt⟩)
    obtain ⟨cs, hb⟩ := hx'.blk
    have hx2 := hx'.chg c2 (fun e => by
      obtain ⟨cur, hk⟩ := own_type h2 e
      exact blk_neT hb hk (by decide) rfl) (fun k hk _ e => h3 k hk.1 e)
    exact hx2.chg c3 (fun e => by
      subst e
      exact blk_neT h1 hb (by decide) rfl) (fun k hk _ e => h6 k hk.1 e)
  refine ⟨⟨base, A', c', by rw [List.length_append]; exact k3, ?_, by rw [List.length_append]; exact fun k hk => hk.2.2⟩, fun x hx => ?_, ?_, fun k hk => h6 k hk.1, fun k hk x hx => ?_⟩
  · rw [List.map_append, List.length_append]
    obtain ⟨q1, q2⟩ := r2
    refine ⟨q1, ?_⟩
    rcases q2 with q2 | ⟨g, cap, cur, hv, hg, hh, r⟩
    · exact .inl q2
    · exact .inr ⟨g, cap, cur, hv, hg, (c3.block g (Array.getElem?_eq_some_iff.1 hh).1 (fun e => by
        subst e
        exact blk_neT k2 hh (by decide) rfl)).trans hh, r⟩
  · rcases List.mem_append.1 hx with hx | hx
    · exact hway x (h4 x hx)
    · rw [List.mem_singleton.1 hx]
      exact hway _ hn
  · rw [List.map_append, List.nodup_append]
    refine ⟨h5, by simp, fun a ha b hb e => ?_⟩
    obtain ⟨x, hx, rfl⟩ := List.mem_map.1 ha
    rw [List.map_singleton, List.mem_singleton] at hb
    exact hG x hx (e.trans hb)
  · rcases List.mem_append.1 hx with hx | hx
    · exact h7 k hk.1 x hx
    · rw [List.mem_singleton.1 hx]
      exact hk.2.1
theorem find_push {l : List DW} {nm : ByteArray} (hx : findW l nm = none) (G : Nat) (m : WayM) (nm' : ByteArray) : findM (l ++ [⟨G, nm, m⟩]) nm' = if nm'.toList = nm.toList then some m else findM l nm' := by
  unfold findM findW at *
  rw [List.find?_append]
  by_cases e : nm'.toList = nm.toList
  · rw [if_pos e, e, hx]
    simp
  · rw [if_neg e]
    have h1 : (nm.toList == nm'.toList) = false := by simpa using fun h => e h.symm
    cases List.find? (fun x : DW => x.nm.toList == nm'.toList) l with
    | none => simp [h1]
    | some y => rfl

/-- Two rows of Shares, compared by the document. -/
theorem eq_rest (l m : List S40) (hlen : l.length = m.length) (hl : l.length ≤ 1000000) : ∀ n i : Nat, i + n = l.length → damperref5_Shares.l0 (n + 1) l m (i : Int) = some (eqL (l.drop i) (m.drop i)) := by
  intro n
  induction n with
  | zero =>
    intro i hi
    unfold damperref5_Shares.l0
    rw [if_neg (by omega), List.drop_of_length_le (by omega), List.drop_of_length_le (by omega)]
    rfl
  | succ n ih =>
    intro i hi
    unfold damperref5_Shares.l0
    rw [if_pos (by omega), if_pos (by omega), if_pos (by omega), w64 (by omega) (by omega), eqL_drop (by omega) (by omega)]
    have h1 := ih (i + 1) (by omega)
    rw [show ((i + 1 : Nat) : Int) = (i : Int) + 1 by omega] at h1
    have e1 : rd_T40 l (i : Int) = l.getD i z40 := by simp [rd_T40, List.getD_eq_getElem?_getD]
    have e2 : rd_T40 m (i : Int) = m.getD i z40 := by simp [rd_T40, List.getD_eq_getElem?_getD]
    rw [e1, e2]
    generalize l.getD i z40 = x
    generalize m.getD i z40 = y
    have hx : (!(x.f0.toList == y.f0.toList) || !(x.f1 == y.f1)) = !(eqS x y) := by
      unfold eqS
      cases (x.f0.toList == y.f0.toList) <;> cases (x.f1 == y.f1) <;> rfl
    rw [hx]
    cases eqS x y with
    | true => rw [if_neg (by decide), h1]; simp
    | false => rw [if_pos (by decide)]; simp
theorem eq_f (l m : List S40) (hl : l.length ≤ 1000000) : damperref5_Shares.f (l.length + 1) l m = some (eqL l m) := by
  unfold damperref5_Shares.f
  by_cases e : (l.length : Int) = (m.length : Int)
  · rw [if_pos e]
    exact eq_rest l m (by omega) hl l.length 0 (by omega)
  · rw [if_neg e, eqL_len (by omega)]

end Go.Proofs.Ytnkmpkhiilnigaa.PA
