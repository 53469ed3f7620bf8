/- A map[int]bool that holds true at just the numbers of a list S: how the map's laws speak of S alone. Plain: no program. -/
import Derived.Maps.OwnSet
import Derived.Maps.Ext
import Derived.Lib.SlKeysI
namespace Go.Proofs.Ytefcchnmgnlanaa
open Go.Maps Go.RowKit

/-- The datum D is a map that holds true at each number of S, and nothing else. -/
structure SetIs (D : DataW Unit) (S : List Int) : Prop where
  tidy : Tidy D
  nodup : S.Nodup
  has_ : ∀ x : Int, Maps.has D (.int .i64 x) = decide (x ∈ S)
  at_ : ∀ x : Int, D.atKey (.int .i64 x) (.lit (.bool false)) = .lit (.bool (decide (x ∈ S)))
  size_ : Maps.size D = S.length

theorem SetIs.empty : SetIs (.map []) [] :=
  ⟨tidy_empty, List.nodup_nil, fun x => by simp [Maps.has], fun x => by simp [DataW.atKey], rfl⟩

theorem isKey_int (x : Int) : WideAt.IsKeyLit (.int .i64 x) := by simp [WideAt.IsKeyLit]

theorem SetIs.put {D : DataW Unit} {S : List Int} (h : SetIs D S) {x : Int} (hx : x ∉ S) : SetIs (D.put (.int .i64 x) (.lit (.bool true))) (x :: S) := by
  refine ⟨h.tidy.put (isKey_int x) _, List.nodup_cons.2 ⟨hx, h.nodup⟩, fun y => ?_, fun y => ?_, ?_⟩
  · by_cases e : y = x
    · subst e
      rw [has_put_same h.tidy.isMap (isKey_int y)]; simp
    · rw [has_put_other (by simpa using e), h.has_]; simp [e]
  · by_cases e : y = x
    · subst e
      rw [atKey_put_same h.tidy.isMap (isKey_int y)]; simp
    · rw [atKey_put_other (by simpa using e), h.at_]; simp [e]
  · rw [size_put h.tidy, h.has_, h.size_]; simp [hx]

theorem SetIs.del {D : DataW Unit} {S : List Int} (h : SetIs D S) (x : Int) : SetIs (D.del (.int .i64 x)) (S.erase x) := by
  refine ⟨h.tidy.del _, h.nodup.erase x, fun y => ?_, fun y => ?_, ?_⟩
  · by_cases e : y = x
    · subst e
      rw [has_del_same]; symm; simpa using h.nodup.not_mem_erase
    · rw [has_del_other (by simpa using e), h.has_]; simp [List.mem_erase_of_ne e]
  · by_cases e : y = x
    · subst e
      rw [atKey_del_same]
      have : y ∉ S.erase y := h.nodup.not_mem_erase
      simp [this]
    · rw [atKey_del_other (by simpa using e), h.at_]; simp [List.mem_erase_of_ne e]
  · have := size_del (k := .int .i64 x) h.tidy
    rw [h.has_, h.size_] at this
    by_cases e : x ∈ S
    · rw [List.length_erase_of_mem e]; simp [e] at this; omega
    · rw [List.erase_of_not_mem e]; simp [e] at this; omega

/-- A map's bound can be its own size. -/
theorem ownsMap_tight {P : Program} {k : TypeId} {R : Value → Option (DataW Unit × List MemPlace)} {w : World} {b n : Nat} {D : DataW Unit} (h : w.ownsMap P k R b n D) : w.ownsMap P k R b (Maps.size D) D := by
  obtain ⟨es, clock, hb, F, _, rfl⟩ := h
  exact ⟨es, clock, hb, F, by simp [Maps.size, length_sorted], rfl⟩

/-- The block b of w is a map[int]bool that holds true at just the numbers of S. -/
def OwnsSet (w : World) (P : Program) (k e : TypeId) (b : Nat) (S : List Int) : Prop := ∃ D : DataW Unit, w.ownsMap P k (plainElem P e) b S.length D ∧ SetIs D S

theorem SetIs.perm {P : Program} {k : TypeId} {R : Value → Option (DataW Unit × List MemPlace)} {w : World} {b n : Nat} {D : DataW Unit} {S : List Int} (hs : SetIs D S) (hown : w.ownsMap P k R b n D) (hk : P.underlying k = some (.int .i64)) : S.Perm (intKeys D) := by
  obtain ⟨es, hD, hpw, _⟩ := hown.entries (int_keyed hk)
  obtain ⟨es', hD', hko⟩ := hown.keysOf
  obtain rfl : es = es' := by rw [hD] at hD'; simpa using hD'
  subst hD
  exact perm_intKeys hpw (fun p hp => by obtain ⟨v, hv⟩ := hko p hp; obtain ⟨x, _, hx, _⟩ := Maps.keyOf_i64 hk hv; exact ⟨x, hx⟩) hs.nodup (fun x => by rw [hs.has_]; simp)

section
variable {P : Program} {k e : TypeId} {w : World} {b : Nat} {S : List Int}

theorem OwnsSet.of {n : Nat} {D : DataW Unit} (h : w.ownsMap P k (plainElem P e) b n D) (hs : SetIs D S) : OwnsSet w P k e b S := ⟨D, hs.size_ ▸ ownsMap_tight h, hs⟩

theorem OwnsSet.made (w : World) (P : Program) (k e : TypeId) : OwnsSet (w.alloc (.map #[] 0)) P k e w.heap.size [] := ⟨_, World.ownsMap_made w P k _, SetIs.empty⟩

theorem OwnsSet.lt (h : OwnsSet w P k e b S) : b < w.heap.size := by obtain ⟨D, h, _⟩ := h; exact h.lt
theorem OwnsSet.nodup (h : OwnsSet w P k e b S) : S.Nodup := by obtain ⟨D, _, h⟩ := h; exact h.nodup

theorem OwnsSet.wf (h : OwnsSet w P k e b S) (hk : P.underlying k = some (.int .i64)) : ∀ x ∈ S, (Lit.int .i64 x).wf = true := by
  obtain ⟨D, h, hs⟩ := h
  exact fun x hx => intKeys_wf h hk x ((hs.perm h hk).subset hx)

/-- The block is as it was: the set is as it was. -/
theorem OwnsSet.same {w' : World} (h : OwnsSet w P k e b S) (hb : w'.heap[b]? = w.heap[b]?) : OwnsSet w' P k e b S := by
  obtain ⟨D, ⟨es, clock, hm, r⟩, hs⟩ := h
  exact ⟨D, ⟨es, clock, hb.trans hm, r⟩, hs⟩

end

section
variable {P : Program} (w : World) {ops : Array Oper} {rest : List Oper} {o : Oper} {a : Act} {Q : Exit → Act → World → Prop}

/-- 'm[x]'. -/
theorem wpList_lookup_set (hg : o.guard = none) (m x : Operand) (t : TypeId) (hop : o.op = Op.lookup t m x false)
    (k e : TypeId) (hk : P.underlying k = some (.int .i64)) (ht : P.underlying t = some (.map k e)) (he : P.underlying e = some .bool) (hz : (zeroValue e).run P w = .ok (.bool false) w) (b : Nat) (S : List Int)
    (hm : a.eval m = .map (some b)) (hown : OwnsSet w P k e b S) (y : Int) (hx : a.eval x = .int .i64 y) (hw : (Lit.int .i64 y).wf = true) (c : Bool) (hc : decide (y ∈ S) = c)
    (hK : wpList P ops Q rest (a.put o.dst (.bool c)) w) :
    wpList P ops Q (o :: rest) a w := by
  obtain ⟨D, hown, hs⟩ := hown
  refine wpList_plain hg fun K' hK' => ?_
  obtain ⟨v, ps, hrun, hv⟩ := hown.lookup (int_keyed hk) ht hz (plainElem_bool he false) (keyOf_int_mk hk hw)
  have hv' : v = .bool c := by
    rw [hs.at_, hc] at hv
    unfold plainElem at hv
    rw [he] at hv
    cases v <;> simp at hv
    rw [hv.1]
  subst hv'
  unfold Oper.wp
  simp [execOp, hop, hm, hx, hrun, Result.andThen]
  exact hK' _ _ hK

/-- 'm[x] = true', x not there. -/
theorem wpList_put_set (hg : o.guard = none) (m x v : Operand) (t : TypeId) (hop : o.op = Op.mapUpdate t m x v)
    (k e : TypeId) (hk : P.underlying k = some (.int .i64)) (ht : P.underlying t = some (.map k e)) (he : P.underlying e = some .bool) (b : Nat) (S : List Int)
    (hm : a.eval m = .map (some b)) (hown : OwnsSet w P k e b S) (hn : S.length < maxLen) (y : Int) (hx : a.eval x = .int .i64 y) (hw : (Lit.int .i64 y).wf = true) (hv : a.eval v = .bool true) (hy : y ∉ S)
    (hK : ∀ w', OwnsSet w' P k e b (y :: S) → w.mapTurned w' b → wpList P ops Q rest (a.put o.dst undef) w') :
    wpList P ops Q (o :: rest) a w := by
  obtain ⟨D, hown, hs⟩ := hown
  exact wpList_mapUpdate_in w hg m x v t hop k e (int_keyed hk) ht (plainElem P e) b S.length D hm hown hn _ _ _ hx hv (keyOf_int_mk hk hw) _ [] (plainElem_bool he true) fun w' h1 h2 => hK w' (OwnsSet.of h1 (hs.put hy)) h2

/-- 'delete(m, x)'. -/
theorem wpList_del_set (hg : o.guard = none) (m x : Operand) (t k : TypeId) (hop : o.op = Op.call { callee := Callee.builtin Builtin.delete, args := #[m, x], argTypes := #[t, k] })
    (e : TypeId) (hk : P.underlying k = some (.int .i64)) (ht : P.underlying t = some (.map k e)) (b : Nat) (S : List Int)
    (hm : a.eval m = .map (some b)) (hown : OwnsSet w P k e b S) (y : Int) (hx : a.eval x = .int .i64 y) (hw : (Lit.int .i64 y).wf = true)
    (hK : ∀ w', OwnsSet w' P k e b (S.erase y) → w.mapTurned w' b → wpList P ops Q rest (a.put o.dst (.tuple #[])) w') :
    wpList P ops Q (o :: rest) a w := by
  obtain ⟨D, hown, hs⟩ := hown
  exact wpList_delete_own w hg m x t k hop e (int_keyed hk) ht (plainElem P e) b S.length D hm hown _ _ hx (keyOf_int_mk hk hw) fun w' h1 h2 => hK w' (OwnsSet.of h1 (hs.del y)) h2

/-- 'len(m)'. -/
theorem wpList_len_set (hg : o.guard = none) (m : Operand) (t : TypeId) (hop : o.op = Op.call { callee := Callee.builtin Builtin.len, args := #[m], argTypes := #[t] })
    (k e : TypeId) (ht : P.underlying t = some (.map k e)) (b : Nat) (S : List Int) (hm : a.eval m = .map (some b)) (hown : OwnsSet w P k e b S)
    (hK : wpList P ops Q rest (a.put o.dst (.int .i64 S.length)) w) :
    wpList P ops Q (o :: rest) a w := by
  obtain ⟨D, hown, hs⟩ := hown
  exact wpList_len_own w hg m t hop k e ht (plainElem P e) b S.length D hm hown (by rw [hs.size_]; exact hK)
end

end Go.Proofs.Ytefcchnmgnlanaa
