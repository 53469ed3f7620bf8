/- Books of one configuration: what Stamp, Prove, Latest do there, in plain words. -/
import Derived.Test.YtnkmpkhiilnigaaDoorSLatestB
set_option linter.unusedSimpArgs false
set_option linter.unusedVariables false
namespace Go.Proofs.YtnkmpkhiilnigaaDoor.PB
open Go.RowKit Go.Shelf Go.Lib Go.Sort Go.Maps Go.Proofs.YtnkmpkhiilnigaaDoorW.PrintWords Go.Proofs.YtnkmpkhiilnigaaDoorW.PrintLast

theorem stamp_callsE {w : World} {p b1 b2 : Nat} {L : List RevM} (h : BookAt w p b1 b2 L) (hL : OkL L) (c : CfgM) (hv : ValidN c.nm) (g : Int) (h0 : 1 ≤ g) (h1 : g ≤ 999999) (ht : ∀ w', Below w.heap.size w w' → Pow10 w') {v : Value} (hE : encC c = v) {nm : ByteArray} (hn : c.nm = nm) :
    Calls Tryd.prog 8 #[.pointer (some ⟨p, 0, none⟩), v, .int .i64 g] w fun e w' => e = .returned (.tuple #[.string (revN nm g), .bool (findR L (revN nm g).data.toList).isNone]) ∧ BookAt w' p b1 b2 (stampL L c g) ∧ Chg (fun k => k = b1 ∨ k = b2) w w' := by
  subst hE
  subst hn
  exact stamp_calls h hL c hv g h0 h1 ht

/-- All are of one configuration. -/
def AllOf (c : CfgM) (L : List RevM) : Prop := ∀ r ∈ L, r.c = c
theorem AllOf.nil (c : CfgM) : AllOf c [] := fun r hr => by simp at hr
theorem AllOf.stamp {c : CfgM} {L : List RevM} (h : AllOf c L) (g : Int) : AllOf c (stampL L c g) := fun r hr => by
  unfold stampL at hr
  split at hr
  · rcases List.mem_append.1 hr with hr | hr
    · exact h r hr
    · rw [List.mem_singleton.1 hr]
  · exact h r hr
theorem AllOf.prove {c : CfgM} {L : List RevM} (h : AllOf c L) (x : List UInt8) : AllOf c (proveL L x) := fun r hr => by
  unfold proveL at hr
  obtain ⟨s, hs, rfl⟩ := List.mem_map.1 hr
  split
  · exact h s hs
  · exact h s hs
/-- Found by its number. -/
theorem find_gen {c : CfgM} {L : List RevM} (h : AllOf c L) (hL : OkL L) {g : Int} (h0 : 1 ≤ g) {r : RevM} (hr : r ∈ L) (hg : r.g = g) : findR L (revN c.nm g).data.toList = some r := by
  have : (revN c.nm g).data.toList = r.key := by
    show _ = (revN r.c.nm r.g).data.toList
    rw [h r hr, hg]
  rw [this]
  exact findR_mem hL.nodup hr
theorem find_gen_none {c : CfgM} {L : List RevM} (h : AllOf c L) (hL : OkL L) {g : Int} (h0 : 1 ≤ g) (hn : ∀ r ∈ L, r.g ≠ g) : findR L (revN c.nm g).data.toList = none := by
  cases e : findR L (revN c.nm g).data.toList with
  | none => rfl
  | some r =>
    obtain ⟨h1, h2⟩ := findR_some e
    have h3 := (hL.each r h1).2.1
    exact absurd (revN_inj (by omega) (by omega) h2).2 (hn r h1)
/-- Stamped: it is there. -/
theorem stamp_there (L : List RevM) (c : CfgM) {g : Int} (h : AllOf c L) (h0 : 1 ≤ g) (hL : OkL L) : ∃ r ∈ stampL L c g, r.g = g := by
  unfold stampL
  cases e : findR L (revN c.nm g).data.toList with
  | none =>
    rw [if_pos (by rfl)]
    exact ⟨⟨c, g, false⟩, List.mem_append_right _ (List.mem_singleton.2 rfl), rfl⟩
  | some r =>
    rw [if_neg (by simp)]
    obtain ⟨h1, h2⟩ := findR_some e
    have h3 := (hL.each r h1).2.1
    exact ⟨r, h1, (revN_inj (by omega) (by omega) h2).2⟩
theorem stamp_mem {L : List RevM} {c : CfgM} {g : Int} {r : RevM} : r ∈ L → r ∈ stampL L c g := fun hr => by
  unfold stampL
  split
  · exact List.mem_append_left _ hr
  · exact hr
theorem stamp_inv {L : List RevM} {c : CfgM} {g : Int} {r : RevM} (hr : r ∈ stampL L c g) : r ∈ L ∨ r = ⟨c, g, false⟩ := by
  unfold stampL at hr
  split at hr
  · rcases List.mem_append.1 hr with hr | hr
    · exact .inl hr
    · exact .inr (List.mem_singleton.1 hr)
  · exact .inl hr

/-- The greatest number of those that p asks; nought: there is none. -/
def Top (p : RevM → Bool) (L : List RevM) (m : Int) : Prop := (m = 0 ∧ ∀ r ∈ L, p r = false) ∨ (∃ r ∈ L, p r = true ∧ r.g = m) ∧ ∀ r ∈ L, p r = true → r.g ≤ m
def nameOf (nm : ByteArray) (g : Int) : ByteArray := if g = 0 then ⟨#[]⟩ else revN nm g
theorem Top.nil (p : RevM → Bool) : Top p [] 0 := .inl ⟨rfl, fun r hr => by simp at hr⟩
theorem top_latest {nm : ByteArray} {L : List RevM} (hc : ∀ r ∈ L, r.c.nm = nm) (hL : OkL L) {B : List UInt8 → Bool} {p : RevM → Bool} (hB : ∀ r ∈ L, B r.key = p r) {m : Int} (h : Top p L m) : latestN L nm B = nameOf nm m := by
  have ha : ∀ r ∈ L, askR nm B r = p r := fun r hr => by
    unfold askR
    rw [hc r hr, hB r hr]
    simp
  unfold latestN nameOf
  rcases h with ⟨rfl, h⟩ | ⟨⟨r, hr, hp, rfl⟩, h⟩
  · rw [if_pos rfl]
    cases e : bestR (askR nm B) L with
    | none => rfl
    | some b =>
      obtain ⟨h1, h2⟩ := bestR_in e
      rw [ha b h1, h b h1] at h2
      cases h2
  · have h0 := (hL.each r hr).2.1
    rw [if_neg (by omega)]
    obtain ⟨b, e, hg⟩ := bestR_ge hr ((ha r hr).trans hp)
    obtain ⟨h1, h2⟩ := bestR_in e
    rw [e]
    have h3 := h b h1 ((ha b h1).symm.trans h2)
    have h4 : b.g = r.g := by omega
    show revN b.c.nm b.g = _
    rw [hc b h1, h4]
theorem top_none {nm : ByteArray} {L : List RevM} (hc : ∀ r ∈ L, r.c.nm.toList ≠ nm.toList) (B : List UInt8 → Bool) : latestN L nm B = ⟨#[]⟩ := by
  unfold latestN
  cases e : bestR (askR nm B) L with
  | none => rfl
  | some b =>
    obtain ⟨h1, h2⟩ := bestR_in e
    unfold askR at h2
    simp only [Bool.and_eq_true, beq_iff_eq] at h2
    exact absurd h2.1 (hc b h1)
theorem provedL_mem {L : List RevM} (hL : OkL L) {r : RevM} (hr : r ∈ L) : provedL L r.key = r.ok := by
  unfold provedL
  cases e : r.ok with
  | true => exact List.any_eq_true.2 ⟨r, hr, by simp [e]⟩
  | false =>
    rw [Bool.eq_false_iff]
    intro h
    obtain ⟨s, hs, h2⟩ := List.any_eq_true.1 h
    simp only [Bool.and_eq_true, beq_iff_eq] at h2
    have h1 := findR_mem hL.nodup hs
    rw [h2.1, findR_mem hL.nodup hr] at h1
    rw [← Option.some.inj h1, e] at h2
    cases h2.2
theorem Top.all_stamp {L : List RevM} {c : CfgM} (hL : OkL L) (ha : AllOf c L) {m g : Int} (h : Top (fun _ => true) L m) (h0 : 1 ≤ g) : Top (fun _ => true) (stampL L c g) (max m g) := by
  have hm : 0 ≤ m ∧ ∀ r ∈ L, r.g ≤ m := by
    rcases h with ⟨rfl, h⟩ | ⟨⟨r, hr, _, rfl⟩, h⟩
    · exact ⟨by omega, fun r hr => by cases h r hr⟩
    · exact ⟨by have := (hL.each r hr).2.1; omega, fun r hr => h r hr rfl⟩
  obtain ⟨s, hs, hsg⟩ := stamp_there L c ha h0 hL
  have hle : ∀ r ∈ stampL L c g, r.g ≤ max m g := fun r hr => by
    rcases stamp_inv hr with hr | rfl
    · have := hm.2 r hr; omega
    · show g ≤ max m g; omega
  refine .inr ⟨?_, fun r hr _ => hle r hr⟩
  by_cases e : m ≤ g
  · exact ⟨s, hs, rfl, by omega⟩
  · rcases h with ⟨rfl, h⟩ | ⟨⟨r, hr, _, rfl⟩, h⟩
    · omega
    · exact ⟨r, stamp_mem hr, rfl, by omega⟩
theorem Top.ok_stamp {L : List RevM} {c : CfgM} {m g : Int} (h : Top RevM.ok L m) : Top RevM.ok (stampL L c g) m := by
  rcases h with ⟨rfl, h⟩ | ⟨⟨r, hr, hp, rfl⟩, h⟩
  · refine .inl ⟨rfl, fun r hr => ?_⟩
    rcases stamp_inv hr with hr | rfl
    · exact h r hr
    · rfl
  · refine .inr ⟨⟨r, stamp_mem hr, hp, rfl⟩, fun s hs hp => ?_⟩
    rcases stamp_inv hs with hs | rfl
    · exact h s hs hp
    · cases hp
theorem prove_inv {L : List RevM} {x : List UInt8} {r : RevM} (hr : r ∈ proveL L x) : ∃ s ∈ L, r.c = s.c ∧ r.g = s.g ∧ (r.ok = true ↔ s.ok = true ∨ s.key = x) := by
  unfold proveL at hr
  obtain ⟨s, hs, rfl⟩ := List.mem_map.1 hr
  refine ⟨s, hs, ?_⟩
  by_cases e : s.key = x
  · rw [if_pos (by simpa using e)]; exact ⟨rfl, rfl, by simp [e]⟩
  · rw [if_neg (by simpa using e)]; exact ⟨rfl, rfl, by simp [e]⟩
theorem prove_mem {L : List RevM} {x : List UInt8} {s : RevM} (hs : s ∈ L) : ∃ r ∈ proveL L x, r.c = s.c ∧ r.g = s.g ∧ (r.ok = true ↔ s.ok = true ∨ s.key = x) := by
  refine ⟨_, List.mem_map.2 ⟨s, hs, rfl⟩, ?_⟩
  by_cases e : s.key = x
  · rw [if_pos (by simpa using e)]; exact ⟨rfl, rfl, by simp [e]⟩
  · rw [if_neg (by simpa using e)]; exact ⟨rfl, rfl, by simp [e]⟩
theorem Top.all_prove {L : List RevM} {x : List UInt8} {m : Int} (h : Top (fun _ => true) L m) : Top (fun _ => true) (proveL L x) m := by
  rcases h with ⟨rfl, h⟩ | ⟨⟨r, hr, _, rfl⟩, h⟩
  · refine .inl ⟨rfl, fun r hr => ?_⟩
    obtain ⟨s, hs, _⟩ := prove_inv hr
    exact h s hs
  · obtain ⟨s, hs, _, e, _⟩ := prove_mem (x := x) hr
    refine .inr ⟨⟨s, hs, rfl, e⟩, fun t ht _ => ?_⟩
    obtain ⟨u, hu, _, e, _⟩ := prove_inv ht
    rw [e]
    exact h u hu rfl
theorem Top.ok_prove {L : List RevM} {c : CfgM} (hL : OkL L) (ha : AllOf c L) {m g : Int} (h : Top RevM.ok L m) (h0 : 1 ≤ g) {r : RevM} (hr : r ∈ L) (hg : r.g = g) : Top RevM.ok (proveL L (revN c.nm g).data.toList) (max m g) := by
  have hk : r.key = (revN c.nm g).data.toList := by
    show (revN r.c.nm r.g).data.toList = _
    rw [ha r hr, hg]
  have hu : ∀ s ∈ L, s.key = (revN c.nm g).data.toList → s.g = g := fun s hs e => by
    have := (hL.each s hs).2.1
    exact (revN_inj (by omega) (by omega) e).2
  have hm : 0 ≤ m ∧ ∀ s ∈ L, s.ok = true → s.g ≤ m := by
    rcases h with ⟨rfl, h⟩ | ⟨⟨s, hs, _, rfl⟩, h⟩
    · exact ⟨by omega, fun s hs e => by rw [h s hs] at e; cases e⟩
    · exact ⟨by have := (hL.each s hs).2.1; omega, h⟩
  refine .inr ⟨?_, fun s hs e => ?_⟩
  · by_cases e : m ≤ g
    · obtain ⟨s, hs, _, e2, e3⟩ := prove_mem (x := (revN c.nm g).data.toList) hr
      exact ⟨s, hs, e3.2 (.inr hk), by omega⟩
    · rcases h with ⟨rfl, h⟩ | ⟨⟨s, hs, ho, rfl⟩, h⟩
      · omega
      · obtain ⟨t, ht, _, e2, e3⟩ := prove_mem (x := (revN c.nm g).data.toList) hs
        exact ⟨t, ht, e3.2 (.inl ho), by omega⟩
  · obtain ⟨t, ht, _, e2, e3⟩ := prove_inv hs
    rcases e3.1 e with h1 | h1
    · have := hm.2 t ht h1; omega
    · have := hu t ht h1; omega
theorem nameOf_pos {nm : ByteArray} {g : Int} (h : 1 ≤ g) : nameOf nm g = revN nm g := by unfold nameOf; rw [if_neg (by omega)]
theorem rev_empty (nm : ByteArray) (g : Int) : ((revN nm g).toList == (⟨#[]⟩ : ByteArray).toList) = false := by
  rw [beq_eq_false_iff_ne]
  intro e
  exact revN_ne nm g (by rw [e]; simp)
theorem rev_isEmpty (nm : ByteArray) (g : Int) : (revN nm g).toList.isEmpty = false := by
  cases e : (revN nm g).toList with
  | nil => exact absurd e (revN_ne nm g)
  | cons _ _ => rfl

end Go.Proofs.YtnkmpkhiilnigaaDoor.PB
