/- LeadResolves: the plain law: both Resolves make one table, which is right. -/
import Derived.Test.YtnkmpkhiilnigaaGreatDoorBooks
import Derived.Test.YtnkmpkhiilnigaaGreatDoorDRes
import Derived.Test.YtnkmpkhiilnigaaGreatDoorRight
import Derived.Test.YtnkmpkhiilnigaaGreatDoorGTabs
set_option linter.unusedSimpArgs false
set_option linter.unusedVariables false
namespace Go.Proofs.YtnkmpkhiilnigaaGreatDoor.PR
open Go.RowKit Go.Shelf Go.Lib Go.Sort Go.Maps Go.Proofs.YtnkmpkhiilnigaaGreatDoor.PA Go.Proofs.YtnkmpkhiilnigaaGreatDoorW.PrintWords Go.Proofs.YtnkmpkhiilnigaaGreatDoorW.PrintLast

section
variable {L : List PB.RevM} {cfg : ByteArray}
theorem firstErr_all : ∀ {ts : List TgM}, firstErr L cfg ts = none → ∀ t ∈ ts, (tgt L cfg t.rev).2 = 0
  | [], _, t, ht => by simp at ht
  | a :: r, h, t, ht => by
    unfold firstErr at h
    by_cases h0 : (tgt L cfg a.rev).2 = 0
    · rw [if_pos h0] at h
      rcases List.mem_cons.1 ht with rfl | ht
      · exact h0
      · exact firstErr_all h t ht
    · rw [if_neg h0] at h
      cases h
theorem addKey_nodup {x : List UInt8} {S : List (List UInt8)} (h : S.Nodup) : (addKey x S).Nodup := by
  unfold addKey
  split
  · exact h
  · exact List.nodup_cons.2 ⟨by assumption, h⟩

/-- The names. -/
theorem st_names : ∀ (ts : List TgM) (s : StM), s.SW.Nodup → (ts.foldl (stepT L cfg) s).SW.Nodup ∧ ∀ x, x ∈ (ts.foldl (stepT L cfg) s).SW ↔ x ∈ s.SW ∨ ∃ t ∈ ts, (tgt L cfg t.rev).1.data.toList = x
  | [], s, h => ⟨h, fun x => by simp⟩
  | a :: r, s, h => by
    obtain ⟨h1, h2⟩ := st_names r (stepT L cfg s a) (addKey_nodup h)
    refine ⟨h1, fun x => (h2 x).trans ?_⟩
    rw [show (stepT L cfg s a).SW = addKey (tgt L cfg a.rev).1.data.toList s.SW from rfl, mem_addKey]
    constructor
    · rintro ((rfl | hx) | ⟨t, ht, hx⟩)
      · exact .inr ⟨a, List.mem_cons_self .., rfl⟩
      · exact .inl hx
      · exact .inr ⟨t, List.mem_cons_of_mem _ ht, hx⟩
    · rintro (hx | ⟨t, ht, hx⟩)
      · exact .inl (.inr hx)
      · rcases List.mem_cons.1 ht with rfl | ht
        · exact .inl (.inl hx.symm)
        · exact .inr ⟨t, ht, hx⟩
theorem d_names : ∀ (ts : List TgM) (l : List (List UInt8)), PB.Rising l → PB.Rising (ts.foldl (fun l t => PB.insS (tgt L cfg t.rev).1.toList l) l) ∧ ∀ x, x ∈ ts.foldl (fun l t => PB.insS (tgt L cfg t.rev).1.toList l) l ↔ x ∈ l ∨ ∃ t ∈ ts, (tgt L cfg t.rev).1.data.toList = x
  | [], l, h => ⟨h, fun x => by simp⟩
  | a :: r, l, h => by
    obtain ⟨i1, i2⟩ := PB.ins_rising (s := (tgt L cfg a.rev).1.toList) h
    obtain ⟨h1, h2⟩ := d_names r _ i1
    refine ⟨h1, fun x => (h2 x).trans ?_⟩
    rw [i2, ByteArray.toList_eq]
    constructor
    · rintro ((rfl | hx) | ⟨t, ht, hx⟩)
      · exact .inr ⟨a, List.mem_cons_self .., rfl⟩
      · exact .inl hx
      · exact .inr ⟨t, List.mem_cons_of_mem _ ht, hx⟩
    · rintro (hx | ⟨t, ht, hx⟩)
      · exact .inl (.inr hx)
      · rcases List.mem_cons.1 ht with rfl | ht
        · exact .inl (.inl hx.symm)
        · exact .inr ⟨t, ht, hx⟩
theorem names_same (ts : List TgM) : dN L cfg ts = (stOf L cfg ts).SW.mergeSort PB.leS ∧ PB.Rising (dN L cfg ts) ∧ ∀ x, x ∈ dN L cfg ts ↔ ∃ t ∈ ts, (tgt L cfg t.rev).1.data.toList = x := by
  obtain ⟨h1, h2⟩ := st_names (L := L) (cfg := cfg) ts st0 List.nodup_nil
  obtain ⟨h3, h4⟩ := d_names (L := L) (cfg := cfg) ts [] List.Pairwise.nil
  refine ⟨PB.rising_same h3 (PB.sort_rising h1) (fun x => ?_), h3, fun x => (h4 x).trans (by simp)⟩
  rw [List.mem_mergeSort]
  refine (h4 x).trans (Iff.trans ?_ (h2 x).symm)
  simp [st0]
/-- The tags. -/
theorem st_tags : ∀ (ts : List TgM) (s : StM), s.ST.Nodup → (ts.foldl (stepT L cfg) s).ST.Nodup ∧ ∀ x, x ∈ (ts.foldl (stepT L cfg) s).ST ↔ x ∈ s.ST ∨ ∃ t ∈ ts, t.tag.size ≠ 0 ∧ t.tag.data.toList = x
  | [], s, h => ⟨h, fun x => by simp⟩
  | a :: r, s, h => by
    have e : (stepT L cfg s a).ST = if a.tag.size = 0 then s.ST else addKey a.tag.data.toList s.ST := rfl
    have hn : (stepT L cfg s a).ST.Nodup := by
      rw [e]
      split
      · exact h
      · exact addKey_nodup h
    obtain ⟨h1, h2⟩ := st_tags r (stepT L cfg s a) hn
    refine ⟨h1, fun x => (h2 x).trans ?_⟩
    rw [e]
    by_cases hz : a.tag.size = 0
    · rw [if_pos hz]
      constructor
      · rintro (hx | ⟨t, ht, hx⟩)
        · exact .inl hx
        · exact .inr ⟨t, List.mem_cons_of_mem _ ht, hx⟩
      · rintro (hx | ⟨t, ht, hx⟩)
        · exact .inl hx
        · rcases List.mem_cons.1 ht with rfl | ht
          · exact absurd hz hx.1
          · exact .inr ⟨t, ht, hx⟩
    · rw [if_neg hz, mem_addKey]
      constructor
      · rintro ((rfl | hx) | ⟨t, ht, hx⟩)
        · exact .inr ⟨a, List.mem_cons_self .., hz, rfl⟩
        · exact .inl hx
        · exact .inr ⟨t, List.mem_cons_of_mem _ ht, hx⟩
      · rintro (hx | ⟨t, ht, hx⟩)
        · exact .inl (.inr hx)
        · rcases List.mem_cons.1 ht with rfl | ht
          · exact .inl (.inl hx.2.symm)
          · exact .inr ⟨t, ht, hx⟩
theorem d_tags : ∀ (ts : List TgM) (l : List (List UInt8)), PB.Rising l → PB.Rising (ts.foldl (fun l t => if t.tag.size = 0 then l else PB.insS t.tag.toList l) l) ∧ ∀ x, x ∈ ts.foldl (fun l t => if t.tag.size = 0 then l else PB.insS t.tag.toList l) l ↔ x ∈ l ∨ ∃ t ∈ ts, t.tag.size ≠ 0 ∧ t.tag.data.toList = x
  | [], l, h => ⟨h, fun x => by simp⟩
  | a :: r, l, h => by
    rw [List.foldl_cons]
    by_cases hz : a.tag.size = 0
    · rw [if_pos hz]
      obtain ⟨h1, h2⟩ := d_tags r l h
      refine ⟨h1, fun x => (h2 x).trans ?_⟩
      constructor
      · rintro (hx | ⟨t, ht, hx⟩)
        · exact .inl hx
        · exact .inr ⟨t, List.mem_cons_of_mem _ ht, hx⟩
      · rintro (hx | ⟨t, ht, hx⟩)
        · exact .inl hx
        · rcases List.mem_cons.1 ht with rfl | ht
          · exact absurd hz hx.1
          · exact .inr ⟨t, ht, hx⟩
    · rw [if_neg hz]
      obtain ⟨i1, i2⟩ := PB.ins_rising (s := a.tag.toList) h
      obtain ⟨h1, h2⟩ := d_tags r _ i1
      refine ⟨h1, fun x => (h2 x).trans ?_⟩
      rw [i2, ByteArray.toList_eq]
      constructor
      · rintro ((rfl | hx) | ⟨t, ht, hx⟩)
        · exact .inr ⟨a, List.mem_cons_self .., hz, rfl⟩
        · exact .inl hx
        · exact .inr ⟨t, List.mem_cons_of_mem _ ht, hx⟩
      · rintro (hx | ⟨t, ht, hx⟩)
        · exact .inl (.inr hx)
        · rcases List.mem_cons.1 ht with rfl | ht
          · exact .inl (.inl hx.2.symm)
          · exact .inr ⟨t, ht, hx⟩
theorem tags_same (ts : List TgM) : dT ts = (stOf L cfg ts).ST.mergeSort PB.leS ∧ PB.Rising (dT ts) ∧ ∀ x, x ∈ dT ts ↔ ∃ t ∈ ts, t.tag.size ≠ 0 ∧ t.tag.data.toList = x := by
  obtain ⟨h1, h2⟩ := st_tags (L := L) (cfg := cfg) ts st0 List.nodup_nil
  obtain ⟨h3, h4⟩ := d_tags ts [] List.Pairwise.nil
  refine ⟨PB.rising_same h3 (PB.sort_rising h1) (fun x => ?_), h3, fun x => (h4 x).trans (by simp)⟩
  rw [List.mem_mergeSort]
  refine (h4 x).trans (Iff.trans ?_ (h2 x).symm)
  simp [st0]
/-- What a name weighs. -/
theorem st_wf (x : List UInt8) : ∀ (ts : List TgM) (s : StM) (acc : Int), s.wf x = acc → (ts.foldl (stepT L cfg) s).wf x = (dSum L cfg ts).foldl (fun w s => if s.f0.toList == (⟨x.toArray⟩ : ByteArray).toList then w + s.f1 else w) acc
  | [], s, acc, h => h
  | a :: r, s, acc, h => by
    refine st_wf x r (stepT L cfg s a) _ ?_
    show (if x = (tgt L cfg a.rev).1.data.toList then s.wf (tgt L cfg a.rev).1.data.toList + a.pct else s.wf x) = if (tgt L cfg a.rev).1.toList == (⟨x.toArray⟩ : ByteArray).toList then acc + a.pct else acc
    rw [ByteArray.toList_eq, ByteArray.toList_eq]
    by_cases e : x = (tgt L cfg a.rev).1.data.toList
    · subst e
      simp [h]
    · have e' : ¬ (tgt L cfg a.rev).1.data.toList = x := fun h => e h.symm
      simp [e, e', h]
theorem wf_same (ts : List TgM) (x : List UInt8) : wOf (dSum L cfg ts) ⟨x.toArray⟩ = (stOf L cfg ts).wf x := (st_wf x ts st0 0 rfl).symm
theorem dSh_list (l9 : List S51) (wf : List UInt8 → Int) (h : ∀ x, wOf l9 ⟨x.toArray⟩ = wf x) : ∀ (names : List (List UInt8)) (o : List S51), names.foldl (fun o x => if 0 < wOf l9 ⟨x.toArray⟩ then o ++ [(⟨⟨x.toArray⟩, wOf l9 ⟨x.toArray⟩⟩ : S51)] else o) o = o ++ shOf (names.map fun k => (⟨k.toArray⟩, wf k))
  | [], o => by simp [shOf]
  | a :: r, o => by
    rw [List.foldl_cons, dSh_list l9 wf h r, h a]
    by_cases h0 : 0 < wf a
    · rw [if_pos h0]
      simp [shOf, h0]
    · rw [if_neg h0]
      simp [shOf, h0]
theorem sh_same (ts : List TgM) : dSh L cfg ts = resSh (stOf L cfg ts) := by
  unfold dSh dShOf resSh prsI
  rw [dSh_list _ _ (wf_same ts), List.nil_append, (names_same ts).1]

/-- Tags that differ. -/
def Uniq (ts : List TgM) : Prop := ts.Pairwise fun a b => a.tag.size ≠ 0 → a.tag.data.toList ≠ b.tag.data.toList
def hit (x : ByteArray) (p : TgM × List UInt8) : Bool := p.1.tag.toList == x.toList
theorem dTg1_eq (x : ByteArray) : ∀ (ps : List (TgM × List UInt8)) (o : List S83), dTg1 x o ps = o ++ (ps.filter (hit x)).map fun p => ⟨x, ⟨p.2.toArray⟩⟩
  | [], o => by simp [dTg1]
  | a :: r, o => by
    unfold dTg1
    rw [List.foldl_cons]
    have ih := dTg1_eq x r
    unfold dTg1 at ih
    rw [ih]
    by_cases h : a.1.tag.toList == x.toList
    · rw [if_pos h, List.filter_cons_of_pos (show hit x a = true from h)]
      simp
    · rw [if_neg h, List.filter_cons_of_neg (show ¬ hit x a = true from h)]
theorem tf_miss (x : List UInt8) : ∀ (ts : List TgM) (s : StM), (∀ t ∈ ts, t.tag.data.toList ≠ x) → (ts.foldl (stepT L cfg) s).tf x = s.tf x ∧ (ts.zip (dTo L cfg ts)).filter (hit ⟨x.toArray⟩) = []
  | [], s, _ => ⟨rfl, rfl⟩
  | a :: r, s, h => by
    obtain ⟨h1, h2⟩ := tf_miss x r (stepT L cfg s a) (fun t ht => h t (List.mem_cons_of_mem _ ht))
    have ha := h a (List.mem_cons_self ..)
    refine ⟨h1.trans ?_, ?_⟩
    · show (if a.tag.size = 0 then s.tf else setK a.tag.data.toList (tgt L cfg a.rev).1 s.tf) x = s.tf x
      split
      · rfl
      · exact if_neg (fun e => ha e.symm)
    · show List.filter (hit ⟨x.toArray⟩) ((a, (tgt L cfg a.rev).1.toList) :: r.zip (dTo L cfg r)) = []
      rw [List.filter_cons_of_neg, h2]
      show ¬ (a.tag.toList == (⟨x.toArray⟩ : ByteArray).toList) = true
      rw [ByteArray.toList_eq, ByteArray.toList_eq]
      simpa using ha
theorem tf_hit (x : List UInt8) (hx : x ≠ []) : ∀ (ts : List TgM) (s : StM), Uniq ts → (∃ t ∈ ts, t.tag.data.toList = x) → (ts.zip (dTo L cfg ts)).filter (hit ⟨x.toArray⟩) ≠ [] ∧ ∀ p ∈ [(ts.zip (dTo L cfg ts)).filter (hit ⟨x.toArray⟩)], p.map (fun q => (⟨q.2.toArray⟩ : ByteArray)) = [(ts.foldl (stepT L cfg) s).tf x]
  | [], s, _, ⟨t, ht, _⟩ => by simp at ht
  | a :: r, s, hu, ⟨t, ht, htx⟩ => by
    obtain ⟨ha, hr⟩ := List.pairwise_cons.1 hu
    have hz : List.zip (a :: r) (dTo L cfg (a :: r)) = (a, (tgt L cfg a.rev).1.toList) :: r.zip (dTo L cfg r) := rfl
    rw [hz]
    by_cases hax : a.tag.data.toList = x
    · have hs : a.tag.size ≠ 0 := fun e => hx (by
        rw [← hax, str_eq e])
      obtain ⟨m1, m2⟩ := tf_miss (L := L) (cfg := cfg) x r (stepT L cfg s a) (fun u hu' e => ha u hu' hs (hax.trans e.symm))
      have hh : hit ⟨x.toArray⟩ (a, (tgt L cfg a.rev).1.toList) = true := by
        show (a.tag.toList == (⟨x.toArray⟩ : ByteArray).toList) = true
        rw [ByteArray.toList_eq, ByteArray.toList_eq]
        simpa using hax
      rw [List.filter_cons_of_pos hh, m2]
      refine ⟨by simp, fun p hp => ?_⟩
      rw [List.mem_singleton.1 hp]
      show [(⟨(tgt L cfg a.rev).1.toList.toArray⟩ : ByteArray)] = [(r.foldl (stepT L cfg) (stepT L cfg s a)).tf x]
      rw [m1]
      show _ = [(if a.tag.size = 0 then s.tf else setK a.tag.data.toList (tgt L cfg a.rev).1 s.tf) x]
      rw [if_neg hs, ByteArray.toList_eq]
      show _ = [if x = a.tag.data.toList then (tgt L cfg a.rev).1 else s.tf x]
      rw [if_pos hax.symm]
    · have htr : t ∈ r := by
        rcases List.mem_cons.1 ht with rfl | h
        · exact absurd htx hax
        · exact h
      have hh : ¬ hit ⟨x.toArray⟩ (a, (tgt L cfg a.rev).1.toList) = true := by
        show ¬ (a.tag.toList == (⟨x.toArray⟩ : ByteArray).toList) = true
        rw [ByteArray.toList_eq, ByteArray.toList_eq]
        simpa using hax
      rw [List.filter_cons_of_neg hh]
      exact tf_hit x hx r (stepT L cfg s a) hr ⟨t, htr, htx⟩
theorem dTg_list (ps : List (TgM × List UInt8)) (tf : List UInt8 → ByteArray) : ∀ (tags : List (List UInt8)) (o : List S83), (∀ x ∈ tags, (ps.filter (hit ⟨x.toArray⟩)).map (fun q => (⟨q.2.toArray⟩ : ByteArray)) = [tf x]) → tags.foldl (fun o x => dTg1 ⟨x.toArray⟩ o ps) o = o ++ tags.map fun k => ⟨⟨k.toArray⟩, tf k⟩
  | [], o, _ => by simp
  | a :: r, o, h => by
    rw [List.foldl_cons, dTg_list ps tf r _ (fun x hx => h x (List.mem_cons_of_mem _ hx)), dTg1_eq]
    have ha := h a (List.mem_cons_self ..)
    have hm : (ps.filter (hit ⟨a.toArray⟩)).map (fun p => (⟨⟨a.toArray⟩, ⟨p.2.toArray⟩⟩ : S83)) = ((ps.filter (hit ⟨a.toArray⟩)).map (fun q => (⟨q.2.toArray⟩ : ByteArray))).map fun y => ⟨⟨a.toArray⟩, y⟩ := by rw [List.map_map]; rfl
    rw [hm, ha]
    simp
theorem tg_same {ts : List TgM} (hu : Uniq ts) : dTg L cfg ts = resTg (stOf L cfg ts) := by
  unfold dTg dTgOf resTg prsT tgOf
  rw [dTg_list _ (stOf L cfg ts).tf, List.nil_append, (tags_same (L := L) (cfg := cfg) ts).1, List.map_map]
  · rfl
  · intro x hx
    obtain ⟨t, ht, hs, e⟩ := ((tags_same (L := L) (cfg := cfg) ts).2.2 x).1 hx
    have hne : x ≠ [] := fun e0 => hs (by
      have h0 : t.tag.data.toList.length = 0 := by rw [e, e0]; rfl
      have h1 : t.tag.size = t.tag.data.toList.length := by rw [Array.length_toList]; rfl
      omega)
    exact (tf_hit x hne ts st0 hu ⟨t, ht, e⟩).2 _ (List.mem_singleton.2 rfl)
end

end Go.Proofs.YtnkmpkhiilnigaaGreatDoor.PR
