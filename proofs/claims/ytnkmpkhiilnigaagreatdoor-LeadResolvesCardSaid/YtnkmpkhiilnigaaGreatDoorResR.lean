/- LeadResolves: the table is right. -/
import Derived.Test.YtnkmpkhiilnigaaGreatDoorResP
set_option linter.unusedSimpArgs false
set_option linter.unusedVariables false
namespace Go.Proofs.YtnkmpkhiilnigaaGreatDoor.PR
open Go.RowKit Go.Shelf Go.Lib Go.Sort Go.Maps Go.Proofs.YtnkmpkhiilnigaaGreatDoor.PA Go.Proofs.YtnkmpkhiilnigaaGreatDoorW.PrintWords Go.Proofs.YtnkmpkhiilnigaaGreatDoorW.PrintLast

theorem perm_sum {l1 l2 : List Int} (h : l1.Perm l2) : l1.sum = l2.sum := by
  induction h with
  | nil => rfl
  | cons x _ ih => rw [List.sum_cons, List.sum_cons, ih]
  | swap x y l => rw [List.sum_cons, List.sum_cons, List.sum_cons, List.sum_cons]; omega
  | trans _ _ h1 h2 => exact h1.trans h2
theorem sum_miss (x : List UInt8) (v : Int) (f : List UInt8 → Int) : ∀ (S : List (List UInt8)), x ∉ S → (S.map (setK x v f)).sum = (S.map f).sum
  | [], _ => rfl
  | a :: r, h => by
    rw [List.map_cons, List.map_cons, List.sum_cons, List.sum_cons, sum_miss x v f r (fun e => h (List.mem_cons_of_mem _ e))]
    congr 1
    exact if_neg (fun e : a = x => h (by rw [← e]; exact List.mem_cons_self ..))
theorem sum_hit (x : List UInt8) (v : Int) (f : List UInt8 → Int) : ∀ (S : List (List UInt8)), S.Nodup → x ∈ S → (S.map (setK x v f)).sum = (S.map f).sum - f x + v
  | [], _, h => by simp at h
  | a :: r, hn, h => by
    obtain ⟨h1, h2⟩ := List.nodup_cons.1 hn
    rw [List.map_cons, List.map_cons, List.sum_cons, List.sum_cons]
    by_cases e : a = x
    · subst e
      rw [sum_miss a v f r h1, show setK a v f a = v from if_pos rfl]
      omega
    · have hr : x ∈ r := by
        rcases List.mem_cons.1 h with h | h
        · exact absurd h.symm e
        · exact h
      rw [sum_hit x v f r h2 hr, show setK x v f a = f a from if_neg e]
      omega
section
variable {L : List PB.RevM} {cfg : ByteArray}
theorem st_sum : ∀ (ts : List TgM) (s : StM), s.SW.Nodup → (∀ k, k ∉ s.SW → s.wf k = 0) → (((ts.foldl (stepT L cfg) s).SW.map (ts.foldl (stepT L cfg) s).wf).sum = (s.SW.map s.wf).sum + (ts.map (·.pct)).sum)
  | [], s, _, _ => by simp
  | a :: r, s, hn, h0 => by
    have e1 : (stepT L cfg s a).SW = addKey (tgt L cfg a.rev).1.data.toList s.SW := rfl
    have e2 : (stepT L cfg s a).wf = setK (tgt L cfg a.rev).1.data.toList (s.wf (tgt L cfg a.rev).1.data.toList + a.pct) s.wf := rfl
    have hn' : (stepT L cfg s a).SW.Nodup := addKey_nodup hn
    have h0' : ∀ k, k ∉ (stepT L cfg s a).SW → (stepT L cfg s a).wf k = 0 := fun k hk => by
      rw [e1, mem_addKey] at hk
      rw [e2]
      exact (if_neg (fun e => hk (.inl e))).trans (h0 k (fun h => hk (.inr h)))
    have hs : ((stepT L cfg s a).SW.map (stepT L cfg s a).wf).sum = (s.SW.map s.wf).sum + a.pct := by
      rw [e1, e2]
      generalize (tgt L cfg a.rev).1.data.toList = x
      unfold addKey
      by_cases hx : x ∈ s.SW
      · rw [if_pos hx, sum_hit x _ _ _ hn hx]
        omega
      · rw [if_neg hx, List.map_cons, List.sum_cons, sum_miss x _ _ _ hx, show setK x (s.wf x + a.pct) s.wf x = s.wf x + a.pct from if_pos rfl, h0 x hx]
        omega
    rw [List.foldl_cons, st_sum r _ hn' h0', hs, List.map_cons, List.sum_cons]
    omega
theorem st_lo : ∀ (ts : List TgM) (s : StM), (∀ t ∈ ts, 0 ≤ t.pct) → (∀ k, 0 ≤ s.wf k) → ∀ k, 0 ≤ (ts.foldl (stepT L cfg) s).wf k
  | [], s, _, h => h
  | a :: r, s, hp, h => by
    refine st_lo r (stepT L cfg s a) (fun t ht => hp t (List.mem_cons_of_mem _ ht)) (fun k => ?_)
    show 0 ≤ if k = (tgt L cfg a.rev).1.data.toList then s.wf (tgt L cfg a.rev).1.data.toList + a.pct else s.wf k
    have := hp a (List.mem_cons_self ..)
    have := h (tgt L cfg a.rev).1.data.toList
    have := h k
    split <;> omega
theorem res_tab {ts : List TgM} (h : RtL cfg 0 ts) : Tab (dN L cfg ts) (resSh (stOf L cfg ts)) := by
  have e : resSh (stOf L cfg ts) = some_ ((dN L cfg ts).map fun n => (n, (stOf L cfg ts).wf n)) := by
    unfold resSh prsI shOf some_
    rw [(names_same ts).1, List.filter_map, List.filter_map, List.map_map, List.map_map]
    rfl
  rw [e]
  refine Tab.mk' (fun n _ => st_lo ts st0 (fun t ht => (h.pct t ht).1) (fun _ => Int.le_refl _) n) ?_
  rw [(names_same ts).1, perm_sum ((List.mergeSort_perm _ _).map _)]
  have := st_sum (L := L) (cfg := cfg) ts st0 List.nodup_nil (fun _ _ => rfl)
  rw [h.sum, show (st0.SW.map st0.wf).sum = 0 from rfl] at this
  unfold stOf
  omega
theorem rev_ext {a b : ByteArray} (h : a.data.toList = b.data.toList) : a = b := ByteArray.ext (Array.toList_inj.1 h)
/-- Where a target leads is there. -/
theorem tgt_in {rev : ByteArray} (h : (tgt L cfg rev).2 = 0) : ∃ r ∈ L, (tgt L cfg rev).1 = r.nm := by
  unfold tgt at h ⊢
  by_cases hz : rev.size = 0
  · rw [if_pos hz] at h ⊢
    by_cases hl : (PB.latestN L cfg (PB.provedL L)).size = 0
    · rw [if_pos hl] at h; exact absurd h (by decide)
    · rw [if_neg hl]
      have h2 := (late_found hl).1
      unfold PB.findR at h2
      cases hf : L.find? (fun r => r.key == (PB.latestN L cfg (PB.provedL L)).data.toList) with
      | none => exact absurd hf h2
      | some r =>
        refine ⟨r, List.mem_of_find?_eq_some hf, ?_⟩
        have := List.find?_some hf
        exact rev_ext (show _ = r.nm.data.toList from (eq_of_beq this).symm)
  · rw [if_neg hz] at h ⊢
    cases hf : PB.findR L rev.data.toList with
    | none => rw [hf] at h; simp at h
    | some r =>
      rw [hf] at h
      by_cases hp : PB.provedL L rev.data.toList = true
      · rw [if_neg (by simp), if_pos hp]
        refine ⟨r, List.mem_of_find?_eq_some hf, ?_⟩
        have := List.find?_some hf
        exact rev_ext (show _ = r.nm.data.toList from (eq_of_beq this).symm)
      · rw [if_neg (by simp), if_neg hp] at h; exact absurd h (by decide)
theorem nB_cases (k : Nat) : nB k = ⟨#[119, 101, 98]⟩ ∨ nB k = ⟨#[97, 112, 105]⟩ ∨ nB k = ⟨#[97, 45, 98]⟩ := by
  match k with
  | 0 => exact .inl rfl
  | 1 => exact .inr (.inl rfl)
  | _ + 2 => exact .inr (.inr rfl)
theorem rev_small (k : Nat) {d : Nat} (h1 : 1 ≤ d) (h5 : d ≤ 5) : PB.revN (nB k) (d : Int) = nB k ++ ⟨#[45]⟩ ++ ⟨#[UInt8.ofNat (48 + d)]⟩ := by
  unfold PB.revN
  rw [PB.itoa_nat (by omega), show ((d : Nat) : Int).toNat = d from rfl, Lib.decDigits_one (by omega)]
theorem rev_fine (k : Nat) {g : Int} (h1 : 1 ≤ g) (h5 : g ≤ 5) : damperref5_revision.f 100 (PB.revN (nB k) g) = some true := by
  obtain ⟨d, rfl⟩ : ∃ d : Nat, g = (d : Int) := ⟨g.toNat, by omega⟩
  rw [rev_small k (by omega) (by omega)]
  have : d = 1 ∨ d = 2 ∨ d = 3 ∨ d = 4 ∨ d = 5 := by omega
  rcases nB_cases k with e | e | e <;> rw [e] <;> rcases this with rfl | rfl | rfl | rfl | rfl <;> decide +kernel
theorem tgt_fine (hN : NmOk L) {rev : ByteArray} (h : (tgt L cfg rev).2 = 0) : damperref5_revision.f 100 (tgt L cfg rev).1 = some true := by
  obtain ⟨r, hr, e⟩ := tgt_in h
  obtain ⟨⟨k, hk⟩, h1, h5⟩ := hN r hr
  rw [e, show r.nm = PB.revN r.c.nm r.g from rfl, hk]
  exact rev_fine k h1 h5
theorem sound_ok (hN : NmOk L) {ts : List TgM} (h : RtL cfg 0 ts) (hf : firstErr L cfg ts = none) : damperref5_Sound.f (resSh (stOf L cfg ts)) = some true := by
  have ht := res_tab (L := L) h
  unfold damperref5_Sound.f
  rw [if_pos]
  rw [Bool.and_eq_true, List.all_eq_true]
  refine ⟨soundB_iff.2 (ht.sound (List.Pairwise.imp (fun hlt => by rw [bytesLess_eq]; exact decide_eq_true hlt) (names_same ts).2.1)), fun s hs => ?_⟩
  obtain ⟨_, _, n, hn, e⟩ := ht.mem s hs
  obtain ⟨t, ht', e2⟩ := ((names_same ts).2.2 n).1 hn
  have e3 : bs n = (tgt L cfg t.rev).1 := rev_ext (by rw [e2]; rfl)
  rw [e, e3, tgt_fine hN (firstErr_all hf t ht')]
  rfl
/-- The tags differ. -/
theorem tag_two : ∀ i < 6, ∀ j < 6, i ≠ j → (⟨#[116]⟩ ++ ⟨#[UInt8.ofNat (48 + i)]⟩ : ByteArray).data.toList ≠ (⟨#[116]⟩ ++ ⟨#[UInt8.ofNat (48 + j)]⟩ : ByteArray).data.toList := by decide +kernel
theorem tag_fine : ∀ i < 6, damperref1_Tag.f 100 (⟨#[116]⟩ ++ ⟨#[UInt8.ofNat (48 + i)]⟩ : ByteArray) = some true := by decide +kernel
theorem tag_none : ∀ i < 6, (⟨#[116]⟩ ++ ⟨#[UInt8.ofNat (48 + i)]⟩ : ByteArray).data.toList ≠ [] := by decide +kernel
theorem uniq_ok {ts : List TgM} (h : RtL cfg 0 ts) (hl : ts.length ≤ 6) : Uniq ts := by
  unfold Uniq
  rw [List.pairwise_iff_getElem]
  intro i j hi hj hij hs
  rcases h.tag i hi with e | e
  · rw [e] at hs; exact absurd rfl hs
  · rw [e]
    rcases h.tag j hj with e' | e'
    · rw [e']
      exact tag_none i (by omega)
    · rw [e']
      exact tag_two i (by omega) j (by omega) (by omega)
theorem tf_in (x : List UInt8) (hx : x ≠ []) : ∀ (ts : List TgM) (s : StM), (∃ t ∈ ts, t.tag.data.toList = x) → ∃ t ∈ ts, (ts.foldl (stepT L cfg) s).tf x = (tgt L cfg t.rev).1
  | [], s, ⟨t, ht, _⟩ => by simp at ht
  | a :: r, s, ⟨t, ht, e⟩ => by
    by_cases hr : ∃ u ∈ r, u.tag.data.toList = x
    · obtain ⟨u, hu, h⟩ := tf_in x hx r (stepT L cfg s a) hr
      exact ⟨u, List.mem_cons_of_mem _ hu, h⟩
    · have hm := (tf_miss (L := L) (cfg := cfg) x r (stepT L cfg s a) (fun u hu h => hr ⟨u, hu, h⟩)).1
      have ha : a.tag.data.toList = x := by
        rcases List.mem_cons.1 ht with rfl | ht
        · exact e
        · exact absurd ⟨t, ht, e⟩ hr
      have hs : a.tag.size ≠ 0 := fun e0 => hx (by rw [← ha, str_eq e0])
      refine ⟨a, List.mem_cons_self .., hm.trans ?_⟩
      show (if a.tag.size = 0 then s.tf else setK a.tag.data.toList (tgt L cfg a.rev).1 s.tf) x = _
      rw [if_neg hs]
      exact if_pos ha.symm
theorem tags_fine (hN : NmOk L) {ts : List TgM} (h : RtL cfg 0 ts) (hl : ts.length ≤ 6) (hf : firstErr L cfg ts = none) : ∀ s ∈ resTg (stOf L cfg ts), damperref1_Tag.f 100 s.f0 = some true ∧ damperref5_revision.f 100 s.f1 = some true := by
  intro s hs
  have e0 : resTg (stOf L cfg ts) = (dT ts).map fun k => (⟨⟨k.toArray⟩, (stOf L cfg ts).tf k⟩ : S83) := by
    unfold resTg prsT tgOf
    rw [(tags_same (L := L) (cfg := cfg) ts).1, List.map_map]
    rfl
  rw [e0] at hs
  obtain ⟨x, hx, rfl⟩ := List.mem_map.1 hs
  obtain ⟨t, ht, hsz, e⟩ := ((tags_same (L := L) (cfg := cfg) ts).2.2 x).1 hx
  obtain ⟨i, hi, rfl⟩ := List.mem_iff_getElem.1 ht
  have hform : ts[i].tag = ⟨#[116]⟩ ++ ⟨#[UInt8.ofNat (48 + i)]⟩ := by
    rcases h.tag i hi with e' | e'
    · rw [e'] at hsz; exact absurd rfl hsz
    · exact e'
  constructor
  · have : (⟨x.toArray⟩ : ByteArray) = ⟨#[116]⟩ ++ ⟨#[UInt8.ofNat (48 + i)]⟩ := rev_ext (by rw [← hform, e])
    show damperref1_Tag.f 100 ⟨x.toArray⟩ = some true
    rw [this]
    exact tag_fine i (by omega)
  · have hne : x ≠ [] := by rw [← e, hform]; exact tag_none i (by omega)
    obtain ⟨u, hu, e2⟩ := tf_in (L := L) (cfg := cfg) x hne ts st0 ⟨_, ht, e⟩
    show damperref5_revision.f 100 ((stOf L cfg ts).tf x) = some true
    rw [show (stOf L cfg ts).tf x = (tgt L cfg u.rev).1 from e2]
    exact tgt_fine hN (firstErr_all hf u hu)
theorem tags_rise {ts : List TgM} : ∀ i (h : i + 1 < (resTg (stOf L cfg ts)).length), Op.bytesLess (resTg (stOf L cfg ts))[i].f0.toList (resTg (stOf L cfg ts))[i + 1].f0.toList = true := by
  have e0 : resTg (stOf L cfg ts) = (dT ts).map fun k => (⟨⟨k.toArray⟩, (stOf L cfg ts).tf k⟩ : S83) := by
    unfold resTg prsT tgOf
    rw [(tags_same (L := L) (cfg := cfg) ts).1, List.map_map]
    rfl
  have hr := List.pairwise_iff_getElem.1 (tags_same (L := L) (cfg := cfg) ts).2.1
  refine (fun (key : ∀ l : List S83, l = ((dT ts).map fun k => (⟨⟨k.toArray⟩, (stOf L cfg ts).tf k⟩ : S83)) → ∀ i (h : i + 1 < l.length), Op.bytesLess l[i].f0.toList l[i + 1].f0.toList = true) => key _ e0) ?_
  intro l el i h
  subst el
  rw [List.getElem_map, List.getElem_map, ByteArray.toList_eq, ByteArray.toList_eq, bytesLess_eq]
  rw [List.length_map] at h
  exact decide_eq_true (hr i (i + 1) (by omega) h (by omega))
end

end Go.Proofs.YtnkmpkhiilnigaaGreatDoor.PR
