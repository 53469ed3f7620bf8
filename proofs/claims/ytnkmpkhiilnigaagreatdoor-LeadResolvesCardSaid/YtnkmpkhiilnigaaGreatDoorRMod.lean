/- What Resolve makes, in plain words. -/
import Derived.Test.YtnkmpkhiilnigaaGreatDoorRIter
set_option linter.unusedSimpArgs false
set_option linter.unusedVariables false
namespace Go.Proofs.YtnkmpkhiilnigaaGreatDoor.PR
open Go.RowKit Go.Shelf Go.Lib Go.Sort Go.Maps Go.Proofs.YtnkmpkhiilnigaaGreatDoor.PA Go.Proofs.YtnkmpkhiilnigaaGreatDoorW.PrintWords Go.Proofs.YtnkmpkhiilnigaaGreatDoorW.PrintLast

/-- A target. -/
structure TgM where
  rev : ByteArray
  tag : ByteArray
  pct : Int
instance : Inhabited TgM := ⟨⟨⟨#[]⟩, ⟨#[]⟩, 0⟩⟩
/-- Targets in memory. -/
def TgsAt (w : World) (T : Option Addr) (ts : List TgM) : Prop := ts ≠ [] → ∃ g o, T = some ⟨g, o, none⟩ ∧ g < w.heap.size ∧ ∀ i (hi : i < ts.length), w.cell? ⟨g, o + i * 3, none⟩ = some (.string ts[i].rev) ∧ w.cell? ⟨g, o + i * 3 + 1, none⟩ = some (.string ts[i].tag) ∧ w.cell? ⟨g, o + i * 3 + 2, none⟩ = some (.int .i64 ts[i].pct)
/-- A target that may be. -/
structure TgOk (t : TgM) : Prop where
  rev : t.rev.size ≤ 1000
  tag : t.tag.size ≤ 1000
  lo : 0 ≤ t.pct
  hi : t.pct ≤ 100
/-- The sums by revisions, the tags. -/
structure StM where
  SW : List (List UInt8)
  wf : List UInt8 → Int
  ST : List (List UInt8)
  tf : List UInt8 → ByteArray
def st0 : StM := ⟨[], fun _ => 0, [], fun _ => ⟨#[]⟩⟩
def setK {α : Type} (x : List UInt8) (v : α) (f : List UInt8 → α) : List UInt8 → α := fun y => if y = x then v else f y
def stepT (L : List PB.RevM) (cfg : ByteArray) (s : StM) (t : TgM) : StM :=
  ⟨addKey (tgt L cfg t.rev).1.data.toList s.SW, setK (tgt L cfg t.rev).1.data.toList (s.wf (tgt L cfg t.rev).1.data.toList + t.pct) s.wf,
    if t.tag.size = 0 then s.ST else addKey t.tag.data.toList s.ST, if t.tag.size = 0 then s.tf else setK t.tag.data.toList (tgt L cfg t.rev).1 s.tf⟩
def stOf (L : List PB.RevM) (cfg : ByteArray) (ts : List TgM) : StM := ts.foldl (stepT L cfg) st0
theorem stOf_succ (L : List PB.RevM) (cfg : ByteArray) {ts : List TgM} {i : Nat} (h : i < ts.length) : stOf L cfg (ts.take (i + 1)) = stepT L cfg (stOf L cfg (ts.take i)) ts[i] := by
  unfold stOf
  rw [List.take_succ_eq_append_getElem h, List.foldl_append]
  rfl
/-- Why there is no table. -/
def firstErr (L : List PB.RevM) (cfg : ByteArray) : List TgM → Option Int
  | [] => none
  | t :: r => if (tgt L cfg t.rev).2 = 0 then firstErr L cfg r else some (tgt L cfg t.rev).2
theorem firstErr_at {L : List PB.RevM} {cfg : ByteArray} : ∀ {ts : List TgM} {i : Nat} (hi : i < ts.length), (∀ j (hj : j < ts.length), j < i → (tgt L cfg ts[j].rev).2 = 0) → (tgt L cfg ts[i].rev).2 ≠ 0 → firstErr L cfg ts = some (tgt L cfg ts[i].rev).2
  | t :: r, 0, _, _, h => by unfold firstErr; exact if_neg (show ¬ (tgt L cfg t.rev).2 = 0 from h)
  | t :: r, i + 1, hi, hp, h => by
    unfold firstErr
    rw [if_pos (show (tgt L cfg t.rev).2 = 0 from hp 0 (by simp) (by omega))]
    exact firstErr_at (ts := r) (i := i) (by simpa using hi) (fun j hj hji => hp (j + 1) (by simpa using hj) (by omega)) h
theorem firstErr_none {L : List PB.RevM} {cfg : ByteArray} : ∀ {ts : List TgM}, (∀ j (hj : j < ts.length), (tgt L cfg ts[j].rev).2 = 0) → firstErr L cfg ts = none
  | [], _ => rfl
  | t :: r, hp => by
    unfold firstErr
    rw [if_pos (show (tgt L cfg t.rev).2 = 0 from hp 0 (by simp))]
    exact firstErr_none (ts := r) (fun j hj => hp (j + 1) (by simpa using hj))
theorem latest_size {L : List PB.RevM} (hL : PB.OkL L) (cfg : ByteArray) (B : List UInt8 → Bool) : (PB.latestN L cfg B).size ≤ 1000 := by
  unfold PB.latestN
  cases h : PB.bestR (PB.askR cfg B) L with
  | none => show (⟨#[]⟩ : ByteArray).size ≤ 1000; decide
  | some b =>
    obtain ⟨h1, _⟩ := PB.bestR_in h
    obtain ⟨h2, h3, h4⟩ := hL.each b h1
    have := PB.revN_size b.c.nm h2.hi b.g (by omega) h4
    show b.nm.size ≤ 1000
    unfold PB.RevM.nm
    omega
theorem tgt_size {L : List PB.RevM} (hL : PB.OkL L) (cfg rev : ByteArray) (h : rev.size ≤ 1000) : (tgt L cfg rev).1.size ≤ 1000 := by
  have hl := latest_size hL cfg (PB.provedL L)
  have h0 : (⟨#[]⟩ : ByteArray).size ≤ 1000 := by decide
  unfold tgt
  repeat' split
  all_goals first | exact h0 | exact hl | exact h
/-- What holds of the sums on the way. -/
structure StOk (s : StM) (i : Nat) : Prop where
  lo : ∀ k, 0 ≤ s.wf k
  hi : ∀ k, s.wf k ≤ 100 * (i : Int)
  out : ∀ k, k ∉ s.SW → s.wf k = 0
  lenW : s.SW.length ≤ i
  lenT : s.ST.length ≤ i
  keyW : ∀ k ∈ s.SW, k.length ≤ 1000
  keyT : ∀ k ∈ s.ST, k.length ≤ 1000
theorem st0_ok : StOk st0 0 := ⟨fun _ => Int.le_refl _, fun _ => by show (0 : Int) ≤ 100 * ((0 : Nat) : Int); omega, fun _ _ => rfl, Nat.le_refl _, Nat.le_refl _, fun k h => by simp [st0] at h, fun k h => by simp [st0] at h⟩
theorem StOk.step {L : List PB.RevM} (hL : PB.OkL L) {cfg : ByteArray} {s : StM} {i : Nat} (h : StOk s i) {t : TgM} (ht : TgOk t) : StOk (stepT L cfg s t) (i + 1) := by
  obtain ⟨h1, h2, h3, h4, h5, h6, h7⟩ := h
  obtain ⟨t1, t2, t3, t4⟩ := ht
  have hz := tgt_size hL cfg t.rev t1
  have hwf : ∀ k, (stepT L cfg s t).wf k = if k = (tgt L cfg t.rev).1.data.toList then s.wf (tgt L cfg t.rev).1.data.toList + t.pct else s.wf k := fun k => rfl
  have hSW : (stepT L cfg s t).SW = addKey (tgt L cfg t.rev).1.data.toList s.SW := rfl
  have hST : (stepT L cfg s t).ST = if t.tag.size = 0 then s.ST else addKey t.tag.data.toList s.ST := rfl
  refine ⟨fun k => ?_, fun k => ?_, fun k hk => ?_, ?_, ?_, fun k hk => ?_, fun k hk => ?_⟩
  · rw [hwf]; split
    · have := h1 (tgt L cfg t.rev).1.data.toList; omega
    · exact h1 k
  · rw [hwf]; split
    · have := h2 (tgt L cfg t.rev).1.data.toList; omega
    · have := h2 k; omega
  · rw [hSW, mem_addKey] at hk
    rw [hwf, if_neg (fun e => hk (.inl e))]
    exact h3 k (fun h => hk (.inr h))
  · rw [hSW]
    have := addKey_len (tgt L cfg t.rev).1.data.toList s.SW
    omega
  · rw [hST]
    split
    · omega
    · have := addKey_len t.tag.data.toList s.ST
      omega
  · rw [hSW, mem_addKey] at hk
    rcases hk with rfl | hk
    · simpa using hz
    · exact h6 k hk
  · rw [hST] at hk
    split at hk
    · exact h7 k hk
    · rw [mem_addKey] at hk
      rcases hk with rfl | hk
      · simpa using t2
      · exact h7 k hk
/-- The Shares, the Tags that are made of the sums. -/
def shOf (l : List (ByteArray × Int)) : List S51 := (l.filter (fun p => decide (0 < p.2))).map fun p => ⟨p.1, p.2⟩
def tgOf (l : List (ByteArray × ByteArray)) : List S83 := l.map fun p => ⟨p.1, p.2⟩
theorem shOf_hit (l : List (ByteArray × Int)) {x : ByteArray × Int} (h : 0 < x.2) : shOf (l ++ [x]) = shOf l ++ [⟨x.1, x.2⟩] := by
  unfold shOf
  rw [List.filter_append, List.map_append, List.filter_cons_of_pos (by simpa using h)]
  rfl
theorem shOf_miss (l : List (ByteArray × Int)) {x : ByteArray × Int} (h : ¬ 0 < x.2) : shOf (l ++ [x]) = shOf l := by
  unfold shOf
  rw [List.filter_append, List.filter_cons_of_neg (by simpa using h)]
  simp
theorem shOf_len (l : List (ByteArray × Int)) : (shOf l).length ≤ l.length := by unfold shOf; rw [List.length_map]; exact List.length_filter_le _ _
theorem tgOf_snoc (l : List (ByteArray × ByteArray)) (x : ByteArray × ByteArray) : tgOf (l ++ [x]) = tgOf l ++ [⟨x.1, x.2⟩] := by unfold tgOf; rw [List.map_append]; rfl
theorem tgOf_len (l : List (ByteArray × ByteArray)) : (tgOf l).length = l.length := by unfold tgOf; rw [List.length_map]
def resSh (s : StM) : List S51 := shOf (prsI s.SW s.wf)
def resTg (s : StM) : List S83 := tgOf (prsT s.ST s.tf)
/-- What Resolve tells. -/
def RPost (w : World) (L : List PB.RevM) (cfg : ByteArray) (ts : List TgM) (e : Ending) (w' : World) : Prop :=
  Below w.heap.size w w' ∧ match firstErr L cfg ts with
    | some x => e = .returned (.tuple #[.agg #[.slice none 0 0, .slice none 0 0], .int .i64 x])
    | none => ∃ A c B d, e = .returned (.tuple #[.agg #[.slice A (resSh (stOf L cfg ts)).length c, .slice B (resTg (stOf L cfg ts)).length d], .int .i64 0]) ∧
        Kd.C k51 w' A (resSh (stOf L cfg ts)).length (resSh (stOf L cfg ts)) ∧ (resSh (stOf L cfg ts)).length ≤ c ∧ Kd.C k83 w' B (resTg (stOf L cfg ts)).length (resTg (stOf L cfg ts)) ∧ (resTg (stOf L cfg ts)).length ≤ d

end Go.Proofs.YtnkmpkhiilnigaaGreatDoor.PR
