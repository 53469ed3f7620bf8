/- LeadAdds: the walk. (Printed by genx.py's way; no drawn region.) -/
import Derived.Test.YtnkmpkhiilnigaaDoorResolve
import Derived.Test.YtnkmpkhiilnigaaDoorGLeadS
set_option linter.unusedSimpArgs false
set_option linter.unusedVariables false
namespace Go.Proofs.YtnkmpkhiilnigaaDoor.PR
open Go.RowKit Go.Shelf Go.Lib Go.Sort Go.Maps Go.Proofs.YtnkmpkhiilnigaaDoor.PA Go.Proofs.YtnkmpkhiilnigaaDoorW.PrintWords Go.Proofs.YtnkmpkhiilnigaaDoorW.PrintLast

abbrev nmWeb : ByteArray := ⟨#[119, 101, 98]⟩
theorem nmWeb_valid : PB.ValidN nmWeb := ⟨by decide, by decide, by decide, by decide, by decide⟩
abbrev cWeb : PB.CfgM := ⟨nmWeb, 0, 1, 0, 1, 0⟩
theorem cWeb_nm : cWeb.nm = nmWeb := rfl
theorem cWeb_v : PB.ValidN cWeb.nm := nmWeb_valid
theorem cWeb_enc : PB.encC cWeb = .agg #[.string nmWeb, .int .i64 0, .int .i64 1, .int .i64 0, .int .i64 1, .int .i64 0] := rfl
/-- Numbers 1 to j, each once, proved. -/
structure SeqP (L : List PB.RevM) (j : Nat) : Prop where
  all : PB.AllOf cWeb L
  len : L.length = j
  each : ∀ r ∈ L, 1 ≤ r.g ∧ r.g ≤ j ∧ r.ok = true
  has : ∀ g : Int, 1 ≤ g → g ≤ j → ∃ r ∈ L, r.g = g
theorem SeqP.nil : SeqP [] 0 := ⟨PB.AllOf.nil _, rfl, fun r hr => by simp at hr, fun g h0 h1 => by omega⟩
theorem SeqP.step {L : List PB.RevM} {j : Nat} (h : SeqP L j) (hL : PB.OkL L) : PB.findR (PB.stampL L cWeb ((j : Int) + 1)) (PB.revN nmWeb ((j : Int) + 1)).data.toList ≠ none ∧ SeqP (PB.proveL (PB.stampL L cWeb ((j : Int) + 1)) (PB.revN nmWeb ((j : Int) + 1)).data.toList) (j + 1) := by
  have hf : PB.findR L (PB.revN cWeb.nm ((j : Int) + 1)).data.toList = none := PB.find_gen_none h.all hL (by omega) (fun r hr e => by have := (h.each r hr).2.1; omega)
  have hst : PB.stampL L cWeb ((j : Int) + 1) = L ++ [⟨cWeb, (j : Int) + 1, false⟩] := by unfold PB.stampL; rw [hf]; rfl
  have hk : ((⟨cWeb, (j : Int) + 1, false⟩ : PB.RevM).key == (PB.revN nmWeb ((j : Int) + 1)).data.toList) = true := by show ((PB.revN nmWeb ((j : Int) + 1)).data.toList == (PB.revN nmWeb ((j : Int) + 1)).data.toList) = true; simp
  have hn : ∀ r ∈ L, (r.key == (PB.revN nmWeb ((j : Int) + 1)).data.toList) = false := fun r hr => by
    rw [beq_eq_false_iff_ne]
    intro e
    have h1 := (h.each r hr)
    have := (PB.revN_inj (by omega) (by omega) (show (PB.revN r.c.nm r.g).data.toList = _ from e)).2
    omega
  refine ⟨?_, ?_⟩
  · rw [hst]
    unfold PB.findR
    intro e
    rw [List.find?_eq_none] at e
    exact e _ (List.mem_append_right _ (List.mem_singleton.2 rfl)) hk
  · have hp : PB.proveL (PB.stampL L cWeb ((j : Int) + 1)) (PB.revN nmWeb ((j : Int) + 1)).data.toList = L ++ [⟨cWeb, (j : Int) + 1, true⟩] := by
      rw [hst]
      unfold PB.proveL
      rw [List.map_append, List.map_singleton, if_pos hk]
      congr 1
      refine (List.map_congr_left (fun r hr => ?_)).trans (List.map_id L)
      rw [hn r hr]
      rfl
    rw [hp]
    refine ⟨fun r hr => ?_, by rw [List.length_append, h.len]; rfl, fun r hr => ?_, fun g h0 h1 => ?_⟩
    · rcases List.mem_append.1 hr with hr | hr
      · exact h.all r hr
      · rw [List.mem_singleton.1 hr]
    · rcases List.mem_append.1 hr with hr | hr
      · obtain ⟨h1, h2, h3⟩ := h.each r hr
        exact ⟨h1, by omega, h3⟩
      · rw [List.mem_singleton.1 hr]
        exact ⟨by show 1 ≤ (j : Int) + 1; omega, by show (j : Int) + 1 ≤ ((j + 1 : Nat) : Int); omega, rfl⟩
    · by_cases e : g ≤ j
      · obtain ⟨r, hr, hg⟩ := h.has g h0 e
        exact ⟨r, List.mem_append_left _ hr, hg⟩
      · exact ⟨_, List.mem_append_right _ (List.mem_singleton.2 rfl), by show (j : Int) + 1 = g; omega⟩
/-- The latest proved one. -/
theorem SeqP.last {L : List PB.RevM} {j : Nat} (h : SeqP L j) (hL : PB.OkL L) (hj : 1 ≤ j) : PB.latestN L nmWeb (PB.provedL L) = PB.revN nmWeb j := by
  have ht : PB.Top PB.RevM.ok L j := .inr ⟨by
    obtain ⟨r, hr, hg⟩ := h.has j (by omega) (by omega)
    exact ⟨r, hr, (h.each r hr).2.2, hg⟩, fun r hr _ => (h.each r hr).2.1⟩
  rw [PB.top_latest (nm := nmWeb) (fun r hr => by rw [h.all r hr]) hL (fun r hr => PB.provedL_mem hL hr) ht]
  exact PB.nameOf_pos (by omega)
theorem SeqP.found {L : List PB.RevM} {j : Nat} (h : SeqP L j) (hL : PB.OkL L) {g : Int} (h0 : 1 ≤ g) (h1 : g ≤ j) : (PB.findR L (PB.revN nmWeb g).data.toList).isNone = false ∧ PB.provedL L (PB.revN nmWeb g).data.toList = true := by
  obtain ⟨r, hr, hg⟩ := h.has g h0 h1
  have hf : PB.findR L (PB.revN cWeb.nm g).data.toList = some r := PB.find_gen h.all hL h0 hr hg
  have hk : r.key = (PB.revN nmWeb g).data.toList := by show (PB.revN r.c.nm r.g).data.toList = _; rw [h.all r hr, hg]
  refine ⟨by rw [show PB.findR L (PB.revN nmWeb g).data.toList = some r from hf]; rfl, ?_⟩
  rw [← hk, PB.provedL_mem hL hr]
  exact (h.each r hr).2.2
theorem tgt_named {L : List PB.RevM} {j : Nat} (h : SeqP L j) (hL : PB.OkL L) {g : Int} (h0 : 1 ≤ g) (h1 : g ≤ j) (cfg : ByteArray) (hz : (PB.revN nmWeb g).size ≠ 0) : tgt L cfg (PB.revN nmWeb g) = (PB.revN nmWeb g, 0) := by
  obtain ⟨e1, e2⟩ := h.found hL h0 h1
  unfold tgt
  rw [if_neg hz, e1, if_neg (by simp), e2, if_pos rfl]
theorem tgt_last {L : List PB.RevM} {j : Nat} (h : SeqP L j) (hL : PB.OkL L) (hj : 1 ≤ j) (hz : (PB.revN nmWeb j).size ≠ 0) : tgt L nmWeb ⟨#[]⟩ = (PB.revN nmWeb j, 0) := by
  unfold tgt
  rw [h.last hL hj]
  exact (if_pos (show (⟨#[]⟩ : ByteArray).size = 0 from rfl)).trans (if_neg hz)
theorem rev_digit {g : Nat} (h1 : 1 ≤ g) (h9 : g ≤ 9) : PB.revN nmWeb (g : Int) = ⟨#[119, 101, 98, 45, UInt8.ofNat (48 + g)]⟩ := by
  have : g = 1 ∨ g = 2 ∨ g = 3 ∨ g = 4 ∨ g = 5 ∨ g = 6 ∨ g = 7 ∨ g = 8 ∨ g = 9 := by omega
  rcases this with rfl | rfl | rfl | rfl | rfl | rfl | rfl | rfl | rfl <;>
  · unfold PB.revN
    rw [PB.itoa_nat (by decide), Int.toNat_natCast, Lib.decDigits_one (by decide)]
    rfl
abbrev nmOne : ByteArray := ⟨#[119, 101, 98, 45, 49]⟩
theorem rev_one : PB.revN nmWeb 1 = nmOne := rev_digit (g := 1) (by decide) (by decide)
abbrev tgNew : ByteArray := ⟨#[110, 101, 119]⟩
abbrev tgOld : ByteArray := ⟨#[111, 108, 100]⟩
def tsA (last : ByteArray) (x y : Int) : List TgM := [⟨⟨#[]⟩, ⟨#[]⟩, x⟩, ⟨nmOne, ⟨#[]⟩, y⟩, ⟨last, tgNew, 100 - x - y⟩, ⟨nmOne, tgOld, 0⟩]
def wantSh (last : ByteArray) (y : Int) : List S45 := (if 0 < y then [⟨nmOne, y⟩] else []) ++ (if y < 100 then [⟨last, 100 - y⟩] else [])
def wantTg (last : ByteArray) : List S47 := [⟨tgNew, last⟩, ⟨tgOld, nmOne⟩]
theorem adds_plain {L : List PB.RevM} {n : Nat} (h : SeqP L n) (hL : PB.OkL L) (h2 : 2 ≤ n) (h9 : n ≤ 9) (x y : Int) : firstErr L nmWeb (tsA (PB.revN nmWeb n) x y) = none ∧ resSh (stOf L nmWeb (tsA (PB.revN nmWeb n) x y)) = wantSh (PB.revN nmWeb n) y ∧ resTg (stOf L nmWeb (tsA (PB.revN nmWeb n) x y)) = wantTg (PB.revN nmWeb n) := by
  have hd := rev_digit (g := n) (by omega) h9
  have hz : (PB.revN nmWeb (n : Int)).size ≠ 0 := by rw [hd]; show (5 : Nat) ≠ 0; decide
  have t1 := tgt_last h hL (by omega) hz
  have t2 := tgt_named h hL (g := 1) (by omega) (by omega) nmWeb (by rw [rev_one]; decide)
  have t3 := tgt_named h hL (g := n) (by omega) (by omega) nmWeb hz
  rw [rev_one] at t2
  obtain ⟨last, hl⟩ : ∃ last, last = PB.revN nmWeb (n : Int) := ⟨_, rfl⟩
  rw [← hl] at t1 t3 hd ⊢
  have hne : last.data.toList ≠ nmOne.data.toList ∧ nmOne.data.toList ≤ last.data.toList := by
    rw [hd]
    have : n = 2 ∨ n = 3 ∨ n = 4 ∨ n = 5 ∨ n = 6 ∨ n = 7 ∨ n = 8 ∨ n = 9 := by omega
    rcases this with rfl | rfl | rfl | rfl | rfl | rfl | rfl | rfl <;> exact ⟨by decide, by decide⟩
  obtain ⟨hne, hle⟩ := hne
  obtain ⟨kl, hkl⟩ : ∃ kl, kl = last.data.toList := ⟨_, rfl⟩
  obtain ⟨ko, hko⟩ : ∃ ko, ko = nmOne.data.toList := ⟨_, rfl⟩
  rw [← hkl, ← hko] at hne hle
  have hne' : ko ≠ kl := fun e => hne e.symm
  have z0 : (if (⟨#[]⟩ : ByteArray).size = 0 then (0 : Nat) else 1) = 0 := if_pos rfl
  have s1 : stepT L nmWeb st0 ⟨⟨#[]⟩, ⟨#[]⟩, x⟩ = ⟨[kl], setK kl (0 + x) (fun _ => 0), [], fun _ => ⟨#[]⟩⟩ := by
    unfold stepT
    rw [t1, ← hkl]
    rfl
  have s2 : stepT L nmWeb ⟨[kl], setK kl (0 + x) (fun _ => 0), [], fun _ => ⟨#[]⟩⟩ ⟨nmOne, ⟨#[]⟩, y⟩ = ⟨[ko, kl], setK ko (0 + y) (setK kl (0 + x) (fun _ => 0)), [], fun _ => ⟨#[]⟩⟩ := by
    unfold stepT
    rw [t2, ← hko]
    have a1 : addKey ko [kl] = [ko, kl] := by unfold addKey; exact if_neg (by simpa using hne')
    have a2 : setK kl (0 + x) (fun _ => (0 : Int)) ko = 0 := if_neg hne'
    show StM.mk (addKey ko [kl]) (setK ko (setK kl (0 + x) (fun _ => (0 : Int)) ko + y) _) _ _ = _
    rw [a1, a2]
    rfl
  have s3 : stepT L nmWeb ⟨[ko, kl], setK ko (0 + y) (setK kl (0 + x) (fun _ => 0)), [], fun _ => ⟨#[]⟩⟩ ⟨last, tgNew, 100 - x - y⟩ = ⟨[ko, kl], setK kl (0 + x + (100 - x - y)) (setK ko (0 + y) (setK kl (0 + x) (fun _ => 0))), [tgNew.data.toList], setK tgNew.data.toList last fun _ => ⟨#[]⟩⟩ := by
    unfold stepT
    rw [t3, ← hkl]
    have a1 : addKey kl [ko, kl] = [ko, kl] := by unfold addKey; exact if_pos (by simp)
    have a2 : setK ko (0 + y) (setK kl (0 + x) (fun _ => (0 : Int))) kl = 0 + x := (if_neg hne).trans (if_pos rfl)
    show StM.mk (addKey kl [ko, kl]) (setK kl (setK ko (0 + y) (setK kl (0 + x) (fun _ => (0 : Int))) kl + _) _) (if tgNew.size = 0 then _ else _) (if tgNew.size = 0 then _ else _) = _
    rw [a1, a2, if_neg (by decide), if_neg (by decide)]
    rfl
  have s4 : stepT L nmWeb ⟨[ko, kl], setK kl (0 + x + (100 - x - y)) (setK ko (0 + y) (setK kl (0 + x) (fun _ => 0))), [tgNew.data.toList], setK tgNew.data.toList last fun _ => ⟨#[]⟩⟩ ⟨nmOne, tgOld, 0⟩ = ⟨[ko, kl], setK ko (0 + y + 0) (setK kl (0 + x + (100 - x - y)) (setK ko (0 + y) (setK kl (0 + x) (fun _ => 0)))), [tgOld.data.toList, tgNew.data.toList], setK tgOld.data.toList nmOne (setK tgNew.data.toList last fun _ => ⟨#[]⟩)⟩ := by
    unfold stepT
    rw [t2, ← hko]
    have a1 : addKey ko [ko, kl] = [ko, kl] := by unfold addKey; exact if_pos (by simp)
    have a2 : setK kl (0 + x + (100 - x - y)) (setK ko (0 + y) (setK kl (0 + x) (fun _ => (0 : Int)))) ko = 0 + y := (if_neg hne').trans (if_pos rfl)
    show StM.mk (addKey ko [ko, kl]) (setK ko (setK kl (0 + x + (100 - x - y)) (setK ko (0 + y) (setK kl (0 + x) (fun _ => (0 : Int)))) ko + 0) _) (if tgOld.size = 0 then _ else _) (if tgOld.size = 0 then _ else _) = _
    rw [a1, a2, if_neg (by decide), if_neg (by decide)]
    rfl
  have hst : stOf L nmWeb (tsA last x y) = ⟨[ko, kl], setK ko (0 + y + 0) (setK kl (0 + x + (100 - x - y)) (setK ko (0 + y) (setK kl (0 + x) (fun _ => 0)))), [tgOld.data.toList, tgNew.data.toList], setK tgOld.data.toList nmOne (setK tgNew.data.toList last fun _ => ⟨#[]⟩)⟩ := by
    show stepT L nmWeb (stepT L nmWeb (stepT L nmWeb (stepT L nmWeb st0 _) _) _) _ = _
    rw [s1, s2, s3, s4]
  have hb : ∀ b : ByteArray, (⟨b.data.toList.toArray⟩ : ByteArray) = b := fun b => rfl
  have hm : [ko, kl].mergeSort PB.leS = [ko, kl] := List.mergeSort_of_pairwise (by
    refine List.Pairwise.cons (fun z hz => ?_) (List.pairwise_singleton _ _)
    rw [List.mem_singleton.1 hz]
    exact decide_eq_true hle)
  have hm2 : [tgOld.data.toList, tgNew.data.toList].mergeSort PB.leS = [tgNew.data.toList, tgOld.data.toList] := by
    have := List.mergeSort_of_pairwise (le := PB.leS) (l := [tgNew.data.toList, tgOld.data.toList]) (by
      refine List.Pairwise.cons (fun z hz => ?_) (List.pairwise_singleton _ _)
      rw [List.mem_singleton.1 hz]
      decide)
    exact (PB.sort_perm (List.Perm.swap _ _ _)).trans this
  refine ⟨?_, ?_, ?_⟩
  · refine firstErr_none (fun j hj => ?_)
    have : j = 0 ∨ j = 1 ∨ j = 2 ∨ j = 3 := by have : (tsA last x y).length = 4 := rfl; omega
    rcases this with rfl | rfl | rfl | rfl
    · show (tgt L nmWeb ⟨#[]⟩).2 = 0; rw [t1]
    · show (tgt L nmWeb nmOne).2 = 0; rw [t2]
    · show (tgt L nmWeb last).2 = 0; rw [t3]
    · show (tgt L nmWeb nmOne).2 = 0; rw [t2]
  · unfold resSh prsI
    rw [hst]
    show shOf ((([ko, kl].mergeSort PB.leS)).map _) = _
    rw [hm]
    show shOf [(_, setK ko (0 + y + 0) (setK kl (0 + x + (100 - x - y)) (setK ko (0 + y) (setK kl (0 + x) (fun _ => 0)))) ko), (_, setK ko (0 + y + 0) (setK kl (0 + x + (100 - x - y)) (setK ko (0 + y) (setK kl (0 + x) (fun _ => 0)))) kl)] = _
    rw [show setK ko (0 + y + 0) (setK kl (0 + x + (100 - x - y)) (setK ko (0 + y) (setK kl (0 + x) (fun _ => (0 : Int))))) ko = y from (if_pos rfl).trans (by omega),
      show setK ko (0 + y + 0) (setK kl (0 + x + (100 - x - y)) (setK ko (0 + y) (setK kl (0 + x) (fun _ => (0 : Int))))) kl = 100 - y from ((if_neg hne).trans (if_pos rfl)).trans (by omega), hko, hkl]
    unfold shOf wantSh
    by_cases h0 : 0 < y
    · by_cases h1 : y < 100
      · rw [if_pos h0, if_pos h1, List.filter_cons_of_pos (by simpa using h0), List.filter_cons_of_pos (by simp; omega)]; rfl
      · rw [if_pos h0, if_neg h1, List.filter_cons_of_pos (by simpa using h0), List.filter_cons_of_neg (by simp; omega)]; rfl
    · by_cases h1 : y < 100
      · rw [if_neg h0, if_pos h1, List.filter_cons_of_neg (by simpa using h0), List.filter_cons_of_pos (by simp; omega)]; rfl
      · omega
  · unfold resTg prsT
    rw [hst]
    show tgOf (([tgOld.data.toList, tgNew.data.toList].mergeSort PB.leS).map _) = _
    rw [hm2]
    show [(⟨_, setK tgOld.data.toList nmOne (setK tgNew.data.toList last fun _ => ⟨#[]⟩) tgNew.data.toList⟩ : S47), ⟨_, setK tgOld.data.toList nmOne (setK tgNew.data.toList last fun _ => ⟨#[]⟩) tgOld.data.toList⟩] = _
    rw [show setK tgOld.data.toList nmOne (setK tgNew.data.toList last fun _ => (⟨#[]⟩ : ByteArray)) tgNew.data.toList = last from (if_neg (by decide)).trans (if_pos rfl), show setK tgOld.data.toList nmOne (setK tgNew.data.toList last fun _ => (⟨#[]⟩ : ByteArray)) tgOld.data.toList = nmOne from if_pos rfl]
    rfl

/-- Two tags that lie in a block. -/
theorem c_twoT {w : World} {g : Nat} {x y : S47} (h : Blk w g #[.string x.f0, .string x.f1, .string y.f0, .string y.f1] 47) : Kd.C k47 w (some ⟨g, 0, none⟩) 2 [x, y] := by
  refine ⟨rfl, by decide, fun _ => ⟨⟨g, 0, none⟩, rfl, fun j p hj => ?_⟩⟩
  match j, hj with
  | 0, hj =>
    simp at hj
    subst hj
    refine ⟨[.string x.f0, .string x.f1], rfl, k47.K_of_M (k47_mkM w 0 (fun _ => True) x), fun i u hu => ?_⟩
    have e : (⟨g, 0, none⟩ : Addr).add (0 * k47.sz + i) = ⟨g, i, none⟩ := by unfold Addr.add; split <;> simp_all
    rw [e, h.cell i]
    match i, hu with
    | 0, hu => simpa using hu
    | 1, hu => simpa using hu
  | 1, hj =>
    simp at hj
    subst hj
    refine ⟨[.string y.f0, .string y.f1], rfl, k47.K_of_M (k47_mkM w 0 (fun _ => True) y), fun i u hu => ?_⟩
    have e : (⟨g, 0, none⟩ : Addr).add (1 * k47.sz + i) = ⟨g, 2 + i, none⟩ := by
      rw [add_at, Nat.zero_add]
      show (⟨g, 1 * 2 + i, none⟩ : Addr) = _
      rw [Nat.one_mul]
    rw [e, h.cell (2 + i)]
    match i, hu with
    | 0, hu => simpa using hu
    | 1, hu => simpa using hu
/-- A field of the table that is wanted gets a row that was appended to. -/
theorem want_put {w1 : World} {gw base : Nat} {v v' u : Value} {xs : List S45} (hk : Blk w1 gw #[v, u] 41) (hb : gw < base) (hr : RowG el45 w1 base v' xs) :
    Blk (w1.setCell ⟨gw, 0, none⟩ v') gw #[v', u] 41 ∧ RowG el45 (w1.setCell ⟨gw, 0, none⟩ v') base v' xs ∧ Below gw w1 (w1.setCell ⟨gw, 0, none⟩ v') :=
  ⟨hk.set 0 v' rfl, hr.moved (fun k hk1 _ => Below.heap_setCell _ _ _ _ (by show k ≠ gw; omega)), (Below.refl _ _).setCell (p := ⟨gw, 0, none⟩) (Nat.le_refl _) _⟩

set_option maxRecDepth 100000 in
set_option maxHeartbeats 8000000 in
theorem adds_law (x0 x1 x2 : Int) (w : World) (ht : ∀ w', Below w.heap.size w w' → PB.Pow10 w') :
    Calls Tryd.prog 3 #[.int .i64 x0, .int .i64 x1, .int .i64 x2] w fun e w' => e = .returned (.bool true) ∧ Below w.heap.size w w' := by
  have HT := Lib.hid ht
  clear ht
  go_enter Tryd.func3, Tryd.ntmps3
  go_wp2_with fail
  refine (known13 w).mono ?_
  rintro e w1 ⟨rfl, hb1⟩
  go_wp2_with fail
  refine (PB.new_calls w1).mono ?_
  rintro e w2 ⟨p, b1, b2, rfl, hB, ⟨hp, h1, h2⟩, hb2⟩
  have z1 := hb1.size
  have hp : w.heap.size ≤ p := by omega
  have h1 : w.heap.size ≤ b1 := by omega
  have h2 : w.heap.size ≤ b2 := by omega
  have HB2 := Lib.hid hB
  have B2 := Lib.hid (PA.below_step hb1 hb2)
  clear hB hb1 hb2 z1
  obtain ⟨W3, hW3⟩ : ∃ W3, W3 = w2.alloc (.cells #[.string nmWeb, .int .i64 0, .int .i64 1, .int .i64 0, .int .i64 1, .int .i64 0] 26) := ⟨_, rfl⟩
  have bW3 : Below w2.heap.size w2 W3 := by rw [hW3]; exact (Below.refl _ _).alloc (Nat.le_refl _) _
  have kc : Blk W3 w2.heap.size #[.string nmWeb, .int .i64 0, .int .i64 1, .int .i64 0, .int .i64 1, .int .i64 0] 26 := by rw [hW3]; exact Blk.new _ _ _
  obtain ⟨gc, hgc⟩ : ∃ gc, gc = w2.heap.size := ⟨_, rfl⟩
  rw [← hgc] at kc
  have HB3 := Lib.hid (HB2.out.below bW3)
  have B3 := Lib.hid (PA.below_step B2.out bW3)
  have hbl := HB2.out.lt
  have hg1 : gc ≠ b1 := by omega
  have hg2 : gc ≠ b2 := by omega
  have KC3 := Lib.hid kc
  clear kc bW3 HB2 B2 hbl
  go_upto_region 7 with fail
  rw [← hW3, ← hgc]
  clear hW3 hgc
  have hwi := Lib.hid (PB.within12 x2 8 (by omega) (by omega))
  have q0 := Int.emod_nonneg x2 (b := 8) (by omega)
  have q1 := Int.emod_lt_of_pos x2 (b := 8) (by omega)
  go_wp2_with fail
  refine (PB.damperlaw13_within.calls x2 8 (x2 % 8) _ hwi.out).mono ?_
  rintro e w4 ⟨rfl, hdr_⟩
  have hd_ := hdr_.below
  clear hdr_
  clear hwi
  have HB4 := Lib.hid (HB3.out.below hd_)
  have KC4 := Lib.hid (KC3.out.below hd_ KC3.out.lt)
  have B4 := Lib.hid (PA.below_step B3.out hd_)
  generalize x2 % 8 = q at q0 q1 ⊢
  obtain ⟨n, hn⟩ : ∃ n : Nat, (n : Int) = 2 + q := ⟨(2 + q).toNat, by omega⟩
  have hn2 : 2 ≤ n := by omega
  have hn9 : n ≤ 9 := by omega
  have HN := Lib.hid hn
  clear hn hd_ HB3 KC3 B3
  go_upto_region 8 with fail
  rw [← HN.out]
  clear HN q0 q1
  go_wp2_with fail
  go_loopw [10] (fun v10 wr => ∃ (i : Nat) (L : List PB.RevM), i ≤ n ∧ v10 = .int .i64 ((i : Int) + 1) ∧ Hid (PB.BookAt wr p b1 b2 L) ∧ Hid (PB.OkL L) ∧ Hid (SeqP L i) ∧ Hid (Blk wr gc #[.string nmWeb, .int .i64 0, .int .i64 1, .int .i64 0, .int .i64 1, .int .i64 0] 26) ∧ Hid (Below w.heap.size w wr)) (fun v10 _ => n + 1 - (vI v10).toNat)
  case atStart => exact ⟨0, [], by omega, rfl, HB4, Lib.hid PB.OkL.nil, Lib.hid SeqP.nil, KC4, B4⟩
  case round =>
    clear HB4 KC4 B4
    obtain ⟨i, L, hi, rfl, HB, HL, HS, KC, BB⟩ := hrel
    have hlen := HS.out.len
    by_cases hlt : i < n
    · have hlt' : (i : Int) + 1 ≤ (n : Int) := by omega
      have kcc := KC.out
      have c0 := kcc.cell 0
      have c1 := kcc.cell 1
      have c2 := kcc.cell 2
      have c3 := kcc.cell 3
      have c4 := kcc.cell 4
      have c5 := kcc.cell 5
      simp only [List.getElem?_toArray, List.getElem?_cons_zero, List.getElem?_cons_succ] at c0 c1 c2 c3 c4 c5
      clear kcc
      go_wp2_with fail
      with_reducible refine (PB.stamp_callsE HB.out HL.out cWeb nmWeb_valid ((i : Int) + 1) (by omega) (by omega) (fun w' hb => HT.out w' (PA.below_step BB.out hb)) cWeb_enc (nm := nmWeb) cWeb_nm).mono ?_
      rintro e w5 ⟨rfl, hB5, hc5⟩
      obtain ⟨hs1, hs2⟩ := HS.out.step HL.out
      have HF := Lib.hid hs1
      have HS8 := Lib.hid hs2
      have HB5 := Lib.hid hB5
      have HL5 := Lib.hid (HL.out.stamp (c := cWeb) nmWeb_valid (g := (i : Int) + 1) (by omega) (by omega) (by omega))
      have KC5 := Lib.hid (KC.out.chg hc5 (fun h => h.elim hg1 hg2))
      have B5 := Lib.hid (hc5.below_of BB.out BB.out.size (fun k hk e => by omega))
      clear hs1 hs2 hB5 hc5 HB BB KC c0 c1 c2 c3 c4 c5 HL HS
      generalize PB.stampL L cWeb ((i : Int) + 1) = L5 at HB5 HL5 HF HS8
      go_wp2_with fail
      with_reducible refine (PB.rrev_calls nmWeb nmWeb_valid ((i : Int) + 1) (by omega) (by omega) _).mono ?_
      rintro e w7 ⟨rfl, hb7⟩
      have HB7 := Lib.hid (HB5.out.below hb7)
      have KC7 := Lib.hid (KC5.out.below hb7 KC5.out.lt)
      have B7 := Lib.hid (PA.below_step B5.out hb7)
      clear hb7 HB5 KC5 B5
      have hsz := PB.revN_size nmWeb (by decide) ((i : Int) + 1) (by omega) (by omega)
      have hpc := PB.prove_calls HB7.out HL5.out (PB.revN nmWeb ((i : Int) + 1)) (by omega)
      rw [if_pos (Option.isSome_iff_ne_none.2 HF.out)] at hpc
      have HPC := Lib.hid hpc
      clear hpc HF
      go_wp2_with fail
      with_reducible refine HPC.out.mono ?_
      rintro e w8 ⟨rfl, hB8, hc8⟩
      have HB8 := Lib.hid hB8
      have HL8 := Lib.hid (HL5.out.prove (PB.revN nmWeb ((i : Int) + 1)).data.toList)
      have KC8 := Lib.hid (KC7.out.chg hc8 (fun h => h.elim hg1 hg2))
      have B8 := Lib.hid (hc8.below_of B7.out B7.out.size (fun k hk e => by omega))
      generalize PB.proveL L5 (PB.revN nmWeb ((i : Int) + 1)).data.toList = L8 at HB8 HL8 HS8
      clear hB8 hc8 HPC HB7 KC7 B7 hsz HL5
      go_wp2_with fail
      go_roundw
      case rel => exact ⟨i + 1, L8, by omega, by go_num, HB8, HL8, HS8, KC8, B8⟩
      case measure => simp [vI]; omega
    · have hin : i = n := by omega
      rw [hin] at HS
      have hnl : ¬ (i : Int) + 1 ≤ (n : Int) := by omega
      clear KC
      go_wp2_with fail
      with_reducible refine (PB.rrev_calls nmWeb nmWeb_valid (n : Int) (by omega) (by omega) _).mono ?_
      rintro e w5 ⟨rfl, hb5⟩
      have HB5 := Lib.hid (HB.out.below hb5)
      have B5 := Lib.hid (PA.below_step BB.out hb5)
      clear hb5 HB BB
      have hwx := Lib.hid (PB.within12 x0 101 (by omega) (by omega))
      have q0 := Int.emod_nonneg x0 (b := 101) (by omega)
      have q1 := Int.emod_lt_of_pos x0 (b := 101) (by omega)
      go_wp2_with fail
      refine (PB.damperlaw13_within.calls x0 101 (x0 % 101) _ hwx.out).mono ?_
      rintro e w6 ⟨rfl, hdr_⟩
      have HB6 := Lib.hid (HB5.out.below hdr_.below)
      have B6 := Lib.hid (PA.below_step B5.out hdr_.below)
      clear hdr_ hwx HB5 B5
      generalize x0 % 101 = x at q0 q1 ⊢
      have hwy := Lib.hid (PB.within12 x1 (101 - x) (by omega) (by omega))
      have r0 := Int.emod_nonneg x1 (b := 101 - x) (by omega)
      have r1 := Int.emod_lt_of_pos x1 (b := 101 - x) (by omega)
      go_wp2_with fail
      refine (PB.damperlaw13_within.calls x1 (101 - x) (x1 % (101 - x)) _ hwy.out).mono ?_
      rintro e w7 ⟨rfl, hdr_⟩
      have HB7 := Lib.hid (HB6.out.below hdr_.below)
      have B7 := Lib.hid (PA.below_step B6.out hdr_.below)
      clear hdr_ hwy HB6 B6
      generalize x1 % (101 - x) = y at r0 r1 ⊢
      have hap := Lib.hid (adds_plain HS.out HL.out hn2 hn9 x y)
      have hlz : (PB.revN nmWeb (n : Int)).size ≤ 1000 := by have := PB.revN_size nmWeb (by decide) (n : Int) (by omega) (by omega); omega
      generalize PB.revN nmWeb (n : Int) = last at hap hlz ⊢
      go_upto_region 18 with fail
      obtain ⟨W8, hW8⟩ : ∃ W8, W8 = (w7.alloc (.cells #[.string ⟨#[]⟩, .string ⟨#[]⟩, .int .i64 x, .string nmOne, .string ⟨#[]⟩, .int .i64 y, .string last, .string tgNew, .int .i64 (100 - x - y), .string nmOne, .string tgOld, .int .i64 0] 34)).alloc (.cells #[.string ⟨#[102, 114, 111, 110, 116]⟩, .string nmWeb, .slice (some ⟨w7.heap.size, 0, none⟩) 4 4, .int .i64 0] 37) := ⟨_, rfl⟩
      have bW8 : Below w7.heap.size w7 W8 := by rw [hW8]; exact ((Below.refl _ _).alloc (Nat.le_refl _) _).alloc (by simp) _
      have kt : Blk W8 w7.heap.size #[.string ⟨#[]⟩, .string ⟨#[]⟩, .int .i64 x, .string nmOne, .string ⟨#[]⟩, .int .i64 y, .string last, .string tgNew, .int .i64 (100 - x - y), .string nmOne, .string tgOld, .int .i64 0] 34 := by rw [hW8]; exact (Blk.new _ _ _).alloc _
      have kr : Blk W8 (w7.heap.size + 1) #[.string ⟨#[102, 114, 111, 110, 116]⟩, .string nmWeb, .slice (some ⟨w7.heap.size, 0, none⟩) 4 4, .int .i64 0] 37 := by
        rw [hW8]
        have := Blk.new (w7.alloc (.cells #[.string ⟨#[]⟩, .string ⟨#[]⟩, .int .i64 x, .string nmOne, .string ⟨#[]⟩, .int .i64 y, .string last, .string tgNew, .int .i64 (100 - x - y), .string nmOne, .string tgOld, .int .i64 0] 34)) #[.string ⟨#[102, 114, 111, 110, 116]⟩, .string nmWeb, .slice (some ⟨w7.heap.size, 0, none⟩) 4 4, .int .i64 0] 37
        simpa using this
      rw [← hW8]
      clear hW8
      obtain ⟨g, hg⟩ : ∃ g, g = w7.heap.size := ⟨_, rfl⟩
      rw [← hg] at kt kr ⊢
      have HB8 := Lib.hid (HB7.out.below bW8)
      have B8 := Lib.hid (PA.below_step B7.out bW8)
      have hts : TgsAt W8 (some ⟨g, 0, none⟩) (tsA last x y) := fun _ => ⟨g, 0, rfl, kt.lt, fun i hi => by
        match i, hi with
        | 0, _ => exact ⟨kt.cell 0, kt.cell 1, kt.cell 2⟩
        | 1, _ => exact ⟨kt.cell 3, kt.cell 4, kt.cell 5⟩
        | 2, _ => exact ⟨kt.cell 6, kt.cell 7, kt.cell 8⟩
        | 3, _ => exact ⟨kt.cell 9, kt.cell 10, kt.cell 11⟩⟩
      have htok : ∀ t ∈ tsA last x y, TgOk t := fun t ht => by
        simp only [tsA, List.mem_cons, List.not_mem_nil, or_false] at ht
        rcases ht with rfl | rfl | rfl | rfl
        · exact ⟨by show (0 : Nat) ≤ 1000; omega, by show (0 : Nat) ≤ 1000; omega, by show 0 ≤ x; omega, by show x ≤ 100; omega⟩
        · exact ⟨by show (5 : Nat) ≤ 1000; omega, by show (0 : Nat) ≤ 1000; omega, by show 0 ≤ y; omega, by show y ≤ 100; omega⟩
        · exact ⟨hlz, by show (3 : Nat) ≤ 1000; omega, by show 0 ≤ 100 - x - y; omega, by show 100 - x - y ≤ 100; omega⟩
        · exact ⟨by show (5 : Nat) ≤ 1000; omega, by show (3 : Nat) ≤ 1000; omega, by show (0 : Int) ≤ 0; omega, by show (0 : Int) ≤ 100; omega⟩
      have hrs : Calls Tryd.prog 11 #[.agg #[.string ⟨#[102, 114, 111, 110, 116]⟩, .string nmWeb, .slice (some ⟨g, 0, none⟩) 4 4, .int .i64 0], .pointer (some ⟨p, 0, none⟩)] W8 (RPost W8 L nmWeb (tsA last x y)) :=
        resolve_calls HB8.out HL.out ⟨#[102, 114, 111, 110, 116]⟩ nmWeb 0 (some ⟨g, 0, none⟩) 4 (tsA last x y) hts htok (by show (4 : Nat) ≤ 100; omega)
      have HRS := Lib.hid hrs
      have q0 := kr.cell 0
      have q1 := kr.cell 1
      have q2 := kr.cell 2
      have q3 := kr.cell 3
      simp only [List.getElem?_toArray, List.getElem?_cons_zero, List.getElem?_cons_succ] at q0 q1 q2 q3
      clear hrs hts htok kt kr bW8 HB7 B7 hg
      go_wp2_with fail
      with_reducible refine HRS.out.mono ?_
      rintro e w9 ⟨hb9, hm⟩
      rw [hap.out.1, hap.out.2.1, hap.out.2.2] at hm
      obtain ⟨A, c, B, d, rfl, hA, hc, hT, hd⟩ := hm
      obtain ⟨sw, hsw⟩ : ∃ sw, sw = wantSh last y := ⟨_, rfl⟩
      rw [← hsw] at hA hc ⊢
      have HSW := Lib.hid hsw
      have HA := Lib.hid hA
      have HTg := Lib.hid hT
      have B9 := Lib.hid (PA.below_step B8.out hb9)
      obtain ⟨W9, hW9⟩ : ∃ W9, W9 = (w9.alloc (.cells #[.slice A sw.length c, .slice B (wantTg last).length d] 41)).alloc (.cells #[.slice none 0 0, .slice none 0 0] 41) := ⟨_, rfl⟩
      have bW9 : Below w9.heap.size w9 W9 := by rw [hW9]; exact ((Below.refl _ _).alloc (Nat.le_refl _) _).alloc (by simp) _
      have kt : Blk W9 w9.heap.size #[.slice A sw.length c, .slice B (wantTg last).length d] 41 := by rw [hW9]; exact (Blk.new _ _ _).alloc _
      have kw : Blk W9 (w9.heap.size + 1) #[.slice none 0 0, .slice none 0 0] 41 := by
        rw [hW9]
        have := Blk.new (w9.alloc (.cells #[.slice A sw.length c, .slice B (wantTg last).length d] 41)) #[.slice none 0 0, .slice none 0 0] 41
        simpa using this
      have hwsz : w.heap.size ≤ w9.heap.size := B9.out.size
      clear hsw hA hT hb9 hap HRS q0 q1 q2 q3 HB8 B8
      go_upto_region 20 with fail
      rw [← hW9]
      clear hW9
      obtain ⟨gt, hgt⟩ : ∃ gt, gt = w9.heap.size := ⟨_, rfl⟩
      have KA := Lib.hid (Kd.C_below HA.out bW9)
      have KB := Lib.hid (Kd.C_below HTg.out bW9)
      have hgt9 : w9.heap.size ≤ gt := by omega
      obtain ⟨gw, hgw⟩ : ∃ gw, gw = gt + 1 := ⟨_, rfl⟩
      rw [← hgt] at kt kw ⊢
      rw [← hgw] at kw ⊢
      have hgtw : gt < gw := by omega
      obtain ⟨base, hbase⟩ : ∃ base, base = gw + 1 := ⟨_, rfl⟩
      have hgwb : gw < base := by omega
      have hgwc : base ≤ gw + 1 := by omega
      have sz9 : base ≤ W9.heap.size := by have := kw.lt; omega
      have KT9 := Lib.hid kt
      have KW9 := Lib.hid kw
      have BX9 := Lib.hid bW9
      have RR9 := Lib.hid (RowG.nil (E := el45) W9 base)
      clear kt kw bW9 hgt hgw hbase HS HL HT KA KB
      by_cases hy0 : 0 < y
      · skip
        have lt10 : gw < W9.heap.size := KW9.out.lt
        have q10 := KW9.out.cell 0
        simp only [List.getElem?_toArray, List.getElem?_cons_zero, List.getElem?_cons_succ] at q10
        have k4 : (W9.alloc (.cells #[.string nmOne, .int .i64 y] 45)).heap[W9.heap.size]? = some (.cells (el45.enc ⟨nmOne, y⟩).toArray el45.e (0, 0)) := new_at _ _
        have bA : Below W9.heap.size W9 (W9.alloc (.cells #[.string nmOne, .int .i64 y] 45)) := (Below.refl _ _).alloc (Nat.le_refl _) _
        have rA : RowG el45 (W9.alloc (.cells #[.string nmOne, .int .i64 y] 45)) base (.slice none 0 0) [] := RR9.out.below bA (Nat.le_refl _)
        have szA : base ≤ (W9.alloc (.cells #[.string nmOne, .int .i64 y] 45)).heap.size := by have := bA.size; omega
        have kA := Lib.hid (KW9.out.below bA lt10)
        have tA := Lib.hid (KT9.out.below bA (KT9.out.lt))
        have xA := Lib.hid (BX9.out.trans (bA.mono (by omega)))
        clear bA
        go_upto_region 22 with (at_builtin; refine list_appG el45 _ rfl (.tmp 71) (.tmp 74) rfl base _ [] (by rfl) rA (some ⟨W9.heap.size, 0, none⟩) 1 1 [⟨nmOne, y⟩] (by rfl) rfl (SrcG.one k4) (by simp) (by omega) szA ?_; intro v10 u10 r10 b10 z10; obtain ⟨A10, cc10, hv10, _, _⟩ := r10.shape; have hv10 : v10 = .slice A10 1 cc10 := hv10; subst hv10; have kU10 := kA.out.below b10 (by omega); have fU10 := kU10.frozen 0; have cU10 := kU10.cell 0; simp only [List.getElem?_toArray, List.getElem?_cons_zero] at cU10)
        obtain ⟨hk10, hr10, hb10⟩ := want_put (base := base) (kA.out.below b10 (by omega)) (by omega) r10
        have KW10 := Lib.hid hk10
        have RR10 := Lib.hid hr10
        have KT10 := Lib.hid ((tA.out.below b10 (by omega)).below hb10 hgtw)
        have BX10 := Lib.hid ((xA.out.trans (b10.mono (by omega))).trans (hb10.mono (by omega)))
        have sz10 : base ≤ (u10.setCell ⟨gw, 0, none⟩ (.slice A10 1 cc10)).heap.size := by have := KW10.out.lt; omega
        clear kU10 fU10 cU10
        obtain ⟨W10, hW10⟩ : ∃ W10, W10 = u10.setCell ⟨gw, 0, none⟩ (.slice A10 1 cc10) := ⟨_, rfl⟩
        rw [← hW10] at KW10 RR10 KT10 BX10 sz10 ⊢
        clear hW10 hk10 hr10 hb10 b10 r10 z10 kA tA xA rA k4 szA q10 lt10
        by_cases hy1 : y < 100
        · skip
          have lt11 : gw < W10.heap.size := KW10.out.lt
          have q11 := KW10.out.cell 0
          simp only [List.getElem?_toArray, List.getElem?_cons_zero, List.getElem?_cons_succ] at q11
          have k4 : (W10.alloc (.cells #[.string last, .int .i64 (100 - y)] 45)).heap[W10.heap.size]? = some (.cells (el45.enc ⟨last, (100 - y)⟩).toArray el45.e (0, 0)) := new_at _ _
          have bA : Below W10.heap.size W10 (W10.alloc (.cells #[.string last, .int .i64 (100 - y)] 45)) := (Below.refl _ _).alloc (Nat.le_refl _) _
          have rA : RowG el45 (W10.alloc (.cells #[.string last, .int .i64 (100 - y)] 45)) base (.slice A10 1 cc10) ([] ++ [(⟨nmOne, y⟩ : S45)]) := RR10.out.below bA (Nat.le_refl _)
          have szA : base ≤ (W10.alloc (.cells #[.string last, .int .i64 (100 - y)] 45)).heap.size := by have := bA.size; omega
          have kA := Lib.hid (KW10.out.below bA lt11)
          have tA := Lib.hid (KT10.out.below bA (KT10.out.lt))
          have xA := Lib.hid (BX10.out.trans (bA.mono (by omega)))
          clear bA
          go_upto_region 24 with (at_builtin; refine list_appG el45 _ rfl (.tmp 80) (.tmp 85) rfl base _ ([] ++ [(⟨nmOne, y⟩ : S45)]) (by rfl) rA (some ⟨W10.heap.size, 0, none⟩) 1 1 [⟨last, (100 - y)⟩] (by rfl) rfl (SrcG.one k4) (by simp) (by omega) szA ?_; intro v11 u11 r11 b11 z11; obtain ⟨A11, cc11, hv11, _, _⟩ := r11.shape; have hv11 : v11 = .slice A11 2 cc11 := hv11; subst hv11; have kU11 := kA.out.below b11 (by omega); have fU11 := kU11.frozen 0; have cU11 := kU11.cell 0; simp only [List.getElem?_toArray, List.getElem?_cons_zero] at cU11)
          obtain ⟨hk11, hr11, hb11⟩ := want_put (base := base) (kA.out.below b11 (by omega)) (by omega) r11
          have KW11 := Lib.hid hk11
          have RR11 := Lib.hid hr11
          have KT11 := Lib.hid ((tA.out.below b11 (by omega)).below hb11 hgtw)
          have BX11 := Lib.hid ((xA.out.trans (b11.mono (by omega))).trans (hb11.mono (by omega)))
          have sz11 : base ≤ (u11.setCell ⟨gw, 0, none⟩ (.slice A11 2 cc11)).heap.size := by have := KW11.out.lt; omega
          clear kU11 fU11 cU11
          obtain ⟨W11, hW11⟩ : ∃ W11, W11 = u11.setCell ⟨gw, 0, none⟩ (.slice A11 2 cc11) := ⟨_, rfl⟩
          rw [← hW11] at KW11 RR11 KT11 BX11 sz11 ⊢
          clear hW11 hk11 hr11 hb11 b11 r11 z11 kA tA xA rA k4 szA q11 lt11
          have hsl : sw = (([] ++ [(⟨nmOne, y⟩ : S45)]) ++ [(⟨last, 100 - y⟩ : S45)]) := by rw [HSW.out]; unfold wantSh; rw [if_pos hy0, if_pos hy1]; rfl
          obtain ⟨WT, hWT⟩ : ∃ WT, WT = (W11.setCell ⟨gw, 1, none⟩ (.slice (some ⟨W11.heap.size, 0, none⟩) 2 2)).alloc (.cells #[.string tgNew, .string last, .string tgOld, .string nmOne] 47) := ⟨_, rfl⟩
          have hsz : (W11.setCell ⟨gw, 1, none⟩ (.slice (some ⟨W11.heap.size, 0, none⟩) 2 2)).heap.size = W11.heap.size := by simp [World.setCell]
          have bA : Below W11.heap.size W11 (W11.alloc (.cells #[.string tgNew, .string last, .string tgOld, .string nmOne] 47)) := (Below.refl _ _).alloc (Nat.le_refl _) _
          have ltW : gw < W11.heap.size := KW11.out.lt
          have kA := KW11.out.below bA ltW
          have bS : Below gw W11 WT := by rw [hWT]; exact ((Below.refl gw W11).setCell (p := ⟨gw, 1, none⟩) (Nat.le_refl _) _).alloc (by rw [hsz]; omega) _
          have kT : Blk WT gw #[.slice A11 2 cc11, .slice (some ⟨W11.heap.size, 0, none⟩) 2 2] 41 := by rw [hWT]; exact (KW11.out.set 1 _ rfl).alloc _
          have kt2 := KT11.out.below bS hgtw
          have kg : Blk WT W11.heap.size #[.string tgNew, .string last, .string tgOld, .string nmOne] 47 := by
            have := Blk.new (W11.setCell ⟨gw, 1, none⟩ (.slice (some ⟨W11.heap.size, 0, none⟩) 2 2)) #[.string tgNew, .string last, .string tgOld, .string nmOne] 47
            rw [hsz] at this
            rw [hWT]
            exact this
          have rT : RowG el45 WT base (.slice A11 2 cc11) (([] ++ [(⟨nmOne, y⟩ : S45)]) ++ [(⟨last, 100 - y⟩ : S45)]) := RR11.out.moved (fun k hk1 hk2 => by
            rw [hWT]
            exact (Below.heap_alloc _ _ _ (by rw [hsz]; exact hk2)).trans (Below.heap_setCell _ _ _ _ (by show k ≠ gw; omega)))
          have xT := BX11.out.trans (bS.mono (by omega))
          have kC := c_twoT (x := ⟨tgNew, last⟩) (y := ⟨tgOld, nmOne⟩) kg
          obtain ⟨A2, c2, hv2, hc2, hC2⟩ := RowG.toC rT
          obtain ⟨e1, e2, e3⟩ : A11 = A2 ∧ 2 = (([] ++ [(⟨nmOne, y⟩ : S45)]) ++ [(⟨last, 100 - y⟩ : S45)]).length ∧ cc11 = c2 := by injection hv2 with e1 e2 e3; exact ⟨e1, e2, e3⟩
          subst e1
          subst e3
          have hh := sameS (d' := 2) WT (Kd.C_below HA.out (xT.mono (by omega))) hc (Kd.C_below HTg.out xT) hd hC2 hc2 kC (Nat.le_refl _) (hsl ▸ by simp) (by show (2 : Nat) ≤ 100000; omega) (hsl) rfl
          rw [← e2] at hh
          have HS : Hid (Calls Tryd.prog 12 #[.agg #[.slice A sw.length c, .slice B (wantTg last).length d], .agg #[.slice A11 2 cc11, .slice (some ⟨W11.heap.size, 0, none⟩) 2 2]] WT (fun e w' => e = .returned (.bool true) ∧ Below WT.heap.size WT w')) := Lib.hid hh
          clear hh
          have q0 := kt2.cell 0
          have q1 := kt2.cell 1
          have q2 := kT.cell 0
          have q3 := kT.cell 1
          have q4 := kA.cell 0
          have q5 := kA.cell 1
          have q6 := kA.frozen 1
          have p4 := KW11.out.cell 0
          have p5 := KW11.out.cell 1
          have p6 := KW11.out.frozen 1
          simp only [List.getElem?_toArray, List.getElem?_cons_zero, List.getElem?_cons_succ] at q0 q1 q2 q3 q4 q5 p4 p5
          have BT := Lib.hid (PA.below_step B9.out xT)
          clear hsl e2 hC2 hc2 kC kg kt2 kT rT xT bS kA bA
          go_upto_region 25 with fail
          rw [← hWT]
          clear hWT q4 q5 q6 p4 p5 p6 hsz
          go_wp2_with fail
          with_reducible refine HS.out.mono ?_
          rintro e wz ⟨rfl, hbz⟩
          have BZ := Lib.hid (PA.below_step BT.out hbz)
          clear hbz
          go_wp2_with fail
          go_ret
          exact ⟨rfl, BZ.out⟩
        · skip
          have hsl : sw = ([] ++ [(⟨nmOne, y⟩ : S45)]) := by rw [HSW.out]; unfold wantSh; rw [if_pos hy0, if_neg hy1]; rfl
          go_upto_region 24 with fail
          obtain ⟨WT, hWT⟩ : ∃ WT, WT = (W10.setCell ⟨gw, 1, none⟩ (.slice (some ⟨W10.heap.size, 0, none⟩) 2 2)).alloc (.cells #[.string tgNew, .string last, .string tgOld, .string nmOne] 47) := ⟨_, rfl⟩
          have hsz : (W10.setCell ⟨gw, 1, none⟩ (.slice (some ⟨W10.heap.size, 0, none⟩) 2 2)).heap.size = W10.heap.size := by simp [World.setCell]
          have bA : Below W10.heap.size W10 (W10.alloc (.cells #[.string tgNew, .string last, .string tgOld, .string nmOne] 47)) := (Below.refl _ _).alloc (Nat.le_refl _) _
          have ltW : gw < W10.heap.size := KW10.out.lt
          have kA := KW10.out.below bA ltW
          have bS : Below gw W10 WT := by rw [hWT]; exact ((Below.refl gw W10).setCell (p := ⟨gw, 1, none⟩) (Nat.le_refl _) _).alloc (by rw [hsz]; omega) _
          have kT : Blk WT gw #[.slice A10 1 cc10, .slice (some ⟨W10.heap.size, 0, none⟩) 2 2] 41 := by rw [hWT]; exact (KW10.out.set 1 _ rfl).alloc _
          have kt2 := KT10.out.below bS hgtw
          have kg : Blk WT W10.heap.size #[.string tgNew, .string last, .string tgOld, .string nmOne] 47 := by
            have := Blk.new (W10.setCell ⟨gw, 1, none⟩ (.slice (some ⟨W10.heap.size, 0, none⟩) 2 2)) #[.string tgNew, .string last, .string tgOld, .string nmOne] 47
            rw [hsz] at this
            rw [hWT]
            exact this
          have rT : RowG el45 WT base (.slice A10 1 cc10) ([] ++ [(⟨nmOne, y⟩ : S45)]) := RR10.out.moved (fun k hk1 hk2 => by
            rw [hWT]
            exact (Below.heap_alloc _ _ _ (by rw [hsz]; exact hk2)).trans (Below.heap_setCell _ _ _ _ (by show k ≠ gw; omega)))
          have xT := BX10.out.trans (bS.mono (by omega))
          have kC := c_twoT (x := ⟨tgNew, last⟩) (y := ⟨tgOld, nmOne⟩) kg
          obtain ⟨A2, c2, hv2, hc2, hC2⟩ := RowG.toC rT
          obtain ⟨e1, e2, e3⟩ : A10 = A2 ∧ 1 = ([] ++ [(⟨nmOne, y⟩ : S45)]).length ∧ cc10 = c2 := by injection hv2 with e1 e2 e3; exact ⟨e1, e2, e3⟩
          subst e1
          subst e3
          have hh := sameS (d' := 2) WT (Kd.C_below HA.out (xT.mono (by omega))) hc (Kd.C_below HTg.out xT) hd hC2 hc2 kC (Nat.le_refl _) (hsl ▸ by simp) (by show (2 : Nat) ≤ 100000; omega) (hsl) rfl
          rw [← e2] at hh
          have HS : Hid (Calls Tryd.prog 12 #[.agg #[.slice A sw.length c, .slice B (wantTg last).length d], .agg #[.slice A10 1 cc10, .slice (some ⟨W10.heap.size, 0, none⟩) 2 2]] WT (fun e w' => e = .returned (.bool true) ∧ Below WT.heap.size WT w')) := Lib.hid hh
          clear hh
          have q0 := kt2.cell 0
          have q1 := kt2.cell 1
          have q2 := kT.cell 0
          have q3 := kT.cell 1
          have q4 := kA.cell 0
          have q5 := kA.cell 1
          have q6 := kA.frozen 1
          have p4 := KW10.out.cell 0
          have p5 := KW10.out.cell 1
          have p6 := KW10.out.frozen 1
          simp only [List.getElem?_toArray, List.getElem?_cons_zero, List.getElem?_cons_succ] at q0 q1 q2 q3 q4 q5 p4 p5
          have BT := Lib.hid (PA.below_step B9.out xT)
          clear hsl e2 hC2 hc2 kC kg kt2 kT rT xT bS kA bA
          go_upto_region 25 with fail
          rw [← hWT]
          clear hWT q4 q5 q6 p4 p5 p6 hsz
          go_wp2_with fail
          with_reducible refine HS.out.mono ?_
          rintro e wz ⟨rfl, hbz⟩
          have BZ := Lib.hid (PA.below_step BT.out hbz)
          clear hbz
          go_wp2_with fail
          go_ret
          exact ⟨rfl, BZ.out⟩
      · skip
        have hy1 : y < 100 := by omega
        go_upto_region 22 with fail
        have lt12 : gw < W9.heap.size := KW9.out.lt
        have q12 := KW9.out.cell 0
        simp only [List.getElem?_toArray, List.getElem?_cons_zero, List.getElem?_cons_succ] at q12
        have k4 : (W9.alloc (.cells #[.string last, .int .i64 (100 - y)] 45)).heap[W9.heap.size]? = some (.cells (el45.enc ⟨last, (100 - y)⟩).toArray el45.e (0, 0)) := new_at _ _
        have bA : Below W9.heap.size W9 (W9.alloc (.cells #[.string last, .int .i64 (100 - y)] 45)) := (Below.refl _ _).alloc (Nat.le_refl _) _
        have rA : RowG el45 (W9.alloc (.cells #[.string last, .int .i64 (100 - y)] 45)) base (.slice none 0 0) [] := RR9.out.below bA (Nat.le_refl _)
        have szA : base ≤ (W9.alloc (.cells #[.string last, .int .i64 (100 - y)] 45)).heap.size := by have := bA.size; omega
        have kA := Lib.hid (KW9.out.below bA lt12)
        have tA := Lib.hid (KT9.out.below bA (KT9.out.lt))
        have xA := Lib.hid (BX9.out.trans (bA.mono (by omega)))
        clear bA
        go_upto_region 24 with (at_builtin; refine list_appG el45 _ rfl (.tmp 80) (.tmp 85) rfl base _ [] (by rfl) rA (some ⟨W9.heap.size, 0, none⟩) 1 1 [⟨last, (100 - y)⟩] (by rfl) rfl (SrcG.one k4) (by simp) (by omega) szA ?_; intro v12 u12 r12 b12 z12; obtain ⟨A12, cc12, hv12, _, _⟩ := r12.shape; have hv12 : v12 = .slice A12 1 cc12 := hv12; subst hv12; have kU12 := kA.out.below b12 (by omega); have fU12 := kU12.frozen 0; have cU12 := kU12.cell 0; simp only [List.getElem?_toArray, List.getElem?_cons_zero] at cU12)
        obtain ⟨hk12, hr12, hb12⟩ := want_put (base := base) (kA.out.below b12 (by omega)) (by omega) r12
        have KW12 := Lib.hid hk12
        have RR12 := Lib.hid hr12
        have KT12 := Lib.hid ((tA.out.below b12 (by omega)).below hb12 hgtw)
        have BX12 := Lib.hid ((xA.out.trans (b12.mono (by omega))).trans (hb12.mono (by omega)))
        have sz12 : base ≤ (u12.setCell ⟨gw, 0, none⟩ (.slice A12 1 cc12)).heap.size := by have := KW12.out.lt; omega
        clear kU12 fU12 cU12
        obtain ⟨W12, hW12⟩ : ∃ W12, W12 = u12.setCell ⟨gw, 0, none⟩ (.slice A12 1 cc12) := ⟨_, rfl⟩
        rw [← hW12] at KW12 RR12 KT12 BX12 sz12 ⊢
        clear hW12 hk12 hr12 hb12 b12 r12 z12 kA tA xA rA k4 szA q12 lt12
        have hsl : sw = ([] ++ [(⟨last, 100 - y⟩ : S45)]) := by rw [HSW.out]; unfold wantSh; rw [if_neg hy0, if_pos hy1]
        obtain ⟨WT, hWT⟩ : ∃ WT, WT = (W12.setCell ⟨gw, 1, none⟩ (.slice (some ⟨W12.heap.size, 0, none⟩) 2 2)).alloc (.cells #[.string tgNew, .string last, .string tgOld, .string nmOne] 47) := ⟨_, rfl⟩
        have hsz : (W12.setCell ⟨gw, 1, none⟩ (.slice (some ⟨W12.heap.size, 0, none⟩) 2 2)).heap.size = W12.heap.size := by simp [World.setCell]
        have bA : Below W12.heap.size W12 (W12.alloc (.cells #[.string tgNew, .string last, .string tgOld, .string nmOne] 47)) := (Below.refl _ _).alloc (Nat.le_refl _) _
        have ltW : gw < W12.heap.size := KW12.out.lt
        have kA := KW12.out.below bA ltW
        have bS : Below gw W12 WT := by rw [hWT]; exact ((Below.refl gw W12).setCell (p := ⟨gw, 1, none⟩) (Nat.le_refl _) _).alloc (by rw [hsz]; omega) _
        have kT : Blk WT gw #[.slice A12 1 cc12, .slice (some ⟨W12.heap.size, 0, none⟩) 2 2] 41 := by rw [hWT]; exact (KW12.out.set 1 _ rfl).alloc _
        have kt2 := KT12.out.below bS hgtw
        have kg : Blk WT W12.heap.size #[.string tgNew, .string last, .string tgOld, .string nmOne] 47 := by
          have := Blk.new (W12.setCell ⟨gw, 1, none⟩ (.slice (some ⟨W12.heap.size, 0, none⟩) 2 2)) #[.string tgNew, .string last, .string tgOld, .string nmOne] 47
          rw [hsz] at this
          rw [hWT]
          exact this
        have rT : RowG el45 WT base (.slice A12 1 cc12) ([] ++ [(⟨last, 100 - y⟩ : S45)]) := RR12.out.moved (fun k hk1 hk2 => by
          rw [hWT]
          exact (Below.heap_alloc _ _ _ (by rw [hsz]; exact hk2)).trans (Below.heap_setCell _ _ _ _ (by show k ≠ gw; omega)))
        have xT := BX12.out.trans (bS.mono (by omega))
        have kC := c_twoT (x := ⟨tgNew, last⟩) (y := ⟨tgOld, nmOne⟩) kg
        obtain ⟨A2, c2, hv2, hc2, hC2⟩ := RowG.toC rT
        obtain ⟨e1, e2, e3⟩ : A12 = A2 ∧ 1 = ([] ++ [(⟨last, 100 - y⟩ : S45)]).length ∧ cc12 = c2 := by injection hv2 with e1 e2 e3; exact ⟨e1, e2, e3⟩
        subst e1
        subst e3
        have hh := sameS (d' := 2) WT (Kd.C_below HA.out (xT.mono (by omega))) hc (Kd.C_below HTg.out xT) hd hC2 hc2 kC (Nat.le_refl _) (hsl ▸ by simp) (by show (2 : Nat) ≤ 100000; omega) (hsl) rfl
        rw [← e2] at hh
        have HS : Hid (Calls Tryd.prog 12 #[.agg #[.slice A sw.length c, .slice B (wantTg last).length d], .agg #[.slice A12 1 cc12, .slice (some ⟨W12.heap.size, 0, none⟩) 2 2]] WT (fun e w' => e = .returned (.bool true) ∧ Below WT.heap.size WT w')) := Lib.hid hh
        clear hh
        have q0 := kt2.cell 0
        have q1 := kt2.cell 1
        have q2 := kT.cell 0
        have q3 := kT.cell 1
        have q4 := kA.cell 0
        have q5 := kA.cell 1
        have q6 := kA.frozen 1
        have p4 := KW12.out.cell 0
        have p5 := KW12.out.cell 1
        have p6 := KW12.out.frozen 1
        simp only [List.getElem?_toArray, List.getElem?_cons_zero, List.getElem?_cons_succ] at q0 q1 q2 q3 q4 q5 p4 p5
        have BT := Lib.hid (PA.below_step B9.out xT)
        clear hsl e2 hC2 hc2 kC kg kt2 kT rT xT bS kA bA
        go_upto_region 25 with fail
        rw [← hWT]
        clear hWT q4 q5 q6 p4 p5 p6 hsz
        go_wp2_with fail
        with_reducible refine HS.out.mono ?_
        rintro e wz ⟨rfl, hbz⟩
        have BZ := Lib.hid (PA.below_step BT.out hbz)
        clear hbz
        go_wp2_with fail
        go_ret
        exact ⟨rfl, BZ.out⟩

end Go.Proofs.YtnkmpkhiilnigaaDoor.PR
