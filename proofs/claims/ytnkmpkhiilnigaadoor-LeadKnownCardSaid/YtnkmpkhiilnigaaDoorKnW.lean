/- LeadKnown: the plain part. -/
import Derived.Test.YtnkmpkhiilnigaaDoorAddsW
import Derived.Test.YtnkmpkhiilnigaaDoorText
import Derived.Test.YtnkmpkhiilnigaaDoorPCx1
set_option linter.unusedSimpArgs false
set_option linter.unusedVariables false
namespace Go.Proofs.YtnkmpkhiilnigaaDoor.PR
open Go.RowKit Go.Shelf Go.Lib Go.Sort Go.Maps Go.Proofs.YtnkmpkhiilnigaaDoor.PA Go.Proofs.YtnkmpkhiilnigaaDoorW.PrintWords Go.Proofs.YtnkmpkhiilnigaaDoorW.PrintLast

abbrev nmApi : ByteArray := ⟨#[97, 112, 105]⟩
theorem nmApi_valid : PB.ValidN nmApi := ⟨by decide, by decide, by decide, by decide, by decide⟩
abbrev cApi : PB.CfgM := ⟨nmApi, 0, 1, 0, 1, 0⟩
theorem cApi_nm : cApi.nm = nmApi := rfl
theorem cApi_enc : PB.encC cApi = .agg #[.string nmApi, .int .i64 0, .int .i64 1, .int .i64 0, .int .i64 1, .int .i64 0] := rfl
/-- A new number of web. -/
theorem web_new {L : List PB.RevM} {j : Nat} (hA : PB.AllOf cWeb L) (hL : PB.OkL L) (hg : ∀ r ∈ L, r.g ≤ j) : PB.stampL L cWeb ((j : Int) + 1) = L ++ [⟨cWeb, (j : Int) + 1, false⟩] ∧
    PB.findR (L ++ [⟨cWeb, (j : Int) + 1, false⟩]) (PB.revN nmWeb ((j : Int) + 1)).data.toList ≠ none ∧ PB.proveL (L ++ [⟨cWeb, (j : Int) + 1, false⟩]) (PB.revN nmWeb ((j : Int) + 1)).data.toList = L ++ [⟨cWeb, (j : Int) + 1, true⟩] := by
  have hf : PB.findR L (PB.revN cWeb.nm ((j : Int) + 1)).data.toList = none := PB.find_gen_none hA hL (by omega) (fun r hr e => by have := hg r hr; omega)
  have hk : ((⟨cWeb, (j : Int) + 1, false⟩ : PB.RevM).key == (PB.revN nmWeb ((j : Int) + 1)).data.toList) = true := by show ((PB.revN nmWeb ((j : Int) + 1)).data.toList == (PB.revN nmWeb ((j : Int) + 1)).data.toList) = true; simp
  have hn : ∀ r ∈ L, (r.key == (PB.revN nmWeb ((j : Int) + 1)).data.toList) = false := fun r hr => by
    rw [beq_eq_false_iff_ne]
    exact PB.findR_none hf r hr
  refine ⟨by unfold PB.stampL; rw [hf]; rfl, ?_, ?_⟩
  · unfold PB.findR
    intro e
    rw [List.find?_eq_none] at e
    exact e _ (List.mem_append_right _ (List.mem_singleton.2 rfl)) hk
  · unfold PB.proveL
    rw [List.map_append, List.map_singleton, if_pos hk]
    congr 1
    refine (List.map_congr_left (fun r hr => ?_)).trans (List.map_id L)
    rw [hn r hr]
    rfl
/-- The Book on the way. -/
def lkW : Nat → List PB.RevM
  | 0 => []
  | i + 1 => lkW i ++ [⟨cWeb, (i : Int) + 1, decide (i < 3)⟩]
theorem lkW_all : ∀ i, PB.AllOf cWeb (lkW i) ∧ (∀ r ∈ lkW i, r.g ≤ i) ∧ (lkW i).length = i
  | 0 => ⟨PB.AllOf.nil _, fun r hr => by simp [lkW] at hr, rfl⟩
  | i + 1 => by
    obtain ⟨h1, h2, h3⟩ := lkW_all i
    refine ⟨fun r hr => ?_, fun r hr => ?_, by show (lkW i ++ _).length = _; rw [List.length_append, h3]; rfl⟩
    · rcases List.mem_append.1 (show r ∈ lkW i ++ _ from hr) with hr | hr
      · exact h1 r hr
      · rw [List.mem_singleton.1 hr]
    · rcases List.mem_append.1 (show r ∈ lkW i ++ _ from hr) with hr | hr
      · have := h2 r hr; omega
      · rw [List.mem_singleton.1 hr]; show (i : Int) + 1 ≤ ((i + 1 : Nat) : Int); omega
abbrev LK : List PB.RevM := [⟨cWeb, 1, true⟩, ⟨cWeb, 2, true⟩, ⟨cWeb, 3, true⟩, ⟨cWeb, 4, false⟩, ⟨cApi, 1, false⟩]
theorem rev_api : PB.revN nmApi 1 = ⟨#[97, 112, 105, 45, 49]⟩ := by
  unfold PB.revN
  rw [PB.itoa_nat (by decide), show (1 : Int).toNat = 1 from rfl, Lib.decDigits_one (by decide)]
  rfl
theorem key1 (b : Bool) : (⟨cWeb, 1, b⟩ : PB.RevM).key = [119, 101, 98, 45, 49] := by show (PB.revN nmWeb ((1 : Nat) : Int)).data.toList = _; rw [rev_digit (by decide) (by decide)]; rfl
theorem key2 (b : Bool) : (⟨cWeb, 2, b⟩ : PB.RevM).key = [119, 101, 98, 45, 50] := by show (PB.revN nmWeb ((2 : Nat) : Int)).data.toList = _; rw [rev_digit (by decide) (by decide)]; rfl
theorem key3 (b : Bool) : (⟨cWeb, 3, b⟩ : PB.RevM).key = [119, 101, 98, 45, 51] := by show (PB.revN nmWeb ((3 : Nat) : Int)).data.toList = _; rw [rev_digit (by decide) (by decide)]; rfl
theorem key4 (b : Bool) : (⟨cWeb, 4, b⟩ : PB.RevM).key = [119, 101, 98, 45, 52] := by show (PB.revN nmWeb ((4 : Nat) : Int)).data.toList = _; rw [rev_digit (by decide) (by decide)]; rfl
theorem key5 (b : Bool) : (⟨cApi, 1, b⟩ : PB.RevM).key = [97, 112, 105, 45, 49] := by show (PB.revN nmApi 1).data.toList = _; rw [rev_api]
theorem api_new : PB.stampL (lkW 4) cApi 1 = LK := by
  have hf : PB.findR (lkW 4) (PB.revN cApi.nm 1).data.toList = none := by
    rw [show (PB.revN cApi.nm 1) = PB.revN nmApi 1 from rfl, rev_api]
    show List.find? _ [(⟨cWeb, 1, true⟩ : PB.RevM), ⟨cWeb, 2, true⟩, ⟨cWeb, 3, true⟩, ⟨cWeb, 4, false⟩] = none
    simp only [List.find?, key1, key2, key3, key4]
    rfl
  unfold PB.stampL
  rw [hf]
  rfl
def findK (x : List UInt8) : Bool := x == [119, 101, 98, 45, 49] || x == [119, 101, 98, 45, 50] || x == [119, 101, 98, 45, 51] || x == [119, 101, 98, 45, 52] || x == [97, 112, 105, 45, 49]
theorem find1 : (PB.findR LK [119, 101, 98, 45, 49]).isNone = false := by unfold PB.findR; simp only [LK, List.find?, key1, key2, key3, key4, key5]; rfl
theorem find2 : (PB.findR LK [119, 101, 98, 45, 50]).isNone = false := by unfold PB.findR; simp only [LK, List.find?, key1, key2, key3, key4, key5]; rfl
theorem find4 : (PB.findR LK [119, 101, 98, 45, 52]).isNone = false := by unfold PB.findR; simp only [LK, List.find?, key1, key2, key3, key4, key5]; rfl
theorem find9 : (PB.findR LK [119, 101, 98, 45, 57]).isNone = true := by unfold PB.findR; simp only [LK, List.find?, key1, key2, key3, key4, key5]; rfl
theorem prov1 : PB.provedL LK [119, 101, 98, 45, 49] = true := by unfold PB.provedL; simp only [LK, List.any_cons, key1, key2, key3, key4, key5]; rfl
theorem prov2 : PB.provedL LK [119, 101, 98, 45, 50] = true := by unfold PB.provedL; simp only [LK, List.any_cons, key1, key2, key3, key4, key5]; rfl
theorem prov3 : PB.provedL LK [119, 101, 98, 45, 51] = true := by unfold PB.provedL; simp only [LK, List.any_cons, key1, key2, key3, key4, key5]; rfl
theorem prov4 : PB.provedL LK [119, 101, 98, 45, 52] = false := by unfold PB.provedL; simp only [LK, List.any_cons, key1, key2, key3, key4, key5]; rfl
theorem prov5 : PB.provedL LK [97, 112, 105, 45, 49] = false := by unfold PB.provedL; simp only [LK, List.any_cons, key1, key2, key3, key4, key5]; rfl
abbrev rv (d : UInt8) : ByteArray := ⟨#[119, 101, 98, 45, d]⟩
theorem late_web : PB.latestN LK nmWeb (PB.provedL LK) = rv 51 := by
  unfold PB.latestN
  have h : PB.bestR (PB.askR nmWeb (PB.provedL LK)) LK = some ⟨cWeb, 3, true⟩ := by
    simp only [LK, PB.bestR, PB.askR, key1, key2, key3, key4, key5, prov1, prov2, prov3, prov4, prov5, ByteArray.toList_eq]
    rfl
  rw [h]
  show PB.revN nmWeb ((3 : Nat) : Int) = _
  rw [rev_digit (by decide) (by decide)]
  rfl
theorem late_api : PB.latestN LK nmApi (PB.provedL LK) = ⟨#[]⟩ := by
  unfold PB.latestN
  have h : PB.bestR (PB.askR nmApi (PB.provedL LK)) LK = none := by
    simp only [LK, PB.bestR, PB.askR, key1, key2, key3, key4, key5, prov1, prov2, prov3, prov4, prov5, ByteArray.toList_eq]
    rfl
  rw [h]
abbrev nmNone : ByteArray := ⟨#[110, 111, 110, 101]⟩
theorem late_none : PB.latestN LK nmNone (PB.provedL LK) = ⟨#[]⟩ := by
  unfold PB.latestN
  have h : PB.bestR (PB.askR nmNone (PB.provedL LK)) LK = none := by
    simp only [LK, PB.bestR, PB.askR, key1, key2, key3, key4, key5, prov1, prov2, prov3, prov4, prov5, ByteArray.toList_eq]
    rfl
  rw [h]
theorem tg_web : tgt LK nmWeb ⟨#[]⟩ = (rv 51, 0) := by
  unfold tgt
  rw [late_web]
  exact (if_pos (show (⟨#[]⟩ : ByteArray).size = 0 from rfl)).trans (if_neg (by decide))
theorem tg_api : tgt LK nmApi ⟨#[]⟩ = (⟨#[]⟩, 9) := by
  unfold tgt
  rw [late_api]
  exact (if_pos (show (⟨#[]⟩ : ByteArray).size = 0 from rfl)).trans (if_pos rfl)
theorem tg_none : tgt LK nmNone ⟨#[]⟩ = (⟨#[]⟩, 9) := by
  unfold tgt
  rw [late_none]
  exact (if_pos (show (⟨#[]⟩ : ByteArray).size = 0 from rfl)).trans (if_pos rfl)
theorem tg_1 (cfg : ByteArray) : tgt LK cfg (rv 49) = (rv 49, 0) := by
  unfold tgt
  rw [if_neg (by decide), show (rv 49).data.toList = [119, 101, 98, 45, 49] from rfl, find1, prov1]
  rfl
theorem tg_2 (cfg : ByteArray) : tgt LK cfg (rv 50) = (rv 50, 0) := by
  unfold tgt
  rw [if_neg (by decide), show (rv 50).data.toList = [119, 101, 98, 45, 50] from rfl, find2, prov2]
  rfl
theorem tg_4 (cfg : ByteArray) : tgt LK cfg (rv 52) = (⟨#[]⟩, 9) := by
  unfold tgt
  rw [if_neg (by decide), show (rv 52).data.toList = [119, 101, 98, 45, 52] from rfl, find4, prov4]
  rfl
theorem tg_9 (cfg : ByteArray) : tgt LK cfg (rv 57) = (⟨#[]⟩, 6) := by
  unfold tgt
  rw [if_neg (by decide), show (rv 57).data.toList = [119, 101, 98, 45, 57] from rfl, find9]
  rfl
/-- The nine routes: their configurations, their targets. -/
def rcK (q : Nat) : ByteArray := match q with | 4 => nmApi | 5 => nmNone | 6 => nmNone | _ => nmWeb
abbrev tgA : ByteArray := ⟨#[97]⟩
abbrev tgB : ByteArray := ⟨#[98]⟩
def rtK (q : Nat) : List TgM := match q with
  | 0 => [⟨⟨#[]⟩, ⟨#[]⟩, 100⟩]
  | 1 => [⟨⟨#[]⟩, ⟨#[]⟩, 90⟩, ⟨rv 49, tgOld, 10⟩]
  | 2 => [⟨rv 52, ⟨#[]⟩, 100⟩]
  | 3 => [⟨rv 57, ⟨#[]⟩, 100⟩]
  | 4 => [⟨⟨#[]⟩, ⟨#[]⟩, 100⟩]
  | 5 => [⟨rv 50, ⟨#[]⟩, 100⟩]
  | 6 => [⟨rv 50, ⟨#[]⟩, 100⟩, ⟨⟨#[]⟩, ⟨#[]⟩, 0⟩]
  | 7 => [⟨rv 50, tgB, 30⟩, ⟨⟨#[]⟩, tgA, 30⟩, ⟨rv 50, ⟨#[]⟩, 40⟩]
  | _ => [⟨rv 57, ⟨#[]⟩, 0⟩, ⟨rv 52, ⟨#[]⟩, 100⟩]
/-- Why none. -/
def erK (q : Nat) : Option Int := match q with | 2 => some 9 | 3 => some 6 | 4 => some 9 | 6 => some 9 | 8 => some 6 | _ => none
theorem erK_ok (q : Nat) (h : q < 9) : firstErr LK (rcK q) (rtK q) = erK q := by
  match q, h with
  | 0, _ => simp only [rtK, rcK, erK, firstErr, tg_web, if_true]
  | 1, _ => simp only [rtK, rcK, erK, firstErr, tg_web, tg_1, if_true]
  | 2, _ => simp only [rtK, rcK, erK, firstErr, tg_4]; rfl
  | 3, _ => simp only [rtK, rcK, erK, firstErr, tg_9]; rfl
  | 4, _ => simp only [rtK, rcK, erK, firstErr, tg_api]; rfl
  | 5, _ => simp only [rtK, rcK, erK, firstErr, tg_2, if_true]
  | 6, _ => simp only [rtK, rcK, erK, firstErr, tg_2, tg_none, if_true]; rfl
  | 7, _ => simp only [rtK, rcK, erK, firstErr, tg_2, tg_web, if_true]
  | 8, _ => simp only [rtK, rcK, erK, firstErr, tg_9]; rfl

/-- What is wanted. -/
def wdK (q : Nat) : ByteArray := match q with | 0 => ⟨#[119, 101, 98, 45, 51, 58, 49, 48, 48]⟩ | 1 => ⟨#[119, 101, 98, 45, 49, 58, 49, 48, 32, 119, 101, 98, 45, 51, 58, 57, 48, 32, 111, 108, 100, 61, 119, 101, 98, 45, 49]⟩ | 2 => ⟨#[115, 116, 97, 116, 101]⟩ | 3 => ⟨#[110, 111, 110, 101]⟩ | 4 => ⟨#[115, 116, 97, 116, 101]⟩ | 5 => ⟨#[119, 101, 98, 45, 50, 58, 49, 48, 48]⟩ | 6 => ⟨#[115, 116, 97, 116, 101]⟩ | 7 => ⟨#[119, 101, 98, 45, 50, 58, 55, 48, 32, 119, 101, 98, 45, 51, 58, 51, 48, 32, 97, 61, 119, 101, 98, 45, 51, 32, 98, 61, 119, 101, 98, 45, 50]⟩ | _ => ⟨#[110, 111, 110, 101]⟩ 
def shK (q : Nat) : List S45 := match q with | 0 => [⟨rv 51, 100⟩] | 1 => [⟨rv 49, 10⟩, ⟨rv 51, 90⟩] | 5 => [⟨rv 50, 100⟩] | 7 => [⟨rv 50, 70⟩, ⟨rv 51, 30⟩] | _ => []
def tgK (q : Nat) : List S47 := match q with | 0 => [] | 1 => [⟨tgOld, rv 49⟩] | 5 => [] | 7 => [⟨tgA, rv 51⟩, ⟨tgB, rv 50⟩] | _ => []
theorem res0 : resSh (stOf LK (rcK 0) (rtK 0)) = shK 0 ∧ resTg (stOf LK (rcK 0) (rtK 0)) = tgK 0 := by
  have hS : (stOf LK (rcK 0) (rtK 0)).SW = [(rv 51).data.toList] := by simp only [stOf, rcK, rtK, List.foldl_cons, List.foldl_nil, stepT, tg_web]; rfl
  have hT : (stOf LK (rcK 0) (rtK 0)).ST = [] := by simp only [stOf, rcK, rtK, List.foldl_cons, List.foldl_nil, stepT, tg_web]; rfl
  have w3 : (stOf LK (rcK 0) (rtK 0)).wf (rv 51).data.toList = 100 := by simp only [stOf, rcK, rtK, List.foldl_cons, List.foldl_nil, stepT, tg_web]; rfl
  have m1 : ([(rv 51).data.toList]).mergeSort PB.leS = [(rv 51).data.toList] := List.mergeSort_of_pairwise (by decide)
  have m2 : ([] : List (List UInt8)).mergeSort PB.leS = [] := List.mergeSort_of_pairwise (by decide)
  refine ⟨?_, ?_⟩
  · unfold resSh prsI
    rw [hS, m1]
    simp only [List.map_cons, List.map_nil, w3]
    rfl
  · unfold resTg prsT
    rw [hT, m2]
    simp only [List.map_cons, List.map_nil]
    rfl
theorem res1 : resSh (stOf LK (rcK 1) (rtK 1)) = shK 1 ∧ resTg (stOf LK (rcK 1) (rtK 1)) = tgK 1 := by
  have hS : (stOf LK (rcK 1) (rtK 1)).SW = [(rv 49).data.toList, (rv 51).data.toList] := by simp only [stOf, rcK, rtK, List.foldl_cons, List.foldl_nil, stepT, tg_web, tg_1]; rfl
  have hT : (stOf LK (rcK 1) (rtK 1)).ST = [(tgOld).data.toList] := by simp only [stOf, rcK, rtK, List.foldl_cons, List.foldl_nil, stepT, tg_web, tg_1]; rfl
  have w1 : (stOf LK (rcK 1) (rtK 1)).wf (rv 49).data.toList = 10 := by simp only [stOf, rcK, rtK, List.foldl_cons, List.foldl_nil, stepT, tg_web, tg_1]; rfl
  have w3 : (stOf LK (rcK 1) (rtK 1)).wf (rv 51).data.toList = 90 := by simp only [stOf, rcK, rtK, List.foldl_cons, List.foldl_nil, stepT, tg_web, tg_1]; rfl
  have ttgOld : (stOf LK (rcK 1) (rtK 1)).tf (tgOld).data.toList = rv 49 := by simp only [stOf, rcK, rtK, List.foldl_cons, List.foldl_nil, stepT, tg_web, tg_1]; rfl
  have m1 : ([(rv 49).data.toList, (rv 51).data.toList]).mergeSort PB.leS = [(rv 49).data.toList, (rv 51).data.toList] := List.mergeSort_of_pairwise (by decide)
  have m2 : ([(tgOld).data.toList] : List (List UInt8)).mergeSort PB.leS = [(tgOld).data.toList] := List.mergeSort_of_pairwise (by decide)
  refine ⟨?_, ?_⟩
  · unfold resSh prsI
    rw [hS, m1]
    simp only [List.map_cons, List.map_nil, w1, w3]
    rfl
  · unfold resTg prsT
    rw [hT, m2]
    simp only [List.map_cons, List.map_nil, ttgOld]
    rfl
theorem res5 : resSh (stOf LK (rcK 5) (rtK 5)) = shK 5 ∧ resTg (stOf LK (rcK 5) (rtK 5)) = tgK 5 := by
  have hS : (stOf LK (rcK 5) (rtK 5)).SW = [(rv 50).data.toList] := by simp only [stOf, rcK, rtK, List.foldl_cons, List.foldl_nil, stepT, tg_2]; rfl
  have hT : (stOf LK (rcK 5) (rtK 5)).ST = [] := by simp only [stOf, rcK, rtK, List.foldl_cons, List.foldl_nil, stepT, tg_2]; rfl
  have w2 : (stOf LK (rcK 5) (rtK 5)).wf (rv 50).data.toList = 100 := by simp only [stOf, rcK, rtK, List.foldl_cons, List.foldl_nil, stepT, tg_2]; rfl
  have m1 : ([(rv 50).data.toList]).mergeSort PB.leS = [(rv 50).data.toList] := List.mergeSort_of_pairwise (by decide)
  have m2 : ([] : List (List UInt8)).mergeSort PB.leS = [] := List.mergeSort_of_pairwise (by decide)
  refine ⟨?_, ?_⟩
  · unfold resSh prsI
    rw [hS, m1]
    simp only [List.map_cons, List.map_nil, w2]
    rfl
  · unfold resTg prsT
    rw [hT, m2]
    simp only [List.map_cons, List.map_nil]
    rfl
theorem res7 : resSh (stOf LK (rcK 7) (rtK 7)) = shK 7 ∧ resTg (stOf LK (rcK 7) (rtK 7)) = tgK 7 := by
  have hS : (stOf LK (rcK 7) (rtK 7)).SW = [(rv 51).data.toList, (rv 50).data.toList] := by simp only [stOf, rcK, rtK, List.foldl_cons, List.foldl_nil, stepT, tg_2, tg_web]; rfl
  have hT : (stOf LK (rcK 7) (rtK 7)).ST = [(tgA).data.toList, (tgB).data.toList] := by simp only [stOf, rcK, rtK, List.foldl_cons, List.foldl_nil, stepT, tg_2, tg_web]; rfl
  have w2 : (stOf LK (rcK 7) (rtK 7)).wf (rv 50).data.toList = 70 := by simp only [stOf, rcK, rtK, List.foldl_cons, List.foldl_nil, stepT, tg_2, tg_web]; rfl
  have w3 : (stOf LK (rcK 7) (rtK 7)).wf (rv 51).data.toList = 30 := by simp only [stOf, rcK, rtK, List.foldl_cons, List.foldl_nil, stepT, tg_2, tg_web]; rfl
  have ttgA : (stOf LK (rcK 7) (rtK 7)).tf (tgA).data.toList = rv 51 := by simp only [stOf, rcK, rtK, List.foldl_cons, List.foldl_nil, stepT, tg_2, tg_web]; rfl
  have ttgB : (stOf LK (rcK 7) (rtK 7)).tf (tgB).data.toList = rv 50 := by simp only [stOf, rcK, rtK, List.foldl_cons, List.foldl_nil, stepT, tg_2, tg_web]; rfl
  have m1 : ([(rv 51).data.toList, (rv 50).data.toList]).mergeSort PB.leS = [(rv 50).data.toList, (rv 51).data.toList] := (PB.sort_perm (List.Perm.swap _ _ _)).trans (List.mergeSort_of_pairwise (by decide))
  have m2 : ([(tgA).data.toList, (tgB).data.toList] : List (List UInt8)).mergeSort PB.leS = [(tgA).data.toList, (tgB).data.toList] := List.mergeSort_of_pairwise (by decide)
  refine ⟨?_, ?_⟩
  · unfold resSh prsI
    rw [hS, m1]
    simp only [List.map_cons, List.map_nil, w2, w3]
    rfl
  · unfold resTg prsT
    rw [hT, m2]
    simp only [List.map_cons, List.map_nil, ttgA, ttgB]
    rfl
theorem res_ok (q : Nat) (h : q < 9) (he : erK q = none) : resSh (stOf LK (rcK q) (rtK q)) = shK q ∧ resTg (stOf LK (rcK q) (rtK q)) = tgK q := by
  match q, h with
  | 0, _ => exact res0
  | 1, _ => exact res1
  | 2, _ => cases he
  | 3, _ => cases he
  | 4, _ => cases he
  | 5, _ => exact res5
  | 6, _ => cases he
  | 7, _ => exact res7
  | 8, _ => cases he
def dgK (n : Int) : ByteArray := (PB.damperref1_Digits.f 40 n).getD ⟨#[]⟩
theorem textK (q : Nat) (h : q < 9) (he : erK q = none) : textOf dgK (shK q) (tgK q) = wdK q := by
  match q, h with
  | 0, _ => decide +kernel
  | 1, _ => decide +kernel
  | 2, _ => cases he
  | 3, _ => cases he
  | 4, _ => cases he
  | 5, _ => decide +kernel
  | 6, _ => cases he
  | 7, _ => decide +kernel
  | 8, _ => cases he
theorem errK (q : Nat) (h : q < 9) {x : Int} (he : erK q = some x) : PC.api_Errno_Error.f x = some (wdK q) ∧ x ≠ 0 := by
  match q, h with
  | 0, _ => cases he
  | 1, _ => cases he
  | 2, _ => cases he; decide +kernel
  | 3, _ => cases he; decide +kernel
  | 4, _ => cases he; decide +kernel
  | 5, _ => cases he
  | 6, _ => cases he; decide +kernel
  | 7, _ => cases he
  | 8, _ => cases he; decide +kernel
theorem digK (q : Nat) (h : q < 9) : (∀ x ∈ shK q, PB.damperref1_Digits.f 40 x.f1 = some (dgK x.f1)) ∧ (∀ x ∈ shK q, x.f0.size ≤ 100 ∧ (dgK x.f1).size ≤ 100) ∧ (∀ x ∈ tgK q, x.f0.size ≤ 100 ∧ x.f1.size ≤ 100) ∧ (shK q).length ≤ 1000 ∧ (tgK q).length ≤ 1000 := by
  match q, h with
  | 0, _ => exact ⟨fun x hx => by simp only [shK, List.mem_cons, List.not_mem_nil, or_false] at hx; subst hx; decide +kernel, fun x hx => by simp only [shK, List.mem_cons, List.not_mem_nil, or_false] at hx; subst hx; decide +kernel, fun x hx => by simp only [tgK, List.mem_cons, List.not_mem_nil, or_false] at hx, by decide, by decide⟩
  | 1, _ => exact ⟨fun x hx => by simp only [shK, List.mem_cons, List.not_mem_nil, or_false] at hx; rcases hx with rfl | rfl <;> decide +kernel, fun x hx => by simp only [shK, List.mem_cons, List.not_mem_nil, or_false] at hx; rcases hx with rfl | rfl <;> decide +kernel, fun x hx => by simp only [tgK, List.mem_cons, List.not_mem_nil, or_false] at hx; subst hx; decide +kernel, by decide, by decide⟩
  | 2, _ => exact ⟨fun x hx => by simp only [shK, List.mem_cons, List.not_mem_nil, or_false] at hx, fun x hx => by simp only [shK, List.mem_cons, List.not_mem_nil, or_false] at hx, fun x hx => by simp only [tgK, List.mem_cons, List.not_mem_nil, or_false] at hx, by decide, by decide⟩
  | 3, _ => exact ⟨fun x hx => by simp only [shK, List.mem_cons, List.not_mem_nil, or_false] at hx, fun x hx => by simp only [shK, List.mem_cons, List.not_mem_nil, or_false] at hx, fun x hx => by simp only [tgK, List.mem_cons, List.not_mem_nil, or_false] at hx, by decide, by decide⟩
  | 4, _ => exact ⟨fun x hx => by simp only [shK, List.mem_cons, List.not_mem_nil, or_false] at hx, fun x hx => by simp only [shK, List.mem_cons, List.not_mem_nil, or_false] at hx, fun x hx => by simp only [tgK, List.mem_cons, List.not_mem_nil, or_false] at hx, by decide, by decide⟩
  | 5, _ => exact ⟨fun x hx => by simp only [shK, List.mem_cons, List.not_mem_nil, or_false] at hx; subst hx; decide +kernel, fun x hx => by simp only [shK, List.mem_cons, List.not_mem_nil, or_false] at hx; subst hx; decide +kernel, fun x hx => by simp only [tgK, List.mem_cons, List.not_mem_nil, or_false] at hx, by decide, by decide⟩
  | 6, _ => exact ⟨fun x hx => by simp only [shK, List.mem_cons, List.not_mem_nil, or_false] at hx, fun x hx => by simp only [shK, List.mem_cons, List.not_mem_nil, or_false] at hx, fun x hx => by simp only [tgK, List.mem_cons, List.not_mem_nil, or_false] at hx, by decide, by decide⟩
  | 7, _ => exact ⟨fun x hx => by simp only [shK, List.mem_cons, List.not_mem_nil, or_false] at hx; rcases hx with rfl | rfl <;> decide +kernel, fun x hx => by simp only [shK, List.mem_cons, List.not_mem_nil, or_false] at hx; rcases hx with rfl | rfl <;> decide +kernel, fun x hx => by simp only [tgK, List.mem_cons, List.not_mem_nil, or_false] at hx; rcases hx with rfl | rfl <;> decide +kernel, by decide, by decide⟩
  | 8, _ => exact ⟨fun x hx => by simp only [shK, List.mem_cons, List.not_mem_nil, or_false] at hx, fun x hx => by simp only [shK, List.mem_cons, List.not_mem_nil, or_false] at hx, fun x hx => by simp only [tgK, List.mem_cons, List.not_mem_nil, or_false] at hx, by decide, by decide⟩
theorem rt_ok (q : Nat) (h : q < 9) : (∀ t ∈ rtK q, TgOk t) ∧ (rtK q).length ≤ 100 := by
  have hz : ∀ (a b : ByteArray) (n : Int), a.size ≤ 1000 → b.size ≤ 1000 → 0 ≤ n → n ≤ 100 → TgOk ⟨a, b, n⟩ := fun a b n h1 h2 h3 h4 => ⟨h1, h2, h3, h4⟩
  match q, h with
  | 0, _ => exact ⟨fun t ht => by simp only [rtK, List.mem_cons, List.not_mem_nil, or_false] at ht; subst ht; exact hz _ _ _ (by decide) (by decide) (by decide) (by decide), by decide⟩
  | 1, _ => exact ⟨fun t ht => by simp only [rtK, List.mem_cons, List.not_mem_nil, or_false] at ht; rcases ht with rfl | rfl <;> exact hz _ _ _ (by decide) (by decide) (by decide) (by decide), by decide⟩
  | 2, _ => exact ⟨fun t ht => by simp only [rtK, List.mem_cons, List.not_mem_nil, or_false] at ht; subst ht; exact hz _ _ _ (by decide) (by decide) (by decide) (by decide), by decide⟩
  | 3, _ => exact ⟨fun t ht => by simp only [rtK, List.mem_cons, List.not_mem_nil, or_false] at ht; subst ht; exact hz _ _ _ (by decide) (by decide) (by decide) (by decide), by decide⟩
  | 4, _ => exact ⟨fun t ht => by simp only [rtK, List.mem_cons, List.not_mem_nil, or_false] at ht; subst ht; exact hz _ _ _ (by decide) (by decide) (by decide) (by decide), by decide⟩
  | 5, _ => exact ⟨fun t ht => by simp only [rtK, List.mem_cons, List.not_mem_nil, or_false] at ht; subst ht; exact hz _ _ _ (by decide) (by decide) (by decide) (by decide), by decide⟩
  | 6, _ => exact ⟨fun t ht => by simp only [rtK, List.mem_cons, List.not_mem_nil, or_false] at ht; rcases ht with rfl | rfl <;> exact hz _ _ _ (by decide) (by decide) (by decide) (by decide), by decide⟩
  | 7, _ => exact ⟨fun t ht => by simp only [rtK, List.mem_cons, List.not_mem_nil, or_false] at ht; rcases ht with rfl | rfl | rfl <;> exact hz _ _ _ (by decide) (by decide) (by decide) (by decide), by decide⟩
  | 8, _ => exact ⟨fun t ht => by simp only [rtK, List.mem_cons, List.not_mem_nil, or_false] at ht; rcases ht with rfl | rfl <;> exact hz _ _ _ (by decide) (by decide) (by decide) (by decide), by decide⟩

end Go.Proofs.YtnkmpkhiilnigaaDoor.PR

/- LeadKnown: the walk. -/
set_option linter.unusedSimpArgs false
set_option linter.unusedVariables false
namespace Go.Proofs.YtnkmpkhiilnigaaDoor.PR
open Go.RowKit Go.Shelf Go.Lib Go.Sort Go.Maps Go.Proofs.YtnkmpkhiilnigaaDoor.PA Go.Proofs.YtnkmpkhiilnigaaDoorW.PrintWords Go.Proofs.YtnkmpkhiilnigaaDoorW.PrintLast

/-- The nine routes in memory. -/
def tcK (q : Nat) : Array Value := match q with | 0 => #[.string ⟨#[]⟩, .string ⟨#[]⟩, .int .i64 100] | 1 => #[.string ⟨#[]⟩, .string ⟨#[]⟩, .int .i64 90, .string ⟨#[119, 101, 98, 45, 49]⟩, .string ⟨#[111, 108, 100]⟩, .int .i64 10] | 2 => #[.string ⟨#[119, 101, 98, 45, 52]⟩, .string ⟨#[]⟩, .int .i64 100] | 3 => #[.string ⟨#[119, 101, 98, 45, 57]⟩, .string ⟨#[]⟩, .int .i64 100] | 4 => #[.string ⟨#[]⟩, .string ⟨#[]⟩, .int .i64 100] | 5 => #[.string ⟨#[119, 101, 98, 45, 50]⟩, .string ⟨#[]⟩, .int .i64 100] | 6 => #[.string ⟨#[119, 101, 98, 45, 50]⟩, .string ⟨#[]⟩, .int .i64 100, .string ⟨#[]⟩, .string ⟨#[]⟩, .int .i64 0] | 7 => #[.string ⟨#[119, 101, 98, 45, 50]⟩, .string ⟨#[98]⟩, .int .i64 30, .string ⟨#[]⟩, .string ⟨#[97]⟩, .int .i64 30, .string ⟨#[119, 101, 98, 45, 50]⟩, .string ⟨#[]⟩, .int .i64 40] | _ => #[.string ⟨#[119, 101, 98, 45, 57]⟩, .string ⟨#[]⟩, .int .i64 0, .string ⟨#[119, 101, 98, 45, 52]⟩, .string ⟨#[]⟩, .int .i64 100] 
def rcC (z : Nat) : Array Value := #[.string ⟨#[]⟩, .string ⟨#[119, 101, 98]⟩, .slice (some ⟨z, 0, none⟩) 1 1, .int .i64 0, .string ⟨#[]⟩, .string ⟨#[119, 101, 98]⟩, .slice (some ⟨z + 1, 0, none⟩) 2 2, .int .i64 0, .string ⟨#[]⟩, .string ⟨#[119, 101, 98]⟩, .slice (some ⟨z + 1 + 1, 0, none⟩) 1 1, .int .i64 0, .string ⟨#[]⟩, .string ⟨#[119, 101, 98]⟩, .slice (some ⟨z + 1 + 1 + 1, 0, none⟩) 1 1, .int .i64 0, .string ⟨#[]⟩, .string ⟨#[97, 112, 105]⟩, .slice (some ⟨z + 1 + 1 + 1 + 1, 0, none⟩) 1 1, .int .i64 0, .string ⟨#[]⟩, .string ⟨#[110, 111, 110, 101]⟩, .slice (some ⟨z + 1 + 1 + 1 + 1 + 1, 0, none⟩) 1 1, .int .i64 0, .string ⟨#[]⟩, .string ⟨#[110, 111, 110, 101]⟩, .slice (some ⟨z + 1 + 1 + 1 + 1 + 1 + 1, 0, none⟩) 2 2, .int .i64 0, .string ⟨#[]⟩, .string ⟨#[119, 101, 98]⟩, .slice (some ⟨z + 1 + 1 + 1 + 1 + 1 + 1 + 1, 0, none⟩) 3 3, .int .i64 0, .string ⟨#[]⟩, .string ⟨#[119, 101, 98]⟩, .slice (some ⟨z + 1 + 1 + 1 + 1 + 1 + 1 + 1 + 1, 0, none⟩) 2 2, .int .i64 0]
def wsC : Array Value := #[.string ⟨#[119, 101, 98, 45, 51, 58, 49, 48, 48]⟩, .string ⟨#[119, 101, 98, 45, 49, 58, 49, 48, 32, 119, 101, 98, 45, 51, 58, 57, 48, 32, 111, 108, 100, 61, 119, 101, 98, 45, 49]⟩, .string ⟨#[115, 116, 97, 116, 101]⟩, .string ⟨#[110, 111, 110, 101]⟩, .string ⟨#[115, 116, 97, 116, 101]⟩, .string ⟨#[119, 101, 98, 45, 50, 58, 49, 48, 48]⟩, .string ⟨#[115, 116, 97, 116, 101]⟩, .string ⟨#[119, 101, 98, 45, 50, 58, 55, 48, 32, 119, 101, 98, 45, 51, 58, 51, 48, 32, 97, 61, 119, 101, 98, 45, 51, 32, 98, 61, 119, 101, 98, 45, 50]⟩, .string ⟨#[110, 111, 110, 101]⟩]
theorem tg_at {w : World} {g : Nat} {q : Nat} (h : q < 9) (k : Blk w g (tcK q) 34) : TgsAt w (some ⟨g, 0, none⟩) (rtK q) := fun _ => ⟨g, 0, rfl, k.lt, fun i hi => by
  match q, h, i, hi with
  | 0, _, 0, _ => exact ⟨k.cell 0, k.cell 1, k.cell 2⟩
  | 1, _, 0, _ => exact ⟨k.cell 0, k.cell 1, k.cell 2⟩
  | 1, _, 1, _ => exact ⟨k.cell 3, k.cell 4, k.cell 5⟩
  | 2, _, 0, _ => exact ⟨k.cell 0, k.cell 1, k.cell 2⟩
  | 3, _, 0, _ => exact ⟨k.cell 0, k.cell 1, k.cell 2⟩
  | 4, _, 0, _ => exact ⟨k.cell 0, k.cell 1, k.cell 2⟩
  | 5, _, 0, _ => exact ⟨k.cell 0, k.cell 1, k.cell 2⟩
  | 6, _, 0, _ => exact ⟨k.cell 0, k.cell 1, k.cell 2⟩
  | 6, _, 1, _ => exact ⟨k.cell 3, k.cell 4, k.cell 5⟩
  | 7, _, 0, _ => exact ⟨k.cell 0, k.cell 1, k.cell 2⟩
  | 7, _, 1, _ => exact ⟨k.cell 3, k.cell 4, k.cell 5⟩
  | 7, _, 2, _ => exact ⟨k.cell 6, k.cell 7, k.cell 8⟩
  | 8, _, 0, _ => exact ⟨k.cell 0, k.cell 1, k.cell 2⟩
  | 8, _, 1, _ => exact ⟨k.cell 3, k.cell 4, k.cell 5⟩⟩
theorem rt_cells {w : World} {g z : Nat} (k : Blk w g (rcC z) 37) {q : Nat} (h : q < 9) : w.cell? ⟨g, q * 4, none⟩ = some (.string ⟨#[]⟩) ∧ w.cell? ⟨g, q * 4 + 1, none⟩ = some (.string (rcK q)) ∧ w.cell? ⟨g, q * 4 + 2, none⟩ = some (.slice (some ⟨z + q, 0, none⟩) (rtK q).length (rtK q).length) ∧ w.cell? ⟨g, q * 4 + 3, none⟩ = some (.int .i64 0) := by
  match q, h with
  | 0, _ => exact ⟨k.cell 0, k.cell 1, k.cell 2, k.cell 3⟩
  | 1, _ => exact ⟨k.cell 4, k.cell 5, k.cell 6, k.cell 7⟩
  | 2, _ => exact ⟨k.cell 8, k.cell 9, k.cell 10, k.cell 11⟩
  | 3, _ => exact ⟨k.cell 12, k.cell 13, k.cell 14, k.cell 15⟩
  | 4, _ => exact ⟨k.cell 16, k.cell 17, k.cell 18, k.cell 19⟩
  | 5, _ => exact ⟨k.cell 20, k.cell 21, k.cell 22, k.cell 23⟩
  | 6, _ => exact ⟨k.cell 24, k.cell 25, k.cell 26, k.cell 27⟩
  | 7, _ => exact ⟨k.cell 28, k.cell 29, k.cell 30, k.cell 31⟩
  | 8, _ => exact ⟨k.cell 32, k.cell 33, k.cell 34, k.cell 35⟩
theorem ws_cell {w : World} {g : Nat} (k : Blk w g wsC 9) {q : Nat} (h : q < 9) : w.cell? ⟨g, q, none⟩ = some (.string (wdK q)) := by
  match q, h with
  | 0, _ => exact k.cell 0
  | 1, _ => exact k.cell 1
  | 2, _ => exact k.cell 2
  | 3, _ => exact k.cell 3
  | 4, _ => exact k.cell 4
  | 5, _ => exact k.cell 5
  | 6, _ => exact k.cell 6
  | 7, _ => exact k.cell 7
  | 8, _ => exact k.cell 8

theorem rt_cells2 {w : World} {g z : Nat} {v : Value} {q : Nat} (k : Blk w g ((rcC z).setIfInBounds (q * 4) v) 37) (h : q < 9) : w.cell? ⟨g, q * 4, none⟩ = some v ∧ w.cell? ⟨g, q * 4 + 1, none⟩ = some (.string (rcK q)) ∧ w.cell? ⟨g, q * 4 + 2, none⟩ = some (.slice (some ⟨z + q, 0, none⟩) (rtK q).length (rtK q).length) ∧ w.cell? ⟨g, q * 4 + 3, none⟩ = some (.int .i64 0) := by
  match q, h with
  | 0, _ => exact ⟨k.cell 0, k.cell 1, k.cell 2, k.cell 3⟩
  | 1, _ => exact ⟨k.cell 4, k.cell 5, k.cell 6, k.cell 7⟩
  | 2, _ => exact ⟨k.cell 8, k.cell 9, k.cell 10, k.cell 11⟩
  | 3, _ => exact ⟨k.cell 12, k.cell 13, k.cell 14, k.cell 15⟩
  | 4, _ => exact ⟨k.cell 16, k.cell 17, k.cell 18, k.cell 19⟩
  | 5, _ => exact ⟨k.cell 20, k.cell 21, k.cell 22, k.cell 23⟩
  | 6, _ => exact ⟨k.cell 24, k.cell 25, k.cell 26, k.cell 27⟩
  | 7, _ => exact ⟨k.cell 28, k.cell 29, k.cell 30, k.cell 31⟩
  | 8, _ => exact ⟨k.cell 32, k.cell 33, k.cell 34, k.cell 35⟩

set_option maxRecDepth 100000 in
set_option maxHeartbeats 8000000 in
theorem known_law (x0 : Int) (w : World) (ht : ∀ w', Below w.heap.size w w' → PB.Pow10 w') :
    Calls Tryd.prog 4 #[.int .i64 x0] w fun e w' => e = .returned (.bool true) ∧ Below w.heap.size w w' := by
  have HT := Lib.hid ht
  clear ht
  go_enter Tryd.func4, Tryd.ntmps4
  go_wp2_with fail
  refine (known13 w).mono ?_
  rintro e w1 ⟨rfl, hb1⟩
  go_wp2_with fail
  refine (PB.new_calls w1).mono ?_
  rintro e w2 ⟨p, b1, b2, rfl, hB, ⟨hp, h1, h2⟩, hb2⟩
  have z1 := hb1.size
  have hp : w.heap.size ≤ p := by omega
  have h1 : w.heap.size ≤ b1 := by omega
  have h2 : w.heap.size ≤ b2 := by omega
  have HB2 := Lib.hid hB
  have B2 := Lib.hid (PA.below_step hb1 hb2)
  clear hB hb1 hb2 z1
  go_wp2_with fail
  go_loopw [4] (fun v4 wr => ∃ (i : Nat), i ≤ 4 ∧ v4 = .int .i64 ((i : Int) + 1) ∧ Hid (PB.BookAt wr p b1 b2 (lkW i)) ∧ Hid (PB.OkL (lkW i)) ∧ Hid (Below w.heap.size w wr)) (fun v4 _ => 5 - (vI v4).toNat)
  case atStart => exact ⟨0, by omega, rfl, HB2, Lib.hid PB.OkL.nil, B2⟩
  case round =>
    clear HB2 B2
    obtain ⟨i, hi, rfl, HB, HL, BB⟩ := hrel
    obtain ⟨a1, a2, a3⟩ := lkW_all i
    by_cases hlt : i < 4
    · have hlt' : (i : Int) + 1 ≤ 4 := by omega
      have hw := Lib.hid (web_new a1 HL.out a2)
      go_wp2_with fail
      with_reducible refine (PB.stamp_callsE HB.out HL.out cWeb nmWeb_valid ((i : Int) + 1) (by omega) (by omega) (fun w' hb => HT.out w' (PA.below_step BB.out hb)) cWeb_enc (nm := nmWeb) cWeb_nm).mono ?_
      rintro e w5 ⟨rfl, hB5, hc5⟩
      rw [hw.out.1] at hB5
      have hL5 := HL.out.stamp (c := cWeb) nmWeb_valid (g := (i : Int) + 1) (by omega) (by omega) (by omega)
      rw [hw.out.1] at hL5
      have HB5 := Lib.hid hB5
      have HL5 := Lib.hid hL5
      have B5 := Lib.hid (hc5.below_of BB.out BB.out.size (fun k hk e => by omega))
      clear hB5 hL5 hc5 HB BB HL a1 a2
      by_cases h3 : i < 3
      · have h3' : (i : Int) + 1 < 4 := by omega
        go_wp2_with fail
        with_reducible refine (PB.rrev_calls nmWeb nmWeb_valid ((i : Int) + 1) (by omega) (by omega) _).mono ?_
        rintro e w7 ⟨rfl, hb7⟩
        have HB7 := Lib.hid (HB5.out.below hb7)
        have B7 := Lib.hid (PA.below_step B5.out hb7)
        clear hb7 HB5 B5
        have hsz := PB.revN_size nmWeb (by decide) ((i : Int) + 1) (by omega) (by omega)
        have hpc := PB.prove_calls HB7.out HL5.out (PB.revN nmWeb ((i : Int) + 1)) (by omega)
        rw [if_pos (Option.isSome_iff_ne_none.2 hw.out.2.1), hw.out.2.2] at hpc
        have HPC := Lib.hid hpc
        have hL8 := HL5.out.prove (PB.revN nmWeb ((i : Int) + 1)).data.toList
        rw [hw.out.2.2] at hL8
        have hlk : lkW i ++ [⟨cWeb, (i : Int) + 1, true⟩] = lkW (i + 1) := by
          show _ = lkW i ++ [⟨cWeb, (i : Int) + 1, decide (i < 3)⟩]
          rw [decide_eq_true h3]
        have HLK := Lib.hid hlk
        have HL8 := Lib.hid hL8
        clear hpc hL8 hlk
        go_wp2_with fail
        with_reducible refine HPC.out.mono ?_
        rintro e w8 ⟨rfl, hB8, hc8⟩
        rw [HLK.out] at hB8
        have hL8 := HL8.out
        rw [HLK.out] at hL8
        have HB8 := Lib.hid hB8
        have HL9 := Lib.hid hL8
        have B8 := Lib.hid (hc8.below_of B7.out B7.out.size (fun k hk e => by omega))
        clear hB8 hc8 HPC HB7 B7 hsz HL5 HL8 HLK hL8 hw
        go_wp2_with fail
        go_roundw
        case rel => exact ⟨i + 1, by omega, by go_num, HB8, HL9, B8⟩
        case measure => simp [vI]; omega
      · have h3' : ¬ (i : Int) + 1 < 4 := by omega
        have hlk : lkW i ++ [⟨cWeb, (i : Int) + 1, false⟩] = lkW (i + 1) := by
          show _ = lkW i ++ [⟨cWeb, (i : Int) + 1, decide (i < 3)⟩]
          rw [decide_eq_false h3]
        have HB8 := HB5.out
        have HL8 := HL5.out
        rw [hlk] at HB8 HL8
        have HB9 := Lib.hid HB8
        have HL9 := Lib.hid HL8
        clear HB8 HL8 hlk HB5 HL5 hw
        go_wp2_with fail
        go_roundw
        case rel => exact ⟨i + 1, by omega, by go_num, HB9, HL9, B5⟩
        case measure => simp [vI]; omega
    · have hin : i = 4 := by omega
      subst hin
      have hnl : ¬ (4 : Int) + 1 ≤ 4 := by omega
      clear a1 a2 a3
      go_wp2_with fail
      with_reducible refine (PB.stamp_callsE HB.out HL.out cApi nmApi_valid 1 (by omega) (by omega) (fun w' hb => HT.out w' (PA.below_step BB.out hb)) cApi_enc (nm := nmApi) cApi_nm).mono ?_
      rintro e w5 ⟨rfl, hB5, hc5⟩
      rw [api_new] at hB5
      have hL5 := HL.out.stamp (c := cApi) nmApi_valid (g := 1) (by omega) (by omega) (by have := (lkW_all 4).2.2; omega)
      rw [api_new] at hL5
      have HB5 := Lib.hid hB5
      have HL5 := Lib.hid hL5
      have B5 := Lib.hid (hc5.below_of BB.out BB.out.size (fun k hk e => by omega))
      clear hB5 hL5 hc5 HB BB HL HT
      go_upto_region 15 with fail
      obtain ⟨z, hz⟩ : ∃ z, z = w5.heap.size := ⟨_, rfl⟩
      rw [← hz]
      obtain ⟨X1, hX1⟩ : ∃ X, X = w5.alloc (.cells #[.string ⟨#[]⟩, .string ⟨#[]⟩, .int .i64 100] 34) := ⟨_, rfl⟩
      rw [← hX1]
      obtain ⟨X2, hX2⟩ : ∃ X, X = X1.alloc (.cells #[.string ⟨#[]⟩, .string ⟨#[]⟩, .int .i64 90, .string ⟨#[119, 101, 98, 45, 49]⟩, .string ⟨#[111, 108, 100]⟩, .int .i64 10] 34) := ⟨_, rfl⟩
      rw [← hX2]
      obtain ⟨X3, hX3⟩ : ∃ X, X = X2.alloc (.cells #[.string ⟨#[119, 101, 98, 45, 52]⟩, .string ⟨#[]⟩, .int .i64 100] 34) := ⟨_, rfl⟩
      rw [← hX3]
      obtain ⟨X4, hX4⟩ : ∃ X, X = X3.alloc (.cells #[.string ⟨#[119, 101, 98, 45, 57]⟩, .string ⟨#[]⟩, .int .i64 100] 34) := ⟨_, rfl⟩
      rw [← hX4]
      obtain ⟨X5, hX5⟩ : ∃ X, X = X4.alloc (.cells #[.string ⟨#[]⟩, .string ⟨#[]⟩, .int .i64 100] 34) := ⟨_, rfl⟩
      rw [← hX5]
      obtain ⟨X6, hX6⟩ : ∃ X, X = X5.alloc (.cells #[.string ⟨#[119, 101, 98, 45, 50]⟩, .string ⟨#[]⟩, .int .i64 100] 34) := ⟨_, rfl⟩
      rw [← hX6]
      obtain ⟨X7, hX7⟩ : ∃ X, X = X6.alloc (.cells #[.string ⟨#[119, 101, 98, 45, 50]⟩, .string ⟨#[]⟩, .int .i64 100, .string ⟨#[]⟩, .string ⟨#[]⟩, .int .i64 0] 34) := ⟨_, rfl⟩
      rw [← hX7]
      obtain ⟨X8, hX8⟩ : ∃ X, X = X7.alloc (.cells #[.string ⟨#[119, 101, 98, 45, 50]⟩, .string ⟨#[98]⟩, .int .i64 30, .string ⟨#[]⟩, .string ⟨#[97]⟩, .int .i64 30, .string ⟨#[119, 101, 98, 45, 50]⟩, .string ⟨#[]⟩, .int .i64 40] 34) := ⟨_, rfl⟩
      rw [← hX8]
      obtain ⟨X9, hX9⟩ : ∃ X, X = X8.alloc (.cells #[.string ⟨#[119, 101, 98, 45, 57]⟩, .string ⟨#[]⟩, .int .i64 0, .string ⟨#[119, 101, 98, 45, 52]⟩, .string ⟨#[]⟩, .int .i64 100] 34) := ⟨_, rfl⟩
      rw [← hX9]
      obtain ⟨XR, hXR⟩ : ∃ X, X = X9.alloc (.cells (rcC z) 37) := ⟨_, rfl⟩
      obtain ⟨W, hW⟩ : ∃ X, X = XR.alloc (.cells wsC 9) := ⟨_, rfl⟩
      have hXR' : X9.alloc (.cells #[.string ⟨#[]⟩, .string ⟨#[119, 101, 98]⟩, .slice (some ⟨z, 0, none⟩) 1 1, .int .i64 0, .string ⟨#[]⟩, .string ⟨#[119, 101, 98]⟩, .slice (some ⟨z + 1, 0, none⟩) 2 2, .int .i64 0, .string ⟨#[]⟩, .string ⟨#[119, 101, 98]⟩, .slice (some ⟨z + 1 + 1, 0, none⟩) 1 1, .int .i64 0, .string ⟨#[]⟩, .string ⟨#[119, 101, 98]⟩, .slice (some ⟨z + 1 + 1 + 1, 0, none⟩) 1 1, .int .i64 0, .string ⟨#[]⟩, .string ⟨#[97, 112, 105]⟩, .slice (some ⟨z + 1 + 1 + 1 + 1, 0, none⟩) 1 1, .int .i64 0, .string ⟨#[]⟩, .string ⟨#[110, 111, 110, 101]⟩, .slice (some ⟨z + 1 + 1 + 1 + 1 + 1, 0, none⟩) 1 1, .int .i64 0, .string ⟨#[]⟩, .string ⟨#[110, 111, 110, 101]⟩, .slice (some ⟨z + 1 + 1 + 1 + 1 + 1 + 1, 0, none⟩) 2 2, .int .i64 0, .string ⟨#[]⟩, .string ⟨#[119, 101, 98]⟩, .slice (some ⟨z + 1 + 1 + 1 + 1 + 1 + 1 + 1, 0, none⟩) 3 3, .int .i64 0, .string ⟨#[]⟩, .string ⟨#[119, 101, 98]⟩, .slice (some ⟨z + 1 + 1 + 1 + 1 + 1 + 1 + 1 + 1, 0, none⟩) 2 2, .int .i64 0] 37) = XR := hXR.symm
      have hW' : XR.alloc (.cells #[.string ⟨#[119, 101, 98, 45, 51, 58, 49, 48, 48]⟩, .string ⟨#[119, 101, 98, 45, 49, 58, 49, 48, 32, 119, 101, 98, 45, 51, 58, 57, 48, 32, 111, 108, 100, 61, 119, 101, 98, 45, 49]⟩, .string ⟨#[115, 116, 97, 116, 101]⟩, .string ⟨#[110, 111, 110, 101]⟩, .string ⟨#[115, 116, 97, 116, 101]⟩, .string ⟨#[119, 101, 98, 45, 50, 58, 49, 48, 48]⟩, .string ⟨#[115, 116, 97, 116, 101]⟩, .string ⟨#[119, 101, 98, 45, 50, 58, 55, 48, 32, 119, 101, 98, 45, 51, 58, 51, 48, 32, 97, 61, 119, 101, 98, 45, 51, 32, 98, 61, 119, 101, 98, 45, 50]⟩, .string ⟨#[110, 111, 110, 101]⟩] 9) = W := hW.symm
      rw [hXR', hW']
      clear hXR' hW'
      have s0 : w5.heap.size = z := hz.symm
      have s1 : X1.heap.size = z + 1 := by rw [hX1]; simp [s0]
      have s2 : X2.heap.size = z + 2 := by rw [hX2]; simp [s1]
      have s3 : X3.heap.size = z + 3 := by rw [hX3]; simp [s2]
      have s4 : X4.heap.size = z + 4 := by rw [hX4]; simp [s3]
      have s5 : X5.heap.size = z + 5 := by rw [hX5]; simp [s4]
      have s6 : X6.heap.size = z + 6 := by rw [hX6]; simp [s5]
      have s7 : X7.heap.size = z + 7 := by rw [hX7]; simp [s6]
      have s8 : X8.heap.size = z + 8 := by rw [hX8]; simp [s7]
      have s9 : X9.heap.size = z + 9 := by rw [hX9]; simp [s8]
      have sR : XR.heap.size = z + 10 := by rw [hXR]; simp [s9]
      have bW : Below w5.heap.size w5 W := by
        have b0 := Below.refl w5.heap.size w5
        have b1 : Below w5.heap.size w5 X1 := by rw [hX1]; exact b0.alloc (by omega) _
        have b2 : Below w5.heap.size w5 X2 := by rw [hX2]; exact b1.alloc (by omega) _
        have b3 : Below w5.heap.size w5 X3 := by rw [hX3]; exact b2.alloc (by omega) _
        have b4 : Below w5.heap.size w5 X4 := by rw [hX4]; exact b3.alloc (by omega) _
        have b5 : Below w5.heap.size w5 X5 := by rw [hX5]; exact b4.alloc (by omega) _
        have b6 : Below w5.heap.size w5 X6 := by rw [hX6]; exact b5.alloc (by omega) _
        have b7 : Below w5.heap.size w5 X7 := by rw [hX7]; exact b6.alloc (by omega) _
        have b8 : Below w5.heap.size w5 X8 := by rw [hX8]; exact b7.alloc (by omega) _
        have b9 : Below w5.heap.size w5 X9 := by rw [hX9]; exact b8.alloc (by omega) _
        have b10 : Below w5.heap.size w5 XR := by rw [hXR]; exact b9.alloc (by omega) _
        have b11 : Below w5.heap.size w5 W := by rw [hW]; exact b10.alloc (by omega) _
        exact b11
      have t0 : Blk W (z) (tcK 0) 34 := by
        have a0 : Blk X1 (z) (tcK 0) 34 := by
          have a := Blk.new w5 (tcK 0) 34
          rw [s0] at a
          rw [hX1]
          exact a
        have a1 : Blk X2 (z) (tcK 0) 34 := by rw [hX2]; exact a0.alloc _
        have a2 : Blk X3 (z) (tcK 0) 34 := by rw [hX3]; exact a1.alloc _
        have a3 : Blk X4 (z) (tcK 0) 34 := by rw [hX4]; exact a2.alloc _
        have a4 : Blk X5 (z) (tcK 0) 34 := by rw [hX5]; exact a3.alloc _
        have a5 : Blk X6 (z) (tcK 0) 34 := by rw [hX6]; exact a4.alloc _
        have a6 : Blk X7 (z) (tcK 0) 34 := by rw [hX7]; exact a5.alloc _
        have a7 : Blk X8 (z) (tcK 0) 34 := by rw [hX8]; exact a6.alloc _
        have a8 : Blk X9 (z) (tcK 0) 34 := by rw [hX9]; exact a7.alloc _
        have a9 : Blk XR (z) (tcK 0) 34 := by rw [hXR]; exact a8.alloc _
        have a10 : Blk W (z) (tcK 0) 34 := by rw [hW]; exact a9.alloc _
        exact a10
      have t1 : Blk W (z + 1) (tcK 1) 34 := by
        have a1 : Blk X2 (z + 1) (tcK 1) 34 := by
          have a := Blk.new X1 (tcK 1) 34
          rw [s1] at a
          rw [hX2]
          exact a
        have a2 : Blk X3 (z + 1) (tcK 1) 34 := by rw [hX3]; exact a1.alloc _
        have a3 : Blk X4 (z + 1) (tcK 1) 34 := by rw [hX4]; exact a2.alloc _
        have a4 : Blk X5 (z + 1) (tcK 1) 34 := by rw [hX5]; exact a3.alloc _
        have a5 : Blk X6 (z + 1) (tcK 1) 34 := by rw [hX6]; exact a4.alloc _
        have a6 : Blk X7 (z + 1) (tcK 1) 34 := by rw [hX7]; exact a5.alloc _
        have a7 : Blk X8 (z + 1) (tcK 1) 34 := by rw [hX8]; exact a6.alloc _
        have a8 : Blk X9 (z + 1) (tcK 1) 34 := by rw [hX9]; exact a7.alloc _
        have a9 : Blk XR (z + 1) (tcK 1) 34 := by rw [hXR]; exact a8.alloc _
        have a10 : Blk W (z + 1) (tcK 1) 34 := by rw [hW]; exact a9.alloc _
        exact a10
      have t2 : Blk W (z + 2) (tcK 2) 34 := by
        have a2 : Blk X3 (z + 2) (tcK 2) 34 := by
          have a := Blk.new X2 (tcK 2) 34
          rw [s2] at a
          rw [hX3]
          exact a
        have a3 : Blk X4 (z + 2) (tcK 2) 34 := by rw [hX4]; exact a2.alloc _
        have a4 : Blk X5 (z + 2) (tcK 2) 34 := by rw [hX5]; exact a3.alloc _
        have a5 : Blk X6 (z + 2) (tcK 2) 34 := by rw [hX6]; exact a4.alloc _
        have a6 : Blk X7 (z + 2) (tcK 2) 34 := by rw [hX7]; exact a5.alloc _
        have a7 : Blk X8 (z + 2) (tcK 2) 34 := by rw [hX8]; exact a6.alloc _
        have a8 : Blk X9 (z + 2) (tcK 2) 34 := by rw [hX9]; exact a7.alloc _
        have a9 : Blk XR (z + 2) (tcK 2) 34 := by rw [hXR]; exact a8.alloc _
        have a10 : Blk W (z + 2) (tcK 2) 34 := by rw [hW]; exact a9.alloc _
        exact a10
      have t3 : Blk W (z + 3) (tcK 3) 34 := by
        have a3 : Blk X4 (z + 3) (tcK 3) 34 := by
          have a := Blk.new X3 (tcK 3) 34
          rw [s3] at a
          rw [hX4]
          exact a
        have a4 : Blk X5 (z + 3) (tcK 3) 34 := by rw [hX5]; exact a3.alloc _
        have a5 : Blk X6 (z + 3) (tcK 3) 34 := by rw [hX6]; exact a4.alloc _
        have a6 : Blk X7 (z + 3) (tcK 3) 34 := by rw [hX7]; exact a5.alloc _
        have a7 : Blk X8 (z + 3) (tcK 3) 34 := by rw [hX8]; exact a6.alloc _
        have a8 : Blk X9 (z + 3) (tcK 3) 34 := by rw [hX9]; exact a7.alloc _
        have a9 : Blk XR (z + 3) (tcK 3) 34 := by rw [hXR]; exact a8.alloc _
        have a10 : Blk W (z + 3) (tcK 3) 34 := by rw [hW]; exact a9.alloc _
        exact a10
      have t4 : Blk W (z + 4) (tcK 4) 34 := by
        have a4 : Blk X5 (z + 4) (tcK 4) 34 := by
          have a := Blk.new X4 (tcK 4) 34
          rw [s4] at a
          rw [hX5]
          exact a
        have a5 : Blk X6 (z + 4) (tcK 4) 34 := by rw [hX6]; exact a4.alloc _
        have a6 : Blk X7 (z + 4) (tcK 4) 34 := by rw [hX7]; exact a5.alloc _
        have a7 : Blk X8 (z + 4) (tcK 4) 34 := by rw [hX8]; exact a6.alloc _
        have a8 : Blk X9 (z + 4) (tcK 4) 34 := by rw [hX9]; exact a7.alloc _
        have a9 : Blk XR (z + 4) (tcK 4) 34 := by rw [hXR]; exact a8.alloc _
        have a10 : Blk W (z + 4) (tcK 4) 34 := by rw [hW]; exact a9.alloc _
        exact a10
      have t5 : Blk W (z + 5) (tcK 5) 34 := by
        have a5 : Blk X6 (z + 5) (tcK 5) 34 := by
          have a := Blk.new X5 (tcK 5) 34
          rw [s5] at a
          rw [hX6]
          exact a
        have a6 : Blk X7 (z + 5) (tcK 5) 34 := by rw [hX7]; exact a5.alloc _
        have a7 : Blk X8 (z + 5) (tcK 5) 34 := by rw [hX8]; exact a6.alloc _
        have a8 : Blk X9 (z + 5) (tcK 5) 34 := by rw [hX9]; exact a7.alloc _
        have a9 : Blk XR (z + 5) (tcK 5) 34 := by rw [hXR]; exact a8.alloc _
        have a10 : Blk W (z + 5) (tcK 5) 34 := by rw [hW]; exact a9.alloc _
        exact a10
      have t6 : Blk W (z + 6) (tcK 6) 34 := by
        have a6 : Blk X7 (z + 6) (tcK 6) 34 := by
          have a := Blk.new X6 (tcK 6) 34
          rw [s6] at a
          rw [hX7]
          exact a
        have a7 : Blk X8 (z + 6) (tcK 6) 34 := by rw [hX8]; exact a6.alloc _
        have a8 : Blk X9 (z + 6) (tcK 6) 34 := by rw [hX9]; exact a7.alloc _
        have a9 : Blk XR (z + 6) (tcK 6) 34 := by rw [hXR]; exact a8.alloc _
        have a10 : Blk W (z + 6) (tcK 6) 34 := by rw [hW]; exact a9.alloc _
        exact a10
      have t7 : Blk W (z + 7) (tcK 7) 34 := by
        have a7 : Blk X8 (z + 7) (tcK 7) 34 := by
          have a := Blk.new X7 (tcK 7) 34
          rw [s7] at a
          rw [hX8]
          exact a
        have a8 : Blk X9 (z + 7) (tcK 7) 34 := by rw [hX9]; exact a7.alloc _
        have a9 : Blk XR (z + 7) (tcK 7) 34 := by rw [hXR]; exact a8.alloc _
        have a10 : Blk W (z + 7) (tcK 7) 34 := by rw [hW]; exact a9.alloc _
        exact a10
      have t8 : Blk W (z + 8) (tcK 8) 34 := by
        have a8 : Blk X9 (z + 8) (tcK 8) 34 := by
          have a := Blk.new X8 (tcK 8) 34
          rw [s8] at a
          rw [hX9]
          exact a
        have a9 : Blk XR (z + 8) (tcK 8) 34 := by rw [hXR]; exact a8.alloc _
        have a10 : Blk W (z + 8) (tcK 8) 34 := by rw [hW]; exact a9.alloc _
        exact a10
      have kr : Blk W (z + 9) (rcC z) 37 := by
        have a9 : Blk XR (z + 9) (rcC z) 37 := by
          have a := Blk.new X9 (rcC z) 37
          rw [s9] at a
          rw [hXR]
          exact a
        have a10 : Blk W (z + 9) (rcC z) 37 := by rw [hW]; exact a9.alloc _
        exact a10
      have kw : Blk W (z + 10) wsC 9 := by
        have a10 : Blk W (z + 10) wsC 9 := by
          have a := Blk.new XR wsC 9
          rw [sR] at a
          rw [hW]
          exact a
        exact a10
      have KT := Lib.hid (show ∀ q, q < 9 → Blk W (z + q) (tcK q) 34 from fun q hq => match q, hq with
        | 0, _ => t0
        | 1, _ => t1
        | 2, _ => t2
        | 3, _ => t3
        | 4, _ => t4
        | 5, _ => t5
        | 6, _ => t6
        | 7, _ => t7
        | 8, _ => t8)
      have KR := Lib.hid kr
      have KW := Lib.hid kw
      have B6 := Lib.hid (PA.below_step B5.out bW)
      have hzw : w.heap.size ≤ z := by have := B5.out.size; omega
      clear t0 t1 t2 t3 t4 t5 t6 t7 t8 kr kw B5 hX1 hX2 hX3 hX4 hX5 hX6 hX7 hX8 hX9 hXR hW s0 s1 s2 s3 s4 s5 s6 s7 s8 s9 sR
      have hz9 : w5.heap.size ≤ z := by omega
      have BZ := Lib.hid bW
      clear bW hz
      obtain ⟨gr, hgr⟩ : ∃ gr, gr = z + 1 + 1 + 1 + 1 + 1 + 1 + 1 + 1 + 1 := ⟨_, rfl⟩
      rw [← hgr]
      obtain ⟨gs, hgs⟩ : ∃ gs, gs = gr + 1 := ⟨_, rfl⟩
      rw [← hgs]
      rw [show z + 9 = gr by omega] at KR
      rw [show z + 10 = gs by omega] at KW
      have hgr' : z + 9 ≤ gr ∧ gr < gs := by omega
      clear hgr hgs
      go_wp2_with fail
      have hwq := Lib.hid (PB.within12 x0 9 (by omega) (by omega))
      have q0 := Int.emod_nonneg x0 (b := 9) (by omega)
      have q1 := Int.emod_lt_of_pos x0 (b := 9) (by omega)
      refine (PB.damperlaw13_within.calls x0 9 (x0 % 9) _ hwq.out).mono ?_
      rintro e w6 ⟨rfl, hdr_⟩
      have hd := hdr_.below
      have BY := Lib.hid (BZ.out.trans (hd.mono BZ.out.size))
      have B7 := Lib.hid (PA.below_step B6.out hd)
      have KR7 := Lib.hid (KR.out.below hd KR.out.lt)
      have KW7 := Lib.hid (KW.out.below hd KW.out.lt)
      have KT7 := Lib.hid (show ∀ q, q < 9 → Blk w6 (z + q) (tcK q) 34 from fun q hq => (KT.out q hq).below hd (KT.out q hq).lt)
      clear hdr_
      clear hd hwq B6 KR KW KT BZ
      generalize x0 % 9 = qi at q0 q1 ⊢
      obtain ⟨q, rfl⟩ : ∃ q : Nat, qi = (q : Int) := ⟨qi.toNat, by omega⟩
      have hq : q < 9 := by omega
      obtain ⟨c0, c1, c2, c3⟩ := rt_cells KR7.out hq
      have f0 := KR7.out.frozen (q * 4)
      go_upto_region 17 with fail
      obtain ⟨W7, hW7⟩ : ∃ X, X = w6.setCell ⟨gr, q * 4, none⟩ (.string ⟨#[114]⟩) := ⟨_, rfl⟩
      have bS : Below gr w6 W7 := by rw [hW7]; exact (Below.refl _ _).setCell (p := ⟨gr, q * 4, none⟩) (Nat.le_refl _) _
      have kr8 : Blk W7 gr ((rcC z).setIfInBounds (q * 4) (.string ⟨#[114]⟩)) 37 := by rw [hW7]; exact KR7.out.set (q * 4) _ rfl
      have kw8 : Blk W7 gs wsC 9 := by rw [hW7]; exact KW7.out.far (a := ⟨gr, q * 4, none⟩) (by show gs ≠ gr; omega) _
      have hB8 := HB5.out.below (BY.out.trans (bS.mono (by omega)))
      have B8 := Lib.hid (B7.out.trans (bS.mono (by omega)))
      have hts := tg_at hq ((KT7.out q hq).below bS (by omega))
      have HRS := Lib.hid (resolve_calls hB8 HL5.out ⟨#[114]⟩ (rcK q) 0 (some ⟨z + q, 0, none⟩) (rtK q).length (rtK q) hts (rt_ok q hq).1 (rt_ok q hq).2)
      rw [← hW7]
      clear c0 c1 c2 c3 f0 hts hB8 hW7 bS KT7 KR7 KW7 BY B7 HB5 HL5
      obtain ⟨c0, c1, c2, c3⟩ := rt_cells2 kr8 hq
      have KW8 := Lib.hid kw8
      clear kr8 kw8
      go_wp2_with fail
      with_reducible refine HRS.out.mono ?_
      rintro e w9 ⟨hb9, hm⟩
      rw [erK_ok q hq] at hm
      have KW9 := Lib.hid (KW8.out.below hb9 KW8.out.lt)
      have B9 := Lib.hid (PA.below_step B8.out hb9)
      clear hb9 HRS c0 c1 c2 c3 KW8 B8
      cases he : erK q with
      | some x =>
        rw [he] at hm
        obtain rfl := hm
        obtain ⟨hE, hx⟩ := errK q hq he
        have HE := Lib.hid hE
        clear he hE
        obtain ⟨WA, hWA⟩ : ∃ X, X = w9.alloc (.cells #[.slice none 0 0, .slice none 0 0] 41) := ⟨_, rfl⟩
        have bA : Below w9.heap.size w9 WA := by rw [hWA]; exact (Below.refl _ _).alloc (Nat.le_refl _) _
        have kA : Blk WA w9.heap.size #[.slice none 0 0, .slice none 0 0] 41 := by rw [hWA]; exact Blk.new _ _ _
        have KWA := Lib.hid (KW9.out.below bA KW9.out.lt)
        have BA := Lib.hid (PA.below_step B9.out bA)
        have KA := Lib.hid kA
        clear bA kA KW9 B9
        go_upto_region 18 with fail
        rw [← hWA]
        obtain ⟨ga, hga⟩ : ∃ ga, ga = w9.heap.size := ⟨_, rfl⟩
        rw [← hga] at KA ⊢
        clear hWA hga
        go_wp2_with fail
        have dr := (Below.refl WA.heap.size WA).drew
        have KWD := Lib.hid (KWA.out.below dr KWA.out.lt)
        have KD := Lib.hid (KA.out.below dr KA.out.lt)
        have BD := Lib.hid (PA.below_step BA.out dr)
        clear dr KWA KA BA
        refine start_ (n := 18) (S := fun w' => w'.cell? ⟨gs, q, none⟩ = some (.string (wdK q)) ∧ w'.cell? ⟨ga, 0, none⟩ = some (.slice none 0 0) ∧ w'.cell? ⟨ga, 1, none⟩ = some (.slice none 0 0)) (ds := []) #[false, false, false, false, false, false, false, false, false, false, false, false, false, false, false, false, false, false] (by kernel_rfl) rfl rfl ⟨ws_cell KWD.out hq, KD.out.cell 0, KD.out.cell 1⟩ (fun hHeld => ?_)
        refine pure_ (i := 0) (N := some 88) (v := ?_) (a' := ?_) #[true, false, false, false, false, false, false, false, false, false, false, false, false, false, false, false, false, false] rfl rfl (by kernel_rfl) (fun _ _ _ h => h) (Or.inl ⟨by rfl, ?_⟩) ?_ ?_
        rotate_left
        · intro w'
          go_simp
          with_reducible rfl
        rotate_left
        · simp only [Act.put, List.setIfInBounds_toArray, List.set_cons_zero, List.set_cons_succ]
          rfl
        refine pure_ (i := 2) (N := some 90) (v := ?_) (a' := ?_) #[true, false, true, false, false, false, false, false, false, false, false, false, false, false, false, false, false, false] rfl rfl (by kernel_rfl) (fun _ _ _ h => h) (Or.inl ⟨by rfl, ?_⟩) ?_ ?_
        rotate_left
        · intro w'
          go_simp
          with_reducible rfl
        rotate_left
        · simp only [Act.put, List.setIfInBounds_toArray, List.set_cons_zero, List.set_cons_succ]
          rfl
        refine pure_ (i := 3) (N := some 91) (v := ?_) (a' := ?_) #[true, false, true, true, false, false, false, false, false, false, false, false, false, false, false, false, false, false] rfl rfl (by kernel_rfl) (fun _ _ _ h => h) (Or.inl ⟨by rfl, ?_⟩) ?_ ?_
        rotate_left
        · intro w'
          go_simp
          with_reducible rfl
        rotate_left
        · simp only [Act.put, List.setIfInBounds_toArray, List.set_cons_zero, List.set_cons_succ]
          rfl
        refine pure_ (i := 4) (N := some 92) (v := ?_) (a' := ?_) #[true, false, true, true, true, false, false, false, false, false, false, false, false, false, false, false, false, false] rfl rfl (by kernel_rfl) (fun _ _ _ h => h) (Or.inl ⟨by rfl, ?_⟩) ?_ ?_
        rotate_left
        · intro w'
          go_simp
          with_reducible rfl
        rotate_left
        · simp only [Act.put, List.setIfInBounds_toArray, List.set_cons_zero, List.set_cons_succ]
          rfl
        refine take_ (i := 5) (N := some 93) (v := ?_) (a' := ?_) #[true, false, true, true, true, true, false, false, false, false, false, false, false, false, false, false, false, false] rfl rfl (by kernel_rfl) (fun _ _ _ h => h) (Or.inl ⟨by rfl, ?_⟩) hHeld ?_ ?_
        rotate_left
        · rintro w' ⟨s0, s1, s2⟩
          go_simp
          with_reducible rfl
        rotate_left
        · simp only [Act.put, List.setIfInBounds_toArray, List.set_cons_zero, List.set_cons_succ]
          rfl
        refine one_ (i := 1) (N := some 89) #[true, true, true, true, true, true, false, false, false, false, false, false, false, false, false, false, false, false] rfl rfl (by kernel_rfl) (by decide) (fun K hK => ?_)
        refine goes_ Tryd.func13 (by kernel_rfl) rfl #[.int .i64 x] (by rfl) rfl rfl (by simp only [List.map_toArray, List.map_cons, List.map_nil]; rfl) ?_
        with_reducible refine (PC.api_Errno_Error.calls x (wdK q) _ HE.out).mono ?_
        rintro e wz ⟨rfl, hdr⟩
        have bz := hdr.below
        have BZ := Lib.hid (PA.below_step BD.out bz)
        refine ⟨_, rfl, ?_⟩
        refine hK.out _ _ ⟨ws_cell (KWD.out.below bz KWD.out.lt) hq, (KD.out.below bz KD.out.lt).cell 0, (KD.out.below bz KD.out.lt).cell 1⟩ (fun hHeld => ?_)
        clear hK K
        refine norm_ (a' := ?_) ?_ ?_
        rotate_left
        · show Act.put _ (some 89) _ = _
          simp only [Act.put, List.setIfInBounds_toArray, List.set_cons_zero, List.set_cons_succ]
          rfl
        refine pure_ (i := 6) (N := some 94) (v := ?_) (a' := ?_) #[true, true, true, true, true, true, true, false, false, false, false, false, false, false, false, false, false, false] rfl rfl (by kernel_rfl) (fun _ _ _ h => h) (Or.inl ⟨by rfl, ?_⟩) ?_ ?_
        rotate_left
        · intro w'
          go_simp
          with_reducible rfl
        rotate_left
        · simp only [Act.put, List.setIfInBounds_toArray, List.set_cons_zero, List.set_cons_succ]
          rfl
        refine pure_ (i := 7) (N := some 95) (v := ?_) (a' := ?_) #[true, true, true, true, true, true, true, true, false, false, false, false, false, false, false, false, false, false] rfl rfl (by kernel_rfl) (fun _ _ _ h => h) (Or.inl ⟨by rfl, ?_⟩) ?_ ?_
        rotate_left
        · intro w'
          go_simp
          with_reducible rfl
        rotate_left
        · simp only [Act.put, List.setIfInBounds_toArray, List.set_cons_zero, List.set_cons_succ]
          rfl
        refine pure_ (i := 8) (N := some 96) (v := ?_) (a' := ?_) #[true, true, true, true, true, true, true, true, true, false, false, false, false, false, false, false, false, false] rfl rfl (by kernel_rfl) (fun _ _ _ h => h) (Or.inl ⟨by rfl, ?_⟩) ?_ ?_
        rotate_left
        · intro w'
          go_simp
          with_reducible rfl
        rotate_left
        · simp only [Act.put, List.setIfInBounds_toArray, List.set_cons_zero, List.set_cons_succ]
          rfl
        refine pure_ (i := 11) (N := some 99) (v := ?_) (a' := ?_) #[true, true, true, true, true, true, true, true, true, false, false, true, false, false, false, false, false, false] rfl rfl (by kernel_rfl) (fun _ _ _ h => h) (Or.inl ⟨by rfl, ?_⟩) ?_ ?_
        rotate_left
        · intro w'
          go_simp
          with_reducible rfl
        rotate_left
        · simp only [Act.put, List.setIfInBounds_toArray, List.set_cons_zero, List.set_cons_succ]
          rfl
        refine take_ (i := 9) (N := some 97) (v := ?_) (a' := ?_) #[true, true, true, true, true, true, true, true, true, true, false, true, false, false, false, false, false, false] rfl rfl (by kernel_rfl) (fun _ _ _ h => h) (Or.inl ⟨by rfl, ?_⟩) hHeld ?_ ?_
        rotate_left
        · rintro w' ⟨s0, s1, s2⟩
          go_simp
          with_reducible rfl
        rotate_left
        · simp only [Act.put, List.setIfInBounds_toArray, List.set_cons_zero, List.set_cons_succ]
          rfl
        refine pure_ (i := 10) (N := some 98) (v := ?_) (a' := ?_) #[true, true, true, true, true, true, true, true, true, true, true, true, false, false, false, false, false, false] rfl rfl (by kernel_rfl) (fun _ _ _ h => h) (Or.inl ⟨by rfl, ?_⟩) ?_ ?_
        rotate_left
        · intro w'
          go_simp
          with_reducible rfl
        rotate_left
        · simp only [Act.put, List.setIfInBounds_toArray, List.set_cons_zero, List.set_cons_succ]
          rfl
        refine take_ (i := 12) (N := some 100) (v := ?_) (a' := ?_) #[true, true, true, true, true, true, true, true, true, true, true, true, true, false, false, false, false, false] rfl rfl (by kernel_rfl) (fun _ _ _ h => h) (Or.inl ⟨by rfl, ?_⟩) hHeld ?_ ?_
        rotate_left
        · rintro w' ⟨s0, s1, s2⟩
          go_simp
          with_reducible rfl
        rotate_left
        · simp only [Act.put, List.setIfInBounds_toArray, List.set_cons_zero, List.set_cons_succ]
          rfl
        refine pure_ (i := 13) (N := some 101) (v := ?_) (a' := ?_) #[true, true, true, true, true, true, true, true, true, true, true, true, true, true, false, false, false, false] rfl rfl (by kernel_rfl) (fun _ _ _ h => h) (Or.inl ⟨by rfl, ?_⟩) ?_ ?_
        rotate_left
        · intro w'
          go_simp
          with_reducible rfl
        rotate_left
        · simp only [Act.put, List.setIfInBounds_toArray, List.set_cons_zero, List.set_cons_succ]
          rfl
        refine pure_ (i := 14) (N := some 102) (v := ?_) (a' := ?_) #[true, true, true, true, true, true, true, true, true, true, true, true, true, true, true, false, false, false] rfl rfl (by kernel_rfl) (fun _ _ _ h => h) (Or.inl ⟨by rfl, ?_⟩) ?_ ?_
        rotate_left
        · intro w'
          go_simp
          with_reducible rfl
        rotate_left
        · simp only [Act.put, List.setIfInBounds_toArray, List.set_cons_zero, List.set_cons_succ]
          rfl
        refine pure_ (i := 15) (N := some 103) (v := ?_) (a' := ?_) #[true, true, true, true, true, true, true, true, true, true, true, true, true, true, true, true, false, false] rfl rfl (by kernel_rfl) (fun _ _ _ h => h) (Or.inl ⟨by rfl, ?_⟩) ?_ ?_
        rotate_left
        · intro w'
          go_simp
          with_reducible rfl
        rotate_left
        · simp only [Act.put, List.setIfInBounds_toArray, List.set_cons_zero, List.set_cons_succ]
          rfl
        refine pure_ (i := 16) (N := some 104) (v := ?_) (a' := ?_) #[true, true, true, true, true, true, true, true, true, true, true, true, true, true, true, true, true, false] rfl rfl (by kernel_rfl) (fun _ _ _ h => h) (Or.inl ⟨by rfl, ?_⟩) ?_ ?_
        rotate_left
        · intro w'
          go_simp
          with_reducible rfl
        rotate_left
        · simp only [Act.put, List.setIfInBounds_toArray, List.set_cons_zero, List.set_cons_succ]
          rfl
        refine pure_ (i := 17) (N := some 2) (v := ?_) (a' := ?_) #[true, true, true, true, true, true, true, true, true, true, true, true, true, true, true, true, true, true] rfl rfl (by kernel_rfl) (fun _ _ _ h => h) (Or.inl ⟨by rfl, ?_⟩) ?_ ?_
        rotate_left
        · intro w'
          go_simp
          with_reducible rfl
        rotate_left
        · simp only [Act.put, List.setIfInBounds_toArray, List.set_cons_zero, List.set_cons_succ]
          rfl
        refine done_ (by kernel_rfl) ?_
        go_wp2_with fail
        go_ret
        exact ⟨rfl, BZ.out⟩
      | none =>
        rw [he] at hm
        obtain ⟨A, c, B, d, rfl, hA, hc, hT, hd⟩ := hm
        obtain ⟨r1, r2⟩ := res_ok q hq he
        rw [r1] at hA hc ⊢
        rw [r2] at hT hd ⊢
        have HTX := Lib.hid (textK q hq he)
        clear r1 r2 he
        obtain ⟨d1, d2, d3, d4, d5⟩ := digK q hq
        obtain ⟨WA, hWA⟩ : ∃ X, X = w9.alloc (.cells #[.slice A (shK q).length c, .slice B (tgK q).length d] 41) := ⟨_, rfl⟩
        have bA : Below w9.heap.size w9 WA := by rw [hWA]; exact (Below.refl _ _).alloc (Nat.le_refl _) _
        have kA : Blk WA w9.heap.size #[.slice A (shK q).length c, .slice B (tgK q).length d] 41 := by rw [hWA]; exact Blk.new _ _ _
        have dr := (Below.refl WA.heap.size WA).drew
        have bD := PA.below_step bA dr
        have htx := text_calls (c := c) (d := d) dgK WA.drew (Kd.C_below hA bD) (Kd.C_below hT bD) d1 d2 d3 d4 d5
        rw [HTX.out] at htx
        have HX := Lib.hid htx
        have KWA := Lib.hid (KW9.out.below bD KW9.out.lt)
        have BA := Lib.hid (PA.below_step B9.out bD)
        have KA := Lib.hid (kA.below dr kA.lt)
        clear dr bD
        clear d1 d2 d3 d4 d5 htx bA kA KW9 B9 hA hT HTX
        go_upto_region 18 with fail
        rw [← hWA]
        obtain ⟨ga, hga⟩ : ∃ ga, ga = w9.heap.size := ⟨_, rfl⟩
        rw [← hga] at KA ⊢
        clear hWA hga
        go_wp2_with fail
        refine start_ (n := 8) (S := fun w' => w'.cell? ⟨gs, q, none⟩ = some (.string (wdK q)) ∧ w'.cell? ⟨ga, 0, none⟩ = some (.slice A (shK q).length c) ∧ w'.cell? ⟨ga, 1, none⟩ = some (.slice B (tgK q).length d)) (ds := []) #[false, false, false, false, false, false, false, false] (by kernel_rfl) rfl rfl ⟨ws_cell KWA.out hq, KA.out.cell 0, KA.out.cell 1⟩ (fun hHeld => ?_)
        refine pure_ (i := 2) (N := some 107) (v := ?_) (a' := ?_) #[false, false, true, false, false, false, false, false] rfl rfl (by kernel_rfl) (fun _ _ _ h => h) (Or.inl ⟨by rfl, ?_⟩) ?_ ?_
        rotate_left
        · intro w'
          go_simp
          with_reducible rfl
        rotate_left
        · simp only [Act.put, List.setIfInBounds_toArray, List.set_cons_zero, List.set_cons_succ]
          rfl
        refine pure_ (i := 3) (N := some 108) (v := ?_) (a' := ?_) #[false, false, true, true, false, false, false, false] rfl rfl (by kernel_rfl) (fun _ _ _ h => h) (Or.inl ⟨by rfl, ?_⟩) ?_ ?_
        rotate_left
        · intro w'
          go_simp
          with_reducible rfl
        rotate_left
        · simp only [Act.put, List.setIfInBounds_toArray, List.set_cons_zero, List.set_cons_succ]
          rfl
        refine pure_ (i := 4) (N := some 109) (v := ?_) (a' := ?_) #[false, false, true, true, true, false, false, false] rfl rfl (by kernel_rfl) (fun _ _ _ h => h) (Or.inl ⟨by rfl, ?_⟩) ?_ ?_
        rotate_left
        · intro w'
          go_simp
          with_reducible rfl
        rotate_left
        · simp only [Act.put, List.setIfInBounds_toArray, List.set_cons_zero, List.set_cons_succ]
          rfl
        refine take_ (i := 0) (N := some 105) (v := ?_) (a' := ?_) #[true, false, true, true, true, false, false, false] rfl rfl (by kernel_rfl) (fun _ _ _ h => h) (Or.inl ⟨by rfl, ?_⟩) hHeld ?_ ?_
        rotate_left
        · rintro w' ⟨s0, s1, s2⟩
          go_simp
          with_reducible rfl
        rotate_left
        · simp only [Act.put, List.setIfInBounds_toArray, List.set_cons_zero, List.set_cons_succ]
          rfl
        refine take_ (i := 5) (N := some 110) (v := ?_) (a' := ?_) #[true, false, true, true, true, true, false, false] rfl rfl (by kernel_rfl) (fun _ _ _ h => h) (Or.inl ⟨by rfl, ?_⟩) hHeld ?_ ?_
        rotate_left
        · rintro w' ⟨s0, s1, s2⟩
          go_simp
          with_reducible rfl
        rotate_left
        · simp only [Act.put, List.setIfInBounds_toArray, List.set_cons_zero, List.set_cons_succ]
          rfl
        refine one_ (i := 1) (N := some 106) #[true, true, true, true, true, true, false, false] rfl rfl (by kernel_rfl) (by decide) (fun K hK => ?_)
        refine goes_ Tryd.func14 (by kernel_rfl) rfl #[.agg #[.slice A (shK q).length c, .slice B (tgK q).length d]] (by rfl) rfl rfl (by simp only [List.map_toArray, List.map_cons, List.map_nil]; rfl) ?_
        with_reducible refine (HX.out).mono ?_
        rintro e wz ⟨rfl, bz⟩
        have BZ := Lib.hid (PA.below_step BA.out bz)
        refine ⟨_, rfl, ?_⟩
        refine hK.out _ _ ⟨ws_cell (KWA.out.below bz KWA.out.lt) hq, (KA.out.below bz KA.out.lt).cell 0, (KA.out.below bz KA.out.lt).cell 1⟩ (fun hHeld => ?_)
        clear hK K
        refine norm_ (a' := ?_) ?_ ?_
        rotate_left
        · show Act.put _ (some 106) _ = _
          simp only [Act.put, List.setIfInBounds_toArray, List.set_cons_zero, List.set_cons_succ]
          rfl
        refine pure_ (i := 6) (N := some 111) (v := ?_) (a' := ?_) #[true, true, true, true, true, true, true, false] rfl rfl (by kernel_rfl) (fun _ _ _ h => h) (Or.inl ⟨by rfl, ?_⟩) ?_ ?_
        rotate_left
        · intro w'
          go_simp
          with_reducible rfl
        rotate_left
        · simp only [Act.put, List.setIfInBounds_toArray, List.set_cons_zero, List.set_cons_succ]
          rfl
        refine pure_ (i := 7) (N := some 2) (v := ?_) (a' := ?_) #[true, true, true, true, true, true, true, true] rfl rfl (by kernel_rfl) (fun _ _ _ h => h) (Or.inl ⟨by rfl, ?_⟩) ?_ ?_
        rotate_left
        · intro w'
          go_simp
          with_reducible rfl
        rotate_left
        · simp only [Act.put, List.setIfInBounds_toArray, List.set_cons_zero, List.set_cons_succ]
          rfl
        refine done_ (by kernel_rfl) ?_
        go_wp2_with fail
        go_ret
        exact ⟨rfl, BZ.out⟩

end Go.Proofs.YtnkmpkhiilnigaaDoor.PR
