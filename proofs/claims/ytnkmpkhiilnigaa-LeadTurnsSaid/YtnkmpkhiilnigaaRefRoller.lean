/- The document's Roller: its memory, find, Table. (Printed by genx.py from refroller.src.) -/
import Derived.Test.YtnkmpkhiilnigaaRefShares
import Derived.Test.YtnkmpkhiilnigaaGLeadS
import Derived.Test.YtnkmpkhiilnigaaPAx8
namespace Go.Proofs.Ytnkmpkhiilnigaa.PA
open Go.RowKit Go.Shelf Go.Lib Go.Sort Go.Proofs.YtnkmpkhiilnigaaW.PrintWords Go.Proofs.YtnkmpkhiilnigaaW.PrintLast

/-- Rows of pointers to ways. -/
def elW : El Try.prog Nat := ⟨50, 73, fun g => [.pointer (some ⟨g, 0, none⟩)], 1, 8, .pointer none, Try.underlying50, by kernel_rfl, rfl, by omega, by omega, fun _ => rfl, fun x u hu => by rw [List.mem_singleton.1 hu]; rfl⟩

/-- A way: its block, its name, what it is. -/
structure DW where
  g : Nat
  nm : ByteArray
  m : WayM

def DWAt (w : World) (ok : Nat → Prop) (x : DW) : Prop := ∃ A0 c0 A1 c1 A2 c2 A3 c3, Blk w x.g #[.string x.nm, .slice A0 x.m.fr.length c0, .slice A1 x.m.dst.length c1, .int .i64 x.m.since, .int .i64 x.m.whole, .slice A2 x.m.now.length c2, .slice A3 x.m.tags.length c3] 76 ∧
  (Kd.C k40 w A0 x.m.fr.length x.m.fr ∧ Kd.C k40 w A1 x.m.dst.length x.m.dst ∧ Kd.C k40 w A2 x.m.now.length x.m.now ∧ Kd.C k42 w A3 x.m.tags.length x.m.tags) ∧
  (x.m.fr.length ≤ c0 ∧ x.m.dst.length ≤ c1 ∧ x.m.now.length ≤ c2 ∧ x.m.tags.length ≤ c3) ∧
  (InOk ok A0 x.m.fr.length ∧ InOk ok A1 x.m.dst.length ∧ InOk ok A2 x.m.now.length ∧ InOk ok A3 x.m.tags.length)

/-- The document's Roller in memory: ok are the blocks where its ways' rows may lie. -/
structure DocAt (w : World) (p : Nat) (ok : Nat → Prop) (l : List DW) : Prop where
  row : ∃ base A c, Blk w p #[.slice A l.length c] 52 ∧ RowG elW w base (.slice A l.length c) (l.map (·.g)) ∧ ∀ k, ok k → (Value.slice A l.length c).ownBlock ≠ some k
  ways : ∀ x ∈ l, DWAt w ok x
  nodup : (l.map (·.g)).Nodup
  notp : ∀ k, ok k → k ≠ p
  notg : ∀ k, ok k → ∀ x ∈ l, k ≠ x.g

theorem DWAt.chg {F : Nat → Prop} {ok : Nat → Prop} {w w' : World} {x : DW} (h : DWAt w ok x) (hc : Chg F w w') (hg : ¬ F x.g) (hF : ∀ k, ok k → k < w.heap.size → ¬ F k) : DWAt w' ok x := by
  obtain ⟨A0, c0, A1, c1, A2, c2, A3, c3, hk, ⟨h0, h1, h2, h3⟩, hl, o0, o1, o2, o3⟩ := h
  exact ⟨A0, c0, A1, c1, A2, c2, A3, c3, hk.chg hc hg, ⟨c_chg h0 o0 hc hF, c_chg h1 o1 hc hF, c_chg h2 o2 hc hF, ct_chg h3 o3 hc hF⟩, hl, o0, o1, o2, o3⟩
theorem DWAt.okm {ok ok' : Nat → Prop} {w : World} {x : DW} (h : DWAt w ok x) (hm : ∀ k, ok k → k < w.heap.size → ok' k) : DWAt w ok' x := by
  obtain ⟨A0, c0, A1, c1, A2, c2, A3, c3, hk, ⟨h0, h1, h2, h3⟩, hl, o0, o1, o2, o3⟩ := h
  exact ⟨A0, c0, A1, c1, A2, c2, A3, c3, hk, ⟨h0, h1, h2, h3⟩, hl, o0.mono (fun k hk hp a e e' => hm k hk (e' ▸ share_lt h0 hp a e)), o1.mono (fun k hk hp a e e' => hm k hk (e' ▸ share_lt h1 hp a e)), o2.mono (fun k hk hp a e e' => hm k hk (e' ▸ share_lt h2 hp a e)), o3.mono (fun k hk hp a e e' => hm k hk (e' ▸ tag_lt h3 hp a e))⟩
theorem DocAt.below {ok : Nat → Prop} {w w' : World} {p : Nat} {l : List DW} (h : DocAt w p ok l) (hc : Below w.heap.size w w') : DocAt w' p ok l := by
  obtain ⟨⟨base, A, c, h1, h2, h3⟩, h4, h5, h6, h7⟩ := h
  have hcc : Chg (fun _ => False) w w' := Chg.of_below hc (fun k hk hk' => by omega)
  exact ⟨⟨base, A, c, h1.below hc h1.lt, h2.below hc (Nat.le_refl _), h3⟩, fun x hx => (h4 x hx).chg hcc id (fun _ _ _ => id), h5, h6, h7⟩
/-- No map is a part of it. -/
theorem DocAt.map {ok : Nat → Prop} {w w' : World} {p b : Nat} {l : List DW} {E : Array MapEntry} {n : Nat} (h : DocAt w p ok l) (hb : w.heap[b]? = some (.map E n)) (hc : Chg (fun k => k = b) w w') : DocAt w' p ok l := by
  have hblk : ∀ {g : Nat} {cs : Array Value} {t : TypeId}, Blk w g cs t → g ≠ b := fun hk e => by
    subst e
    unfold Blk at hk
    rw [hb] at hk
    cases hk
  obtain ⟨⟨base, A, c, h1, h2, h3⟩, h4, h5, h6, h7⟩ := h
  have hs : ∀ {A : Option Addr} {l : List S40}, Kd.C k40 w A l.length l → InOk (fun k => k ≠ b) A l.length := fun h0 hp ad e e' => by
    obtain ⟨g', o, hA, _, hc0⟩ := shares_at h0 hp
    rw [hA] at e
    cases e
    have h9 := (hc0 0 hp).1
    subst e'
    simp [World.cell?, hb] at h9
  have hs' : ∀ {A : Option Addr} {l : List S42}, Kd.C k42 w A l.length l → InOk (fun k => k ≠ b) A l.length := fun h0 hp ad e e' => by
    obtain ⟨g', o, hA, _, hc0⟩ := tags_at h0 hp
    rw [hA] at e
    cases e
    have h9 := (hc0 0 hp).1
    subst e'
    simp [World.cell?, hb] at h9
  refine ⟨⟨base, A, c, h1.chg hc (hblk h1), ?_, h3⟩, fun x hx => ?_, h5, h6, h7⟩
  · obtain ⟨q1, q2⟩ := h2
    refine ⟨q1, ?_⟩
    rcases q2 with q2 | ⟨g, cap, cur, hv, hg, hh, r⟩
    · exact .inl q2
    · refine .inr ⟨g, cap, cur, hv, hg, (hc.block g (Array.getElem?_eq_some_iff.1 hh).1 (fun e => ?_)).trans hh, r⟩
      subst e
      rw [hb] at hh
      cases hh
  · obtain ⟨A0, c0, A1, c1, A2, c2, A3, c3, hk, ⟨q0, q1, q2, q3⟩, hl, o0, o1, o2, o3⟩ := h4 x hx
    exact ⟨A0, c0, A1, c1, A2, c2, A3, c3, hk.chg hc (hblk hk), ⟨c_chg q0 (hs q0) hc (fun _ h _ => h), c_chg q1 (hs q1) hc (fun _ h _ => h), c_chg q2 (hs q2) hc (fun _ h _ => h), ct_chg q3 (hs' q3) hc (fun _ h _ => h)⟩, hl, o0, o1, o2, o3⟩

/-- What find answers. -/
def findW (l : List DW) (nm : ByteArray) : Option DW := l.find? (fun x => x.nm.toList == nm.toList)

set_option maxHeartbeats 2000000 in
theorem find_calls {w : World} {p : Nat} {ok : Nat → Prop} {l : List DW} (h : DocAt w p ok l) (nm : ByteArray) (hl : l.length ≤ 1000) :
    Calls Try.prog 35 #[.pointer (some ⟨p, 0, none⟩), .string nm] w fun e w' => e = .returned (.pointer ((findW l nm).map fun x => ⟨x.g, 0, none⟩)) ∧ w' = w := by
  obtain ⟨⟨base, A, c, h1, h2, _⟩, h4, _, _, _⟩ := h
  have c0 := h1.cell 0
  simp only [List.getElem?_toArray, List.getElem?_cons_zero] at c0
  have H2 := Lib.hid h2
  have H4 := Lib.hid h4
  clear h1 h2 h4
  go_enter Try.func35, Try.ntmps35
  go_wp2_with fail
  go_loopw [5] (fun v wr => ∃ i : Nat, i ≤ l.length ∧ v = .int .i64 i ∧ Hid (∀ j (hj : j < l.length), j < i → (l[j].nm.toList == nm.toList) = false) ∧ wr = w) (fun v _ => l.length - (vI v).toNat)
  case atStart => exact ⟨0, by omega, rfl, Lib.hid (fun j _ h => by omega), rfl⟩
  case round =>
    obtain ⟨i, hi, rfl, hno, rfl⟩ := hrel
    by_cases hlt : i < l.length
    · have hlt' : (i : Int) < (l.length : Int) := by omega
      obtain ⟨ga, ca, he, _, _, _, _, hcs⟩ := RowG.cells H2.out (by rw [List.length_map]; omega)
      have hA : A = some ⟨ga, 0, none⟩ := (Value.slice.inj he).1
      subst hA
      have hce := hcs i (by rw [List.length_map]; omega) 0 (by decide)
      simp only [List.getElem_map] at hce
      have hce : wr.cell? ⟨ga, i, none⟩ = some (.pointer (some ⟨l[i].g, 0, none⟩)) := by
        have e1 : (elW.size : Nat) = 1 := rfl
        rw [e1, Nat.mul_one, Nat.add_zero] at hce
        exact hce
      obtain ⟨A0, d0, A1, d1, A2, d2, A3, d3, hk, _⟩ := H4.out _ (List.getElem_mem hlt)
      have hn := hk.cell 0
      simp only [List.getElem?_toArray, List.getElem?_cons_zero] at hn
      obtain ⟨x, hx⟩ : ∃ x, x = l[i] := ⟨_, rfl⟩
      have HXX := Lib.hid hx
      rw [← hx] at hce hn
      clear hcs he hk hx
      by_cases heq : x.nm.toList = nm.toList
      · have heq' : (x.nm.toList == nm.toList) = true := by simpa using heq
        go_wp2_with fail
        go_ret
        refine ⟨?_, rfl⟩
        have hf : findW l nm = some x := by
          rw [HXX.out]
          unfold findW
          rw [List.find?_eq_some_iff_getElem]
          exact ⟨by rw [← HXX.out]; exact heq', i, hlt, rfl, fun j hj => by rw [hno.out j (by omega) hj]; rfl⟩
        rw [hf]
        rfl
      · have heq' : (x.nm.toList == nm.toList) = false := by simpa using heq
        go_wp2_with fail
        go_roundw
        case rel => exact ⟨i + 1, by omega, by go_num, Lib.hid (fun j hj hji => by
          by_cases e : j = i
          · subst e; rw [← HXX.out]; exact heq'
          · exact hno.out j hj (by omega)), trivial⟩
        case measure => simp [vI]; omega
    · obtain rfl : i = l.length := by omega
      go_wp2_with fail
      go_ret
      refine ⟨?_, rfl⟩
      have hf : findW l nm = none := by
        unfold findW
        rw [List.find?_eq_none]
        intro x hx
        obtain ⟨j, hj, rfl⟩ := List.mem_iff_getElem.1 hx
        rw [hno.out j hj hj]
        simp
      rw [hf]
      rfl

/-- A copy of a table. -/
theorem copy_f {sh : List S40} {tg : List S42} (h0 : sh.length ≤ 1000000) (h1 : tg.length ≤ 1000000) : damperref5_Copy.f sh tg = some (sh, tg) := by
  unfold damperref5_Copy.f
  rw [Option.bind_some, if_pos (by rw [List.length_nil]; omega), Option.bind_some, if_pos (by rw [List.length_nil]; omega), List.nil_append, List.nil_append]
theorem copy_calls {A : Option Addr} {c : Nat} {sh : List S40} {B : Option Addr} {d : Nat} {tg : List S42} (w : World) (h0 : Kd.C k40 w A sh.length sh) (l0 : sh.length ≤ c) (h1 : Kd.C k42 w B tg.length tg) (l1 : tg.length ≤ d) (z0 : sh.length ≤ 1000000) (z1 : tg.length ≤ 1000000) :
    Calls Try.prog 25 #[.agg #[.slice A sh.length c, .slice B tg.length d]] w fun e w' => ∃ A' c' B' d', e = .returned (.agg #[.slice A' sh.length c', .slice B' tg.length d']) ∧ (Kd.C k40 w' A' sh.length sh ∧ sh.length ≤ c' ∧ Kd.C k42 w' B' tg.length tg ∧ tg.length ≤ d') ∧ (InOk (fun k => w.heap.size ≤ k) A' sh.length ∧ InOk (fun k => w.heap.size ≤ k) B' tg.length) ∧ Below w.heap.size w w' := by
  refine (damperref5_Copy.calls A c sh B d tg sh tg w h0 l0 h1 l1 (copy_f z0 z1)).mono ?_
  rintro e w' ⟨v0, v1, rfl, r0, r1, hb⟩
  obtain ⟨A', c', rfl, hc, hC⟩ := Kd.R_reads r0
  obtain ⟨B', d', rfl, hd, hD⟩ := Kd.R_reads r1
  exact ⟨A', c', B', d', rfl, ⟨hC, hc, hD, hd⟩, ⟨fun hp ad e => by
    obtain ⟨inner, ho⟩ := Kd.R_own r0
    exact own_base ho ad.block (by rw [e]; rfl), fun hp ad e => by
    obtain ⟨inner, ho⟩ := Kd.R_own r1
    exact own_base ho ad.block (by rw [e]; rfl)⟩, hb⟩

set_option maxHeartbeats 2000000 in
theorem dtable_some {w : World} {p : Nat} {ok : Nat → Prop} {l : List DW} (h : DocAt w p ok l) (nm : ByteArray) (hl : l.length ≤ 1000) (x : DW) (hx : findW l nm = some x) (z0 : x.m.now.length ≤ 1000000) (z1 : x.m.tags.length ≤ 1000000) :
    Calls Try.prog 26 #[.pointer (some ⟨p, 0, none⟩), .string nm] w fun e w' => ∃ A c B d, e = .returned (.tuple #[.agg #[.slice A x.m.now.length c, .slice B x.m.tags.length d], .bool true]) ∧
      (Kd.C k40 w' A x.m.now.length x.m.now ∧ x.m.now.length ≤ c ∧ Kd.C k42 w' B x.m.tags.length x.m.tags ∧ x.m.tags.length ≤ d) ∧ (InOk (fun k => w.heap.size ≤ k) A x.m.now.length ∧ InOk (fun k => w.heap.size ≤ k) B x.m.tags.length) ∧ Below w.heap.size w w' := by
  obtain ⟨W, hW⟩ : ∃ W, W = w.alloc (.cells #[.slice none 0 0, .slice none 0 0] 29) := ⟨_, rfl⟩
  have b1 : Below w.heap.size w W := by rw [hW]; exact (Below.refl _ _).alloc (Nat.le_refl _) _
  have k4 : Blk W w.heap.size #[.slice none 0 0, .slice none 0 0] 29 := by rw [hW]; exact Blk.new _ _ _
  have H := Lib.hid (h.below b1)
  have HW := Lib.hid hW
  have HX := Lib.hid hx
  clear hW h hx
  go_enter Try.func26, Try.ntmps26
  go_wp2_with fail
  rw [← HW.out]
  clear HW
  refine (find_calls H.out nm hl).mono ?_
  rintro e w2 ⟨rfl, rfl⟩
  rw [HX.out]
  obtain ⟨A0, c0, A1, c1, A2, c2, A3, c3, hk, ⟨_, _, q2, q3⟩, ⟨_, _, z2, z3⟩, _⟩ := H.out.ways x (List.mem_of_find?_eq_some HX.out)
  have d5 := hk.cell 5
  have d6 := hk.cell 6
  have Q2 := Lib.hid q2
  have Q3 := Lib.hid q3
  have K4 := Lib.hid k4
  have B1 := Lib.hid b1
  have f0 := k4.frozen 0
  have f1 := k4.frozen 1
  have e0 := k4.cell 0
  have e1 := k4.cell 1
  simp only [List.getElem?_toArray, List.getElem?_cons_zero, List.getElem?_cons_succ] at d5 d6 e0 e1
  clear hk q2 q3 k4 b1
  simp only [Option.map_some]
  go_wp2_with fail
  refine (copy_calls _ Q2.out z2 Q3.out z3 z0 z1).mono ?_
  rintro e w3 ⟨A', c', B', d', rfl, ⟨r0, l0, r1, l1⟩, ⟨i0, i1⟩, hb3⟩
  have k5 := K4.out.below hb3 K4.out.lt
  have f0 := k5.frozen 0
  have f1 := k5.frozen 1
  have e0 := k5.cell 0
  have e1 := k5.cell 1
  simp only [List.getElem?_toArray, List.getElem?_cons_zero, List.getElem?_cons_succ] at e0 e1
  have R0 := Lib.hid r0
  have R1 := Lib.hid r1
  have K5 := Lib.hid k5
  have HB3 := Lib.hid (B1.out.trans (hb3.mono B1.out.size))
  have I0 := Lib.hid i0
  have I1 := Lib.hid i1
  have zW : w.heap.size < w2.heap.size := K4.out.lt
  clear r0 r1 k5 hb3 i0 i1
  go_wp2_with fail
  have k6 := (K5.out.set 0 (.slice A' x.m.now.length c') (cs' := #[.slice A' x.m.now.length c', .slice none 0 0]) rfl).set 1 (.slice B' x.m.tags.length d') (cs' := #[.slice A' x.m.now.length c', .slice B' x.m.tags.length d']) rfl
  have g0 := k6.cell 0
  have g1 := k6.cell 1
  simp only [List.getElem?_toArray, List.getElem?_cons_zero, List.getElem?_cons_succ] at g0 g1
  have hcA : Chg (fun k => k = w.heap.size) w3 ((w3.setCell ⟨w.heap.size, 0, none⟩ (.slice A' x.m.now.length c')).setCell ⟨w.heap.size, 1, none⟩ (.slice B' x.m.tags.length d')) := ((Chg.refl (fun k => k = w.heap.size) w3).setCell (a := ⟨w.heap.size, 0, none⟩) (fun _ => rfl) _).setCell (a := ⟨w.heap.size, 1, none⟩) (fun _ => rfl) _
  exact bodyPost_ret (v := .tuple #[.agg #[.slice A' x.m.now.length c', .slice B' x.m.tags.length d'], .bool true]) (by simp [results, Try.results26, go_sem, g0, g1]) rfl ⟨A', c', B', d', rfl, ⟨c_chg R0.out I0.out hcA (fun k (hk : w2.heap.size ≤ k) _ (e : k = w.heap.size) => by omega), l0, ct_chg R1.out I1.out hcA (fun k (hk : w2.heap.size ≤ k) _ (e : k = w.heap.size) => by omega), l1⟩, ⟨I0.out.mono (fun k (hk : w2.heap.size ≤ k) _ _ _ _ => by omega), I1.out.mono (fun k (hk : w2.heap.size ≤ k) _ _ _ _ => by omega)⟩, hcA.below_of HB3.out HB3.out.size (fun k hk e => by omega)⟩

set_option maxHeartbeats 2000000 in
theorem dtable_none {w : World} {p : Nat} {ok : Nat → Prop} {l : List DW} (h : DocAt w p ok l) (nm : ByteArray) (hl : l.length ≤ 1000) (hx : findW l nm = none) :
    Calls Try.prog 26 #[.pointer (some ⟨p, 0, none⟩), .string nm] w fun e w' => e = .returned (.tuple #[.agg #[.slice none 0 0, .slice none 0 0], .bool false]) ∧ Below w.heap.size w w' := by
  obtain ⟨W, hW⟩ : ∃ W, W = w.alloc (.cells #[.slice none 0 0, .slice none 0 0] 29) := ⟨_, rfl⟩
  have b1 : Below w.heap.size w W := by rw [hW]; exact (Below.refl _ _).alloc (Nat.le_refl _) _
  have k4 : Blk W w.heap.size #[.slice none 0 0, .slice none 0 0] 29 := by rw [hW]; exact Blk.new _ _ _
  have H := Lib.hid (h.below b1)
  have HW := Lib.hid hW
  have HX := Lib.hid hx
  clear hW h hx
  go_enter Try.func26, Try.ntmps26
  go_wp2_with fail
  rw [← HW.out]
  clear HW
  refine (find_calls H.out nm hl).mono ?_
  rintro e w2 ⟨rfl, rfl⟩
  rw [HX.out]
  have K4 := Lib.hid k4
  have B1 := Lib.hid b1
  have f0 := k4.frozen 0
  have f1 := k4.frozen 1
  have e0 := k4.cell 0
  have e1 := k4.cell 1
  simp only [List.getElem?_toArray, List.getElem?_cons_zero, List.getElem?_cons_succ] at e0 e1
  clear k4 b1
  simp only [Option.map_none]
  go_wp2_with fail
  have k6 := (K4.out.set 0 (.slice none 0 0) (cs' := #[.slice none 0 0, .slice none 0 0]) rfl).set 1 (.slice none 0 0) (cs' := #[.slice none 0 0, .slice none 0 0]) rfl
  have g0 := k6.cell 0
  have g1 := k6.cell 1
  simp only [List.getElem?_toArray, List.getElem?_cons_zero, List.getElem?_cons_succ] at g0 g1
  have hcA : Chg (fun k => k = w.heap.size) w2 ((w2.setCell ⟨w.heap.size, 0, none⟩ (.slice none 0 0)).setCell ⟨w.heap.size, 1, none⟩ (.slice none 0 0)) := ((Chg.refl (fun k => k = w.heap.size) w2).setCell (a := ⟨w.heap.size, 0, none⟩) (fun _ => rfl) _).setCell (a := ⟨w.heap.size, 1, none⟩) (fun _ => rfl) _
  exact bodyPost_ret (v := .tuple #[.agg #[.slice none 0 0, .slice none 0 0], .bool false]) (by simp [results, Try.results26, go_sem, g0, g1]) rfl ⟨rfl, hcA.below_of B1.out B1.out.size (fun k hk e => by omega)⟩

end Go.Proofs.Ytnkmpkhiilnigaa.PA
