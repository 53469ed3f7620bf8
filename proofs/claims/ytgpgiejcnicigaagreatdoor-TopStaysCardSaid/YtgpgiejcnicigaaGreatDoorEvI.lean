/- The evaluator, part I: append. -/
import Derived.Test.YtgpgiejcnicigaaGreatDoorEvH
set_option linter.unusedSimpArgs false
set_option linter.unusedVariables false
namespace Go.Ev

theorem growBy_le (n : Nat) : ∀ (r c : Nat), Builtin.growBy n r c ≤ max c (n + (n + 768) / 4)
  | 0, c => Nat.le_max_left _ _
  | r + 1, c => by
    unfold Builtin.growBy
    split
    · exact Nat.le_max_left _ _
    · refine Nat.le_trans (growBy_le n r _) ?_
      have : c < n := by omega
      refine Nat.max_le.2 ⟨Nat.le_trans ?_ (Nat.le_max_right _ _), Nat.le_max_right _ _⟩
      have : (c + 768) / 4 ≤ (n + 768) / 4 := Nat.div_le_div_right (by omega)
      omega
theorem nextcap_le {need cap : Nat} (h : cap < need) : Builtin.nextslicecap need cap ≤ 2 * need + 200 := by
  unfold Builtin.nextslicecap
  split
  · omega
  · split
    · omega
    · refine Nat.le_trans (growBy_le need 4 cap) (Nat.max_le.2 ⟨by omega, by omega⟩)

/-- What is appended: how many, their cells. -/
noncomputable def srcA (P : Program) (h : Heap) (size : Nat) (tx : TypeId) : Value → Option (Nat × List Value)
  | .slice none 0 _ => match undA P tx with
    | some (.slice _) => some (0, [])
    | _ => none
  | .slice (some ⟨n, off, none⟩) len _ => match undA P tx with
    | some (.slice _) => if len = 0 then some (0, []) else match h.get n with
      | some (.cells ⟨cs⟩ _ _) => if off + len * size ≤ cs.length ∧ ((cs.drop off).take (len * size)).all oneA then some (len, (cs.drop off).take (len * size)) else none
      | _ => none
    | _ => none
  | _ => none

section
variable {P : Program} {ι : Map} {ρ ρ' : Operand → Value} {h : Heap} {w : World}

theorem slice_at {v : Value} {n off len cap : Nat} (hx : VR ι (.slice (some ⟨n, off, none⟩) len cap) v) (h0 : len ≠ 0) : ∃ x c, ι n = some x ∧ v = .slice (some ⟨x.b, off + x.δ, none⟩) len c := by
  rcases hx.slice_inv with ⟨hlt, y, hy, ev⟩ | ⟨e0, _⟩ | ⟨sz', y, c, o, ec, hy, h1, h2, h3, ev⟩
  · exact ⟨y, _, hy, ev⟩
  · omega
  · refine ⟨y, c, hy, ?_⟩
    rw [ev]
    rcases h3 with h3 | h3
    · omega
    · rw [h3]
theorem src_sound (r : Rl ι h w) {size : Nat} {tx : TypeId} {v v' : Value} {n : Nat} {news : List Value} (e : srcA P h size tx v = some (n, news)) (hv : VR ι v v') :
    ∃ news', Src P size tx v' n news' w ∧ VRL ι news news' := by
  unfold srcA at e
  simp only [undA_eq] at e
  split at e
  · rename_i c
    split at e
    · rename_i et hu
      cases e
      rw [hv.slice0_inv]
      exact ⟨[], .ofNil w hu _, .nil⟩
    · cases e
  · rename_i m off len cap
    split at e
    · rename_i et hu
      split at e
      · rename_i h0
        cases e
        obtain ⟨a', c, ev⟩ := slice_some hv
        rw [ev, h0]
        exact ⟨[], .ofSlice w hu a' 0 c [] (by simp) (fun j u hj => by simp at hj) (fun _ hm => by cases hm), .nil⟩
      · rename_i h0
        split at e
        · rename_i cs t fz hn
          split at e
          · rename_i hb
            cases e
            obtain ⟨x, c, hx, ev⟩ := slice_at hv h0
            obtain ⟨vs', h1, h2, h3⟩ := r.range hn hx off (n * size) hb.1
            rw [ev]
            exact ⟨vs', .ofSlice w hu _ n c vs' h1 (fun j u hj => by rw [add_none]; exact h2 j u hj) (oneA_all hb.2 h3), h3⟩
          · cases e
        · cases e
    · cases e
  · cases e
end

noncomputable def appA (P : Program) (h : Heap) (c : Nat) (t tx : TypeId) (s x : Value) : Option (Value × Heap × Nat) :=
  match undA P t with
  | some (.slice e) => match infoA P e with
    | some i => match i.zero with
      | some z => match cellsA z with
        | some zs => if plainV z ∧ zs.length = i.size ∧ i.bytes < 65536 then
          match srcA P h i.size tx x with
          | some (n, news) =>
            match s with
            | .slice none 0 0 => if n = 0 then some (s, h, c) else if n < 65536 then putR h c (.cells ⟨news⟩ e (0, 0)) (.slice (some ⟨c, 0, none⟩) n (OPEN + i.size)) (c + 1) else none
            | .slice (some ⟨m, off, none⟩) len cap =>
              if n = 0 then (if len ≤ cap then some (s, h, c) else none) else
              if len + n < 65536 then
                if len = 0 ∧ cap = 0 then putR h c (.cells ⟨news⟩ e (0, 0)) (.slice (some ⟨c, 0, none⟩) n (OPEN + i.size)) (c + 1) else
                match h.get m with
                | some (.cells ⟨cs⟩ t' (0, 0)) =>
                  if off + len * i.size ≤ cs.length then
                    if OP cap then
                      if cap = OPEN + i.size ∧ fits m ∧ t' = e then
                        T.setK D h m none fun h1 => putR h1 c (.cells ⟨(cs.drop off).take (len * i.size) ++ news⟩ t' (0, 0)) (.slice (some ⟨c, 0, none⟩) (len + n) (OPEN + i.size)) (c + 1)
                      else none
                    else if len + n ≤ cap then
                      if off + len * i.size + news.length ≤ cs.length ∧ news.all oneA then putR h m (.cells ⟨putL cs (off + len * i.size) news⟩ t' (0, 0)) (.slice (some ⟨m, off, none⟩) (len + n) cap) c else none
                    else putR h c (.cells ⟨(cs.drop off).take (len * i.size) ++ news⟩ e (0, 0)) (.slice (some ⟨c, 0, none⟩) (len + n) (OPEN + i.size)) (c + 1)
                  else none
                | _ => none
              else none
            | _ => none
          | none => none
          else none
        | none => none
      | none => none
    | none => none
  | _ => none

section
variable {P : Program} {ι : Map} {ρ ρ' : Operand → Value} {h : Heap} {w : World}

/-- Nothing is appended. -/
theorem append_none {t tx ty e : TypeId} {i : TypeInfo} {x : Value} {news : List Value} (ht : P.underlying t = some (.slice e)) (hi : P.info? e = some i) (hs : Src P i.size tx x 0 news w) (a : Option Addr) (len cap : Nat) (hle : len ≤ cap) :
    (Builtin.append_ #[t, tx] ty #[.slice a len cap, x]).run P w = .ok (.slice a len cap) w := by
  have hn : news = [] := List.eq_nil_of_length_eq_zero (by rw [hs.newsLen, Nat.zero_mul])
  subst hn
  rcases hs.kind with ⟨e', hk⟩ | hk <;> cases a <;>
    simp [Builtin.append_, run_underlying ht, run_underlying hk, sizeOf, typeInfo, hi, hs.len, hle, hs.cells, storeCells]

/-- A row is made anew. -/
theorem append_grow (r : Rl ι h w) {c : Nat} (a : Above ι c) (hf : fits c = true) {t tx ty e : TypeId} {i : TypeInfo} {z : Value} {zs : List Value} (ht : P.underlying t = some (.slice e)) (hi : P.info? e = some i) (hz : i.zero = some z)
    (hzs : z.cells = ⟨zs⟩) (hzl : zs.length = i.size) (hby : i.bytes < 65536) (base : Option Addr) (sLen sCap : Nat) {olds olds' news news' : List Value} {x : Value} {n : Nat}
    (hold : (Builtin.firstCells i.size sLen (.slice base sLen sCap)).run P w.drew = .ok olds'.toArray w.drew) (hol : VRL ι olds olds') (hlen : olds'.length = sLen * i.size)
    (hs : Src P i.size tx x n news' w) (hnl : VRL ι news news') (hg : sCap < sLen + n) (hsmall : sLen + n < 65536) :
    ∃ ι' w' v', (Builtin.append_ #[t, tx] ty #[.slice base sLen sCap, x]).run P w = .ok v' w' ∧ VR ι' (.slice (some ⟨c, 0, none⟩) (sLen + n) (OPEN + i.size)) v' ∧
      Rl ι' (h.put c (.cells ⟨olds ++ news⟩ e (0, 0))) w' ∧ Above ι' (c + 1) ∧ Tr ι h c w ι' (h.put c (.cells ⟨olds ++ news⟩ e (0, 0))) (c + 1) w' := by
  have hcap := nextcap_le hg
  have hfit : Builtin.nextslicecap (sLen + n) sCap * i.bytes ≤ 281474976710656 := by
    have : Builtin.nextslicecap (sLen + n) sCap * i.bytes ≤ 131500 * 65536 := Nat.mul_le_mul (by omega) (by omega)
    omega
  have hrun := run_append_grow_src (ty := ty) w t tx e i z ht hi hz base sLen sCap olds' hold x n news' hs hg (by omega) hfit
  have hge := grownCap_ge w (sLen + n) sCap e
  have hn := a c (Nat.le_refl _)
  let G := grownCap w (sLen + n) sCap e
  let tail := Builtin.zeroCells z.cells (G - (sLen + n))
  let row : Array Value := (olds' ++ news').toArray ++ tail
  have htail : tail.size = (G - (sLen + n)) * i.size := by
    show (Builtin.zeroCells z.cells (G - (sLen + n))).size = _
    rw [hzs]
    simp [Builtin.zeroCells, hzl]
  have hrow : row.size = G * i.size := by
    have h1 : row.size = olds'.length + news'.length + tail.size := by simp [row]
    rw [h1, htail, hlen, hs.newsLen, ← Nat.add_mul, ← Nat.add_mul]
    congr 1
    have : sLen + n ≤ G := hge
    omega
  let x0 : Blk := ⟨w.drew.heap.size, row.size, 0⟩
  have e0 : x0.b = w.heap.size := rfl
  have ho : OR (upd ι c x0) x0 (.cells ⟨olds ++ news⟩ e (0, 0)) (.cells row e) := by
    have : row = ⟨(olds' ++ news') ++ tail.toList⟩ := by apply Array.ext'; simp [row]
    have hk : x0.κ = ((olds' ++ news') ++ tail.toList).length := by
      show row.size = _
      rw [this]; rfl
    rw [this]
    refine .cells hk.symm (fun j v hj => ?_) (fun o ho => by simp)
    have hv : VRL (upd ι c x0) (olds ++ news) (olds' ++ news') := (VRL.app hnl hol).mono (upd_ext _ hn)
    obtain ⟨v', h1, h2⟩ := hv.get hj
    refine ⟨v', ?_, h2⟩
    show ((olds' ++ news') ++ tail.toList)[j + 0]? = some v'
    rw [Nat.add_zero, List.getElem?_append_left (List.getElem?_eq_some_iff.1 h1).1]
    exact h1
  refine ⟨upd ι c x0, _, _, hrun, ?_, Rl.new r.drew hf hn ho, a.new _, Tr.trans (b := Tr.new hf hn) Tr.drew⟩
  refine .opn (x := x0) (upd_same _ _ _) hge ?_ (.inr ?_)
  · show 0 + G * i.size ≤ row.size
    omega
  · show 0 = 0 + 0
    rfl

theorem app_sound (r : Rl ι h w) {c c' : Nat} (a : Above ι c) {t tx ty : TypeId} {s x s' x' u : Value} {h' : Heap} (hs : VR ι s s') (hx : VR ι x x') (e : appA P h c t tx s x = some (u, h', c')) :
    ∃ ι' w' v', (Builtin.append_ #[t, tx] ty #[s', x']).run P w = .ok v' w' ∧ VR ι' u v' ∧ Rl ι' h' w' ∧ Above ι' c' ∧ Tr ι h c w ι' h' c' w' := by
  unfold appA at e
  simp only [undA_eq, infoA_eq] at e
  split at e
  · rename_i et hu
    split at e
    · rename_i i hi
      split at e
      · rename_i z hz
        split at e
        · rename_i zs hzc
          split at e
          · rename_i hb
            obtain ⟨hp, hzl, hby⟩ := hb
            obtain ⟨hzs, _⟩ := plainV_cells hp hzc
            split at e
            · rename_i n news hsrc
              obtain ⟨news', hS, hnl⟩ := src_sound r hsrc hx
              have hnews : news.length = n * i.size := by rw [← hnl.length, hS.newsLen]
              split at e
              · -- nil
                have es := hs.slice0_inv
                subst es
                split at e
                · rename_i h0
                  cases e
                  subst h0
                  exact ⟨ι, w, _, append_none hu hi hS none 0 0 (Nat.le_refl _), hs, r, a, .refl _ _ _ _⟩
                · rename_i h0
                  split at e
                  · rename_i hsm
                    obtain ⟨hf, er⟩ := putR_eq e
                    cases er
                    have := append_grow (ty := ty) r a hf hu hi hz hzs hzl hby none 0 0 (olds := []) (olds' := []) (run_firstCells_none w.drew i.size 0 0 0) .nil (by simp) hS hnl (by omega) (by omega)
                    simpa using this
                  · cases e
              · rename_i m off len cap
                split at e
                · rename_i h0
                  split at e
                  · rename_i hle
                    cases e
                    subst h0
                    have : ∃ a' c', s' = .slice a' len c' ∧ len ≤ c' := by
                      rcases hs.slice_inv with ⟨hlt, y, hy, ev⟩ | ⟨e0, e1, a', ev⟩ | ⟨sz', y, cc, o, ec, hy, h1, h2, h3, ev⟩
                      · exact ⟨_, _, ev, hle⟩
                      · exact ⟨_, _, by rw [ev, e0], by omega⟩
                      · exact ⟨_, _, ev, h1⟩
                    obtain ⟨a', cc, ev, hle'⟩ := this
                    subst ev
                    exact ⟨ι, w, _, append_none hu hi hS a' len cc hle', hs, r, a, .refl _ _ _ _⟩
                  · cases e
                · rename_i h0
                  split at e
                  · rename_i hsm
                    split at e
                    · rename_i h00
                      obtain ⟨hf, er⟩ := putR_eq e
                      cases er
                      obtain ⟨rfl, rfl⟩ := h00
                      have : ∃ a', s' = .slice (some a') 0 0 := by
                        rcases hs.slice_inv with ⟨hlt, y, hy, ev⟩ | ⟨e0, e1, a', ev⟩ | ⟨sz', y, cc, o, ec, hy, h1, h2, h3, ev⟩
                        · exact ⟨_, ev⟩
                        · exact ⟨_, ev⟩
                        · have hO : OPEN = 18446744073709551616 := rfl
                          omega
                      obtain ⟨a', ev⟩ := this
                      subst ev
                      have hold : (Builtin.firstCells i.size 0 (.slice (some a') 0 0)).run P w.drew = .ok ([] : List Value).toArray w.drew := run_firstCells_some w.drew i.size 0 a' 0 0 [] (by simp) (fun j v hj => by simp at hj)
                      have := append_grow (ty := ty) r a hf hu hi hz hzs hzl hby (some a') 0 0 (olds := []) (olds' := []) hold .nil (by simp) hS hnl (by omega) (by omega)
                      simpa using this
                    · rename_i h00
                      split at e
                      · rename_i cs et' hn
                        split at e
                        · rename_i hle
                          split at e
                          · rename_i hop
                            split at e
                            · rename_i hc
                              obtain ⟨hcc, hfm, het⟩ := hc
                              subst het
                              rw [T.setK_eq] at e
                              obtain ⟨hf, er⟩ := putR_eq e
                              cases er
                              have hO : OPEN = 18446744073709551616 := rfl
                              rcases hs.slice_inv with ⟨hlt, _⟩ | ⟨_, e1, _⟩ | ⟨sz', y, cc, o, ec, hy, h1, h2, h3, ev⟩
                              · omega
                              · omega
                              · have es : sz' = i.size := by omega
                                subst es
                                subst ev
                                obtain ⟨a', fz', hw, hl, hcr, hz9⟩ := r.cells hn hy
                                have holds : ∃ vs', vs'.length = len * i.size ∧ w.rangeAt y.b o vs' ∧ VRL ι ((cs.drop off).take (len * i.size)) vs' := by
                                  rcases h3 with h3 | h3
                                  · subst h3
                                    exact ⟨[], by simp, fun j v hj => by simp at hj, by simpa using VRL.nil⟩
                                  · rw [h3]; exact r.range hn hy off (len * i.size) hle
                                obtain ⟨vs', g1, g2, g3⟩ := holds
                                have hco : ((cs.drop off).take (len * i.size)).length = len * i.size := by rw [← g3.length, g1]
                                by_cases hroom : len + n ≤ cc
                                · have hmul : (len + n) * i.size ≤ cc * i.size := Nat.mul_le_mul_right _ hroom
                                  have hmul2 : (len + n) * i.size = len * i.size + n * i.size := Nat.add_mul _ _ _
                                  have hnl' : news'.length = n * i.size := hS.newsLen
                                  have hrun := run_append_room_src (ty := ty) w t tx et' i hu hi y.b o len cc x' n news' hS hroom (fun j hj => by
                                    have : o + len * i.size + j < a'.length := by omega
                                    simp [World.cell?, hw, this]) (fun j hj => by
                                    have := hz9 (o + len * i.size + j) (by omega)
                                    simpa [World.frozen?, hw] using this)
                                  have hset := setCells_eq news' a' (o + len * i.size) w y.b et' fz' hw
                                  rw [hset] at hrun
                                  have hn0 := a c (Nat.le_refl _)
                                  have ho : OR (upd ι c ⟨y.b, y.κ, o⟩) ⟨y.b, y.κ, o⟩ (.cells ⟨(cs.drop off).take (len * i.size) ++ news⟩ et' (0, 0)) (.cells ⟨putL a' (o + len * i.size) news'⟩ et' fz') := by
                                    refine .cells (by rw [putL_length]; exact hl) (fun j v hj => ?_) hz9
                                    by_cases hjl : j < len * i.size
                                    · rw [List.getElem?_append_left (by omega)] at hj
                                      obtain ⟨v', k1, k2⟩ := g3.get hj
                                      have hj2 := g2 j v' k1
                                      refine ⟨v', ?_, k2.mono (upd_ext _ hn0)⟩
                                      rw [putL_lt _ _ _ _ (by simp only; omega)]
                                      have : w.cell? ⟨y.b, o + j, none⟩ = a'[o + j]? := by simp [World.cell?, hw]
                                      rw [Nat.add_comm j o, ← this, hj2]
                                    · rw [List.getElem?_append_right (by omega), hco] at hj
                                      obtain ⟨v', k1, k2⟩ := hnl.get hj
                                      refine ⟨v', ?_, k2.mono (upd_ext _ hn0)⟩
                                      have hjn : j - len * i.size < news'.length := (List.getElem?_eq_some_iff.1 k1).1
                                      have := putL_in news' a' (o + len * i.size) (j - len * i.size) hjn (by omega)
                                      rw [k1] at this
                                      rw [← this]
                                      congr 1
                                      simp only
                                      omega
                                  exact ⟨upd ι c ⟨y.b, y.κ, o⟩, _, _, hrun, .opn (x := ⟨y.b, y.κ, o⟩) (upd_same _ _ _) hroom h2 (.inr (by show o = 0 + o; omega)), r.move a hfm hf hn hy ho, a.new _, .move a hfm hf hn hy⟩
                                · have hold : (Builtin.firstCells i.size len (.slice (some ⟨y.b, o, none⟩) len cc)).run P w.drew = .ok vs'.toArray w.drew :=
                                    run_firstCells_some w.drew i.size len _ len cc vs' g1 (fun j v hj => by rw [add_none]; exact g2 j v hj)
                                  obtain ⟨ι', w', v', k1, k2, k3, k4, k5⟩ := append_grow (ty := ty) (r.del hfm) a hf hu hi hz hzs hzl hby _ len cc hold g3 g1 hS hnl (by omega) (by omega)
                                  exact ⟨ι', w', v', k1, k2, k3, k4, Tr.trans (Tr.del hfm) k5⟩
                            · cases e
                          · rename_i hop
                            have hlt := OP_not hop
                            have : ∃ y, ι m = some y ∧ s' = .slice (some ⟨y.b, off + y.δ, none⟩) len cap := by
                              rcases hs.slice_inv with ⟨_, y, hy, ev⟩ | ⟨e0, e1, _⟩ | ⟨sz', y, cc, o, ec, _⟩
                              · exact ⟨y, hy, ev⟩
                              · exact absurd ⟨e0, e1⟩ h00
                              · omega
                            obtain ⟨y, hy, ev⟩ := this
                            subst ev
                            split at e
                            · rename_i hroom
                              split at e
                              · rename_i hin
                                obtain ⟨hf, er⟩ := putR_eq e
                                cases er
                                obtain ⟨hst, hR, hT⟩ := store_cells (P := P) r hn hy hin.1 hnl hin.2 hf c
                                obtain ⟨a', fz', hw, hl, hcr, hz9⟩ := r.cells hn hy
                                have ea : off + len * i.size + y.δ = off + y.δ + len * i.size := by omega
                                rw [ea] at hst hR hT
                                have hlen' : news'.length = news.length := hnl.length
                                have hrun := run_append_room_src (ty := ty) w t tx et i hu hi y.b (off + y.δ) len cap x' n news' hS hroom (fun j hj => by
                                  obtain ⟨v, hv2⟩ : ∃ v, cs[off + len * i.size + j]? = some v := ⟨_, List.getElem?_eq_getElem (by omega)⟩
                                  obtain ⟨v', h1, _⟩ := r.cell hn hy hv2
                                  rw [show off + y.δ + len * i.size + j = off + len * i.size + j + y.δ by omega, h1]; rfl) (fun j hj => by
                                  obtain ⟨v, hv2⟩ : ∃ v, cs[off + len * i.size + j]? = some v := ⟨_, List.getElem?_eq_getElem (by omega)⟩
                                  obtain ⟨v', h2, _⟩ := hcr _ v hv2
                                  have hlt2 := (List.getElem?_eq_some_iff.1 h2).1
                                  have := hz9 (off + y.δ + len * i.size + j) (by omega)
                                  simpa [World.frozen?, hw] using this)
                                exact ⟨ι, _, _, hrun, .slice hlt hy, hR, a, hT⟩
                              · cases e
                            · rename_i hroom
                              obtain ⟨hf, er⟩ := putR_eq e
                              cases er
                              obtain ⟨vs', h1, h2, h3⟩ := r.range hn hy off (len * i.size) hle
                              have hold : (Builtin.firstCells i.size len (.slice (some ⟨y.b, off + y.δ, none⟩) len cap)).run P w.drew = .ok vs'.toArray w.drew :=
                                run_firstCells_some w.drew i.size len _ len cap vs' h1 (fun j v hj => by rw [add_none]; exact h2 j v hj)
                              exact append_grow (ty := ty) r a hf hu hi hz hzs hzl hby _ len cap hold h3 h1 hS hnl (by omega) (by omega)
                        · cases e
                      · cases e
                  · cases e
              · cases e
            · cases e
          · cases e
        · cases e
      · cases e
    · cases e
  · cases e
end
end Go.Ev
