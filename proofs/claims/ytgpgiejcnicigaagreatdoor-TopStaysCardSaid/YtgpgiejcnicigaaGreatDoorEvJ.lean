/- The evaluator, part J: all operations that turn memory. -/
import Derived.Test.YtgpgiejcnicigaaGreatDoorEvI
set_option linter.unusedSimpArgs false
set_option linter.unusedVariables false
namespace Go.Ev

noncomputable def storeA (P : Program) (h : Heap) (c : Nat) (t : TypeId) (a v : Value) : Option (Value × Heap × Nat) :=
  match a with
  | .pointer (some ⟨n, off, none⟩) => match h.get n with
    | some (.cells ⟨cs⟩ e (0, 0)) => match cellsA v, sizeT P t with
      | some vs, some sz => if vs.length = sz ∧ off + vs.length ≤ cs.length ∧ vs.all oneA then putR h n (.cells ⟨putL cs off vs⟩ e (0, 0)) undef c else none
      | _, _ => none
    | _ => none
  | _ => none
noncomputable def deleteA (P : Program) (h : Heap) (c : Nat) (t : TypeId) (m k : Value) : Option (Value × Heap × Nat) :=
  match undA P t with
  | some (.map kt _) => match m with
    | .map (some n) => match h.get n with
      | some (.map ⟨es⟩ clock) => match findA P kt k es with
        | some (some (i, _)) => putR h n (.map ⟨es.eraseIdx i⟩ clock) undef c
        | some none => putR h n (.map ⟨es⟩ clock) undef c
        | none => none
      | _ => none
    | _ => none
  | _ => none
noncomputable def rangeA (P : Program) (h : Heap) (c : Nat) (t : TypeId) (x : Value) : Option (Value × Heap × Nat) :=
  match x, undA P t with
  | .string s, some .string => putR h c (.stringIter s 0) (.pointer (some ⟨c, 0, none⟩)) (c + 1)
  | .map none, some (.map _ _) => putR h c (.mapIter none 0 #[] 0) (.pointer (some ⟨c, 0, none⟩)) (c + 1)
  | .map (some n), some (.map _ _) => match h.get n with
    | some (.map _ clock) => putR h c (.mapIter (some n) clock #[] clock) (.pointer (some ⟨c, 0, none⟩)) (c + 1)
    | _ => none
  | _, _ => none
noncomputable def nextA (h : Heap) (c : Nat) (it : Value) (str : Bool) : Option (Value × Heap × Nat) :=
  match it with
  | .pointer (some ⟨n, 0, none⟩) => match h.get n, str with
    | some (.stringIter s pos), true =>
      if pos < s.size then
        match Utf8.decode s pos with
        | (r, width) => putR h n (.stringIter s (pos + width)) (.tuple ⟨[.bool true, .int .i64 pos, .int .i32 r]⟩) c
      else some (.tuple ⟨[.bool false]⟩, h, c)
    | some (.mapIter none _ _ _), false => some (.tuple ⟨[.bool false]⟩, h, c)
    | some (.mapIter (some m) since seen last), false => match h.get m with
      | some (.map ⟨es⟩ clock) => match es with
        | [] => some (.tuple ⟨[.bool false]⟩, h, c)
        | [e] => if (!seen.isEmpty && decide (e.born ≥ last)) then none else
          if seen.contains e.born then some (.tuple ⟨[.bool false]⟩, h, c) else
          if e.born < since then (if keyS e.key then putR h n (.mapIter (some m) since (seen.push e.born) clock) (.tuple ⟨[.bool true, e.key, e.val]⟩) c else none) else none
        | _ => none
      | _ => none
    | _, _ => none
  | _ => none

noncomputable def bytesIn (P : Program) (h : Heap) (c : Nat) (src dst : TypeId) (x : Value) : Option (Value × Heap × Nat) :=
  match x, undA P src, undA P dst with
  | .string s, some .string, some (.slice e) => match undA P e with
    | some (.int .u8) => putR h c (.cells ⟨s.data.toList.map fun b => .int .u8 b.toNat⟩ e (0, 0)) (.slice (some ⟨c, 0, none⟩) s.size (OPEN + 1)) (c + 1)
    | _ => none
  | _, _, _ => none

noncomputable def chainOp (P : Program) (ρ : Operand → Value) (h : Heap) (c : Nat) : Op → Option (Value × Heap × Nat)
  | .store t a x => storeA P h c t (ρ a) (ρ x)
  | .mapUpdate t m k v => updA P ρ h c t m k v
  | .insert t m k v => updA P ρ h c t m k v
  | .call { callee := .builtin .delete, args := ⟨[m, k]⟩, argTypes := ⟨t :: _⟩ } => deleteA P h c t (ρ m) (ρ k)
  | .call { callee := .builtin .append, args := ⟨[s, x]⟩, argTypes := ⟨[t, tx]⟩ } => appA P h c t tx (ρ s) (ρ x)
  | .range t x => rangeA P h c t (ρ x)
  | .convert src dst x => bytesIn P h c src dst (ρ x)
  | .next it s => nextA h c (ρ it) s
  | _ => none

section
variable {P : Program} {ι : Map} {ρ ρ' : Operand → Value} {h : Heap} {w : World}
theorem store_sound (r : Rl ι h w) {c c' : Nat} (ac : Above ι c) {t : TypeId} {a v a' v' u : Value} {h' : Heap} (ha : VR ι a a') (hv : VR ι v v') (e : storeA P h c t a v = some (u, h', c')) :
    Good ι h c w ((do Instr.storeAt t a' v'; pure .skip : Sem Next).run P w) u h' c' := by
  unfold storeA at e
  split at e
  · rename_i n off
    obtain ⟨x, hx, ev⟩ := ha.ptr_inv
    split at e
    · rename_i cs et hn
      split at e
      · rename_i vs sz hvs hsz
        split at e
        · rename_i hb
          obtain ⟨hb1, hb2, hb3⟩ := hb
          obtain ⟨hf, er⟩ := putR_eq e
          cases er
          obtain ⟨vs', g1, g2⟩ := cellsA_sound hvs hv
          obtain ⟨k1, k2, k3⟩ := store_cells (P := P) r hn hx hb2 g2 hb3 hf c
          refine ⟨ι, _, undef, .inr ⟨?_, rfl, rfl⟩, .tuple .nil, k2, ac, k3⟩
          rw [ev]
          have hs : v'.cells.size = sz := by rw [g1]; show vs'.length = sz; rw [g2.length]; exact hb1
          simp only [Instr.storeAt, Instr.sureAddr, Sem.run_bind, Sem.run_pure, Result.andThen_ok, storeVar, run_sizeT hsz]
          rw [if_neg (by simp [hs]), g1]
          show ((storeCells ⟨x.b, off + x.δ, none⟩ vs').run P w).andThen _ = _
          rw [k1]; rfl
        · cases e
      · cases e
    · cases e
  · cases e
theorem delete_sound (r : Rl ι h w) {c c' : Nat} (ac : Above ι c) {t : TypeId} {ts : List TypeId} {ty : TypeId} {m k m' k' u : Value} {h' : Heap} (hm : VR ι m m') (hk : VR ι k k') (e : deleteA P h c t m k = some (u, h', c')) :
    Good ι h c w ((do pure (.value (← Builtin.delete_ ⟨t :: ts⟩ ty #[m', k'])) : Sem Next).run P w) u h' c' := by
  unfold deleteA at e
  simp only [undA_eq] at e
  split at e
  · rename_i kt et hu
    split at e
    · rename_i n
      obtain ⟨x, hx, ev⟩ := hm.map_inv
      split at e
      · rename_i es clock hn
        obtain ⟨es', hw, hmr⟩ := r.map hn hx
        split at e
        · rename_i i v0 hf
          obtain ⟨hfit, er⟩ := putR_eq e
          cases er
          obtain ⟨ek, hck, ⟨e1, _⟩ | ⟨j', v1, v', e1, hv', hfk⟩⟩ := find_run (b := es'.isEmpty) hf hmr hk
          · cases e1
          · cases e1
            refine ⟨ι, w.putObj x.b (.map ⟨es'.eraseIdx i⟩ clock), undef, .inl ?_, .tuple .nil, r.put hfit hn hx (.map (hmr.erase i)), ac, .put hfit hn hx⟩
            rw [ev]
            have hst := run_setMap (P := P) (o' := .map ((⟨es'⟩ : Array MapEntry).eraseIdxIfInBounds i) clock) hw (fun _ _ _ => by simp)
            have he : (⟨es'⟩ : Array MapEntry).eraseIdxIfInBounds i = ⟨es'.eraseIdx i⟩ := by apply Array.ext'; simp
            refine lift_run2 ?_
            have hem : (⟨es'⟩ : Array MapEntry).isEmpty = es'.isEmpty := by simp
            simp only [Builtin.delete_, Sem.run_bind, run_underlying hu, Result.andThen_ok, run_getMap hw, List.getElem?_toArray, List.getElem?_cons_zero, List.getElem?_cons_succ, hem, hck, hfk]
            show ((setObj x.b (.map ((⟨es'⟩ : Array MapEntry).eraseIdxIfInBounds i) clock)).run P w).andThen _ = _
            rw [hst, he]; rfl
        · rename_i hf
          obtain ⟨hfit, er⟩ := putR_eq e
          cases er
          obtain ⟨ek, hck, ⟨e1, hfk⟩ | ⟨j', v1, v', e1, hv', hfk⟩⟩ := find_run (b := es'.isEmpty) hf hmr hk
          · refine ⟨ι, w.putObj x.b (.map ⟨es'⟩ clock), undef, .inl ?_, .tuple .nil, r.put hfit hn hx (.map hmr), ac, .put hfit hn hx⟩
            rw [ev]
            have hst := run_setMap (P := P) (o' := .map (⟨es'⟩ : Array MapEntry) clock) hw (fun _ _ _ => by simp)
            refine lift_run2 ?_
            have hem : (⟨es'⟩ : Array MapEntry).isEmpty = es'.isEmpty := by simp
            simp only [Builtin.delete_, Sem.run_bind, run_underlying hu, Result.andThen_ok, run_getMap hw, List.getElem?_toArray, List.getElem?_cons_zero, List.getElem?_cons_succ, hem, hck, hfk]
            show ((setObj x.b (.map (⟨es'⟩ : Array MapEntry) clock)).run P w).andThen _ = _
            rw [hst]; rfl
          · cases e1
        · cases e
      · cases e
    · cases e
  · cases e
theorem range_sound (r : Rl ι h w) {c c' : Nat} (ac : Above ι c) {t : TypeId} {x x' u : Value} {h' : Heap} (hx : VR ι x x') (e : rangeA P h c t x = some (u, h', c')) :
    Good ι h c w ((do pure (.value (← Instr.range t x')) : Sem Next).run P w) u h' c' := by
  have go : ∀ o o' : Obj, (∀ b, b.δ = 0 → OR (upd ι c b) b o o') → fits c = true → (Instr.range t x').run P w = .ok (.pointer (some ⟨w.heap.size, 0, none⟩)) { w with heap := w.heap.push o' } →
      Good ι h c w ((do pure (.value (← Instr.range t x')) : Sem Next).run P w) (.pointer (some ⟨c, 0, none⟩)) (h.put c o) (c + 1) := by
    intro o o' ho hf hr
    have hn := ac c (Nat.le_refl _)
    exact ⟨upd ι c ⟨w.heap.size, 0, 0⟩, _, .pointer (some ⟨w.heap.size, 0, none⟩), .inl (lift_run2 hr), .ptr (x := ⟨w.heap.size, 0, 0⟩) (upd_same _ _ _), r.new hf hn (ho _ rfl), ac.new _, .new hf hn⟩
  unfold rangeA at e
  simp only [undA_eq] at e
  split at e
  · rename_i s hu
    obtain ⟨hf, er⟩ := putR_eq e
    cases er
    refine go _ (.stringIter s 0) (fun b hb => .stringIter s 0 hb) hf ?_
    rw [hx.string_inv]
    simp [Instr.range, run_underlying hu]
  · rename_i a b hu
    obtain ⟨hf, er⟩ := putR_eq e
    cases er
    refine go _ (.mapIter none 0 #[] 0) (fun b hb => .mapIter0 hb) hf ?_
    rw [hx.map0_inv]
    simp [Instr.range, run_underlying hu]
  · rename_i n a b hu
    obtain ⟨y, hy, ev⟩ := hx.map_inv
    split at e
    · rename_i es clock hn
      obtain ⟨hf, er⟩ := putR_eq e
      cases er
      obtain ⟨es⟩ := es
      obtain ⟨es', hw, hmr⟩ := r.map hn hy
      refine go _ (.mapIter (some y.b) clock #[] clock) (fun b hb => .mapIter hb (upd_ext _ (ac c (Nat.le_refl _)) _ _ hy)) hf ?_
      rw [ev]
      simp [Instr.range, run_underlying hu, run_getMap hw]
    · cases e
  · cases e
theorem next_sound (r : Rl ι h w) {c c' : Nat} (ac : Above ι c) {it it' u : Value} {str : Bool} {ty : TypeId} {h' : Heap} (hi : VR ι it it') (e : nextA h c it str = some (u, h', c')) :
    Good ι h c w ((do pure (.value (← Instr.next it' str ty)) : Sem Next).run P w) u h' c' := by
  unfold nextA at e
  split at e
  · rename_i n
    obtain ⟨y, hy, ev⟩ := hi.ptr_inv
    have over : (Instr.next it' str ty).run P w = .ok (.tuple #[.bool false]) w → h' = h → c' = c → u = .tuple ⟨[.bool false]⟩ →
        Good ι h c w ((do pure (.value (← Instr.next it' str ty)) : Sem Next).run P w) u h' c' := by
      intro h1 h2 h3 h4
      subst h2 h3 h4
      exact ⟨ι, w, _, .inl (lift_run2 h1), .tuple (.cons (.bool _) .nil), r, ac, .refl _ _ _ _⟩
    split at e
    · rename_i s pos hn
      obtain ⟨x, o', hx, hw, ho⟩ := r.obj n _ hn
      rw [hy] at hx; cases hx
      cases ho with
      | stringIter _ _ hd =>
        have e0 : 0 + y.δ = 0 := by omega
        rw [e0] at ev
        have hg : (getObj y.b).run P w = .ok (.stringIter s pos) w := by simp [getObj, Sem.run, hw]
        split at e
        · rename_i hp
          obtain ⟨hf, er⟩ := putR_eq e
          cases er
          have hst := run_setMap (P := P) (o' := .stringIter s (pos + (Utf8.decode s pos).2)) hw (fun _ _ _ => by simp)
          refine ⟨ι, _, _, .inl (lift_run2 ?_), .tuple (.cons (.bool _) (.cons (.int _ _) (.cons (.int _ _) .nil))), r.put hf hn hy (.stringIter s _ hd), ac, .put hf hn hy⟩
          rw [ev]
          simp only [Instr.next, Sem.run_bind, hg, Result.andThen_ok, if_pos hp, hst]
          rfl
        · rename_i hp
          cases e
          refine over ?_ rfl rfl rfl
          rw [ev]
          simp only [Instr.next, Sem.run_bind, hg, Result.andThen_ok, if_neg hp]
          rfl
    · rename_i since seen st hn
      obtain ⟨x, o', hx, hw, ho⟩ := r.obj n _ hn
      rw [hy] at hx; cases hx
      cases ho with
      | mapIter0 hd =>
        have e0 : 0 + y.δ = 0 := by omega
        rw [e0] at ev
        have hg : (getObj y.b).run P w = .ok (.mapIter none since seen st) w := by simp [getObj, Sem.run, hw]
        cases e
        refine over ?_ rfl rfl rfl
        rw [ev]
        simp only [Instr.next, Sem.run_bind, hg, Result.andThen_ok]
        rfl
    · rename_i m since seen last hn
      obtain ⟨x, o', hx, hw, ho⟩ := r.obj n _ hn
      rw [hy] at hx; cases hx
      cases ho with
      | mapIter hd hm =>
        rename_i z
        have e0 : 0 + y.δ = 0 := by omega
        rw [e0] at ev
        have hg : (getObj y.b).run P w = .ok (.mapIter (some z.b) since seen last) w := by simp [getObj, Sem.run, hw]
        split at e
        · rename_i es clock hmm
          obtain ⟨es', hw2, hmr⟩ := r.map hmm hm
          have hg2 := run_getMap (P := P) hw2
          split at e
          · cases e
            cases hmr
            refine over ?_ rfl rfl rfl
            rw [ev]
            simp [Instr.next, hg, hg2, Question.forced]
          · rename_i en
            cases hmr with
            | cons hv hr =>
            cases hr
            rename_i k v v' born
            split at e
            · cases e
            · rename_i hl
              have hl' : ¬ (seen.isEmpty = false ∧ last ≤ born) := by simpa using hl
              split at e
              · rename_i hc
                cases e
                refine over ?_ rfl rfl rfl
                rw [ev]
                have hc' : born ∈ seen := by simpa using hc
                have hl2 : ¬ (¬ seen = #[] ∧ last ≤ born) := by simpa using hl'
                simp [Instr.next, hg, hg2, Question.forced, hc', hl2]
              · rename_i hc
                split at e
                · rename_i hs
                  split at e
                  · rename_i hk
                    obtain ⟨hf, er⟩ := putR_eq e
                    cases er
                    have hst := run_setMap (P := P) (o' := .mapIter (some z.b) since (seen.push born) clock) hw (fun _ _ _ => by simp)
                    refine ⟨ι, _, _, .inl (lift_run2 ?_), .tuple (.cons (.bool _) (.cons (plainV_refl (keyS_plain hk)) (.cons hv .nil))), r.put hf hn hy (.mapIter hd hm), ac, .put hf hn hy⟩
                    rw [ev]
                    have hc' : ¬ born ∈ seen := by simpa using hc
                    have hl2 : ¬ (¬ seen = #[] ∧ last ≤ born) := by simpa using hl'
                    have hs' : born < since := hs
                    have hs2 : ¬ since ≤ born := by omega
                    simp [Instr.next, hg, hg2, Question.forced, hc', hl2, hs', hs2, hst]
                  · cases e
                · cases e
          · cases e
        · cases e
    · cases e
  · cases e

theorem bytes_run (e : TypeId) (s : ByteArray) (w : World) : ∃ (G : Nat) (o' : Obj), s.size ≤ G ∧
    o' = .cells ((s.data.map fun b => Value.int .u8 b.toNat) ++ Array.replicate (G - s.size) (.int .u8 0)) e (G, G + 1) ∧
    (Conv.stringToBytes e s).run P w = .ok (.slice (some ⟨w.heap.size, 0, none⟩) s.size G) { w.drew with heap := w.heap.push o' } := by
  refine ⟨grownCap w s.size 0 e, _, grownCap_ge w s.size 0 e, rfl, ?_⟩
  have hge := grownCap_ge w s.size 0 e
  have hds : s.data.size = s.size := rfl
  have hsz : ((s.data.map fun b => Value.int .u8 b.toNat) ++ Array.replicate (grownCap w s.size 0 e - s.size) (Value.int .u8 0)).size = grownCap w s.size 0 e := by
    simp [hds]; omega
  simp only [Conv.stringToBytes, Sem.run_bind, run_choose, Question.forced, Bool.false_eq_true, if_false, Result.andThen_ok]
  show ((newRow e _).run P w.drew).andThen _ = _
  have hr : ∀ c : Array Value, (newRow e c).run P w.drew = .ok ⟨w.heap.size, 0, none⟩ { w.drew with heap := w.heap.push (.cells c e (0, 0)) } := fun c => by simp [newRow]; rfl
  rw [hr]
  simp only [Result.andThen_ok, Sem.run_bind, markStringish, run_shape, World.shape?]
  have hg : ∀ o : Obj, (w.heap.push o)[w.heap.size]? = some o := fun o => by simp
  rw [hg]
  simp only [hsz, Sem.run_bind, run_freeze, Result.andThen_ok, Sem.run_pure]
  show Result.ok _ _ = Result.ok _ _
  congr 1
  simp only [World.freeze, Nat.succ_ne_zero, if_false]
  show World.mk _ _ _ _ _ = World.mk _ _ _ _ _
  congr 1
  apply Array.ext_getElem?
  intro k
  rw [Array.getElem?_modify]
  by_cases hk : w.heap.size = k
  · subst hk
    simp
    refine ⟨rfl, ?_⟩
    show s.size + (grownCap w s.size 0 e - s.size) = grownCap w s.size 0 e
    omega
  · have hk' : ¬ k = w.heap.size := fun e => hk e.symm
    simp [hk, hk', Array.getElem?_push]
theorem bytesIn_sound (r : Rl ι h w) {c c' : Nat} (ac : Above ι c) {src dst : TypeId} {x x' u : Value} {h' : Heap} (hx : VR ι x x') (e : bytesIn P h c src dst x = some (u, h', c')) :
    Good ι h c w ((do pure (.value (← convert src dst x')) : Sem Next).run P w) u h' c' := by
  unfold bytesIn at e
  simp only [undA_eq] at e
  split at e
  · rename_i s et hs hd
    split at e
    · rename_i hu
      obtain ⟨hf, er⟩ := putR_eq e
      cases er
      obtain ⟨G, o', hG, ho', hrun⟩ := bytes_run (P := P) et s w
      have hn := ac c (Nat.le_refl _)
      let x0 : Blk := ⟨w.heap.size, G, 0⟩
      have ho : OR (upd ι c x0) x0 (.cells ⟨s.data.toList.map fun b => .int .u8 b.toNat⟩ et (0, 0)) o' := by
        rw [ho']
        have el : ((s.data.map fun b => Value.int .u8 b.toNat) ++ Array.replicate (G - s.size) (.int .u8 0)) = (⟨(s.data.toList.map fun (b : UInt8) => Value.int .u8 b.toNat) ++ List.replicate (G - s.size) (.int .u8 0)⟩ : Array Value) := by
          apply Array.ext'; simp
        rw [el]
        refine .cells ?_ (fun j v hj => ?_) (fun o ho hh => ?_)
        · show ((s.data.toList.map fun (b : UInt8) => Value.int .u8 b.toNat) ++ List.replicate (G - s.size) (Value.int .u8 0)).length = G
          have : s.data.toList.length = s.size := by simp
          simp only [List.length_append, List.length_map, List.length_replicate, this]
          omega
        · have hv : VRL (upd ι c x0) (s.data.toList.map fun (b : UInt8) => Value.int .u8 b.toNat) (s.data.toList.map fun (b : UInt8) => Value.int .u8 b.toNat) := by
            apply plainL_refl
            rw [List.all_eq_true]
            intro v hv
            obtain ⟨b, _, rfl⟩ := List.mem_map.1 hv
            rfl
          obtain ⟨v', h1, h2⟩ := hv.get hj
          refine ⟨v', ?_, h2⟩
          show (_ ++ _)[j + 0]? = some v'
          rw [Nat.add_zero, List.getElem?_append_left (List.getElem?_eq_some_iff.1 h1).1]
          exact h1
        · have : o < G := ho
          have : G ≤ o := hh.1
          omega
      refine ⟨upd ι c x0, _, _, .inl (lift_run2 (?_ : _ = Result.ok (.slice (some ⟨w.heap.size, 0, none⟩) s.size G) { w.drew with heap := w.heap.push o' })), ?_, Rl.new r.drew hf hn ho, ac.new _, Tr.trans (b := Tr.new hf hn) Tr.drew⟩
      · rw [hx.string_inv]
        simp only [convert, Sem.run_bind, run_underlying hs, run_underlying hd, run_underlying hu, Result.andThen_ok, hrun]
      · refine .opn (x := x0) (upd_same _ _ _) hG ?_ (.inr rfl)
        show 0 + G * 1 ≤ G
        omega
    · cases e
  · cases e

theorem chain_sound (r : Rl ι h w) {c c' : Nat} (ac : Above ι c) {o : Oper} {u : Value} {h' : Heap} (hE : ∀ x, VR ι (ρ x) (ρ' x)) (e : chainOp P ρ h c o.op = some (u, h', c')) :
    Good ι h c w ((execOp ρ' o).run P w) u h' c' := by
  unfold execOp
  generalize hop : o.op = op at e
  dsimp only
  unfold chainOp at e
  split at e
  all_goals try dsimp only
  case h_1 t a x => exact store_sound r ac (hE a) (hE x) e
  case h_2 t m k v => exact upd_sound r hE ac e
  case h_3 t m k v => exact upd_sound r hE ac e
  case h_4 m k t ts =>
    have := delete_sound (P := P) (ts := ts) (ty := o.type) r ac (hE m) (hE k) e
    simpa [resolve, invoke, builtin] using this
  case h_5 s x t tx =>
    obtain ⟨ι', w', v', k1, k2, k3, k4, k5⟩ := app_sound (P := P) (ty := o.type) r ac (hE s) (hE x) e
    refine ⟨ι', w', v', .inl ?_, k2, k3, k4, k5⟩
    have := lift_run2 k1
    simpa [resolve, invoke, builtin] using this
  case h_6 t x => exact range_sound r ac (hE x) e
  case h_7 src dst x => exact bytesIn_sound r ac (hE x) e
  case h_8 it s => exact next_sound r ac (hE it) e
  case h_9 => cases e
end
end Go.Ev
