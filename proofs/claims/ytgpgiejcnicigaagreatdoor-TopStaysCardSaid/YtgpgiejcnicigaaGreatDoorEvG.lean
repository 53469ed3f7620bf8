/- The evaluator, part G: operations that make a block. -/
import Derived.Test.YtgpgiejcnicigaaGreatDoorEvF
import Derived.Laws.BitsLemmas
set_option linter.unusedSimpArgs false
set_option linter.unusedVariables false
namespace Go.Ev

/-- What the frame and the heap are, behind an operation. -/
noncomputable def Good (ι : Map) (h : Heap) (c : Nat) (w : World) (run : Result Next) (v : Value) (h' : Heap) (c' : Nat) : Prop :=
  ∃ ι' w' v', (run = .ok (.value v') w' ∨ (run = .ok .skip w' ∧ v = undef ∧ v' = undef)) ∧ VR ι' v v' ∧ Rl ι' h' w' ∧ Above ι' c' ∧ Tr ι h c w ι' h' c' w'

/-- A value's cells. -/
noncomputable def cellsA : Value → Option (List Value)
  | .agg ⟨cs⟩ => some cs
  | .chan _ => none
  | .tuple _ => none
  | v => some [v]
theorem cellsA_sound {ι : Map} {v v' : Value} {cs : List Value} (h : cellsA v = some cs) (r : VR ι v v') : ∃ cs', v'.cells = ⟨cs'⟩ ∧ VRL ι cs cs' := by
  cases r with
  | junk => simp [cellsA] at h
  | tok e => simp [cellsA] at h
  | agg hl => simp [cellsA] at h; subst h; exact ⟨_, rfl, hl⟩
  | tuple hl => simp [cellsA] at h
  | bool b => cases h; exact ⟨_, rfl, .cons (.bool b) .nil⟩
  | int k n => cases h; exact ⟨_, rfl, .cons (.int k n) .nil⟩
  | string b => cases h; exact ⟨_, rfl, .cons (.string b) .nil⟩
  | ptr0 => cases h; exact ⟨_, rfl, .cons .ptr0 .nil⟩
  | slice0 l c => cases h; exact ⟨_, rfl, .cons (.slice0 l c) .nil⟩
  | map0 => cases h; exact ⟨_, rfl, .cons .map0 .nil⟩
  | nilFunc => cases h; exact ⟨_, rfl, .cons .nilFunc .nil⟩
  | nilIface => cases h; exact ⟨_, rfl, .cons .nilIface .nil⟩
  | ptr e => cases h; exact ⟨_, rfl, .cons (.ptr e) .nil⟩
  | slice c e => cases h; exact ⟨_, rfl, .cons (.slice c e) .nil⟩
  | slice00 x y => cases h; exact ⟨_, rfl, .cons (.slice00 x y) .nil⟩
  | opn e x y z => cases h; exact ⟨_, rfl, .cons (.opn e x y z) .nil⟩
  | map e => cases h; exact ⟨_, rfl, .cons (.map e) .nil⟩
  | func x y => cases h; exact ⟨_, rfl, .cons (.func x y) .nil⟩
  | yield e => cases h; exact ⟨_, rfl, .cons (.yield e) .nil⟩
  | iface e => cases h; exact ⟨_, rfl, .cons (.iface e) .nil⟩

/-- The kinds of a new block's value. -/
inductive NK where
  | ptr
  | slice (l n : Nat)
  | map
noncomputable def NK.val : NK → Nat → Value
  | .ptr, n => .pointer (some ⟨n, 0, none⟩)
  | .slice l k, n => .slice (some ⟨n, 0, none⟩) l k
  | .map, n => .map (some n)
/-- The zeros of a row. -/
noncomputable def zerosA (z : List Value) : Nat → List Value
  | 0 => []
  | n + 1 => z ++ zerosA z n

noncomputable def newOp (P : Program) (ρ : Operand → Value) : Op → Option (Obj × NK)
  | .alloc t => match zeroT P t with
    | some z => if plainV z then match cellsA z with
      | some cs => some (.cells ⟨cs⟩ t (0, 0), .ptr)
      | none => none
      else none
    | none => none
  | .box t x => match cellsA (ρ x) with
    | some cs => some (.cells ⟨cs⟩ t (0, 0), .ptr)
    | none => none
  | .makeMap _ none => some (.map #[] 0, .map)
  | .buildSlice t len ⟨parts⟩ => match undA P t with
    | some (.slice e) => match sizeT P e, zeroT P e with
      | some sz, some z => if len < 4096 ∧ sz < 4096 ∧ plainV z then match cellsA z with
        | some zs => if len * sz = 0 then (match fillA (fun i => some (i * sz, sz)) [] (parts.map fun x => (x.1, ρ x.2)) with
            | some cs => some (.cells ⟨cs⟩ e (0, 0), .slice len len)
            | none => none) else
          match fillA (fun i => some (i * sz, sz)) ((List.range (len * sz)).map fun i => zs.getD (i % zs.length) undef) (parts.map fun x => (x.1, ρ x.2)) with
          | some cs => if zs.length = 0 then none else some (.cells ⟨cs⟩ e (0, 0), .slice len len)
          | none => none
        | none => none
        else none
      | _, _ => none
    | _ => none
  | .makeSlice t l c => match ρ l, ρ c, undA P t with
    | .int .i64 l, .int .i64 c, some (.slice e) => match infoA P e with
      | some i => match i.zero with
        | some z => if 0 ≤ l ∧ l ≤ c ∧ c < 4096 ∧ i.bytes < 4096 ∧ i.size < 4096 ∧ plainV z then match cellsA z with
          | some zs => if zs.length = 0 then none else some (.cells ⟨if c.toNat * i.size = 0 then [] else (List.range (c.toNat * i.size)).map fun i => zs.getD (i % zs.length) undef⟩ e (0, 0), .slice l.toNat c.toNat)
          | none => none
          else none
        | none => none
      | none => none
    | _, _, _ => none
  | _ => none

section
variable {P : Program} {ι : Map} {ρ ρ' : Operand → Value} {h : Heap} {w : World}

/-- How the model makes it. -/
noncomputable def Makes (P : Program) (ι : Map) (o : Obj) (k : NK) (s : Sem Next) : Prop :=
  ∃ o', (∀ (ι' : Map) (x : Blk), Ext ι ι' → x.δ = 0 → (match o' with | .cells c _ _ => x.κ = c.size | _ => True) → OR ι' x o o') ∧
    ∀ w, s.run P w = .ok (.value (k.val w.heap.size)) { w with heap := w.heap.push o' }

theorem cells_or {cs cs' : List Value} {t : TypeId} (hl : VRL ι cs cs') : ∀ (ι' : Map) (x : Blk), Ext ι ι' → x.δ = 0 → x.κ = cs'.length → OR ι' x (.cells ⟨cs⟩ t (0, 0)) (.cells ⟨cs'⟩ t (0, 0)) :=
  fun ι' x he hd hk => .cells hk.symm (by rw [hd]; exact (hl.mono he).cr) (fun o ho => by simp)

theorem VRL.range {z : List Value} (hz : z.all plainS = true) (h0 : z.length ≠ 0) (n : Nat) : VRL ι ((List.range n).map fun i => z.getD (i % z.length) undef) ((List.range n).map fun i => z.getD (i % z.length) undef) := by
  apply plainL_refl
  rw [List.all_eq_true]
  intro v hv
  rw [List.mem_map] at hv
  obtain ⟨i, _, rfl⟩ := hv
  have hlt : i % z.length < z.length := Nat.mod_lt _ (by omega)
  rw [List.getD_eq_getElem?_getD, List.getElem?_eq_getElem hlt]
  exact (List.all_eq_true.1 hz) _ (List.getElem_mem _)
theorem plainV_cells {z : Value} {zs : List Value} (hp : plainV z = true) (hc : cellsA z = some zs) : z.cells = ⟨zs⟩ ∧ zs.all plainS = true := by
  cases z with
  | agg a => obtain ⟨a⟩ := a; simp [cellsA] at hc; subst hc; exact ⟨rfl, by simpa [plainV] using hp⟩
  | chan a => simp [cellsA] at hc
  | tuple a => simp [cellsA] at hc
  | _ => simp only [cellsA, Option.some.injEq] at hc; subst hc; exact ⟨rfl, by simpa [plainV, List.all] using hp⟩
theorem lift_run2 {P : Program} {s : Sem Value} {v : Value} {w w' : World} (h : s.run P w = .ok v w') : (do pure (.value (← s)) : Sem Next).run P w = .ok (.value v) w' := by
  rw [Sem.run_bind, h]; rfl

theorem new_sound {o : Oper} {ob : Obj} {k : NK} (hE : ∀ x, VR ι (ρ x) (ρ' x)) (e : newOp P ρ o.op = some (ob, k)) : Makes P ι ob k (execOp ρ' o) := by
  unfold execOp
  generalize hop : o.op = op at e
  dsimp only
  unfold newOp at e
  simp only [undA_eq, infoA_eq] at e
  split at e
  all_goals try dsimp only
  case h_1 t =>
    split at e
    · rename_i z hz
      split at e
      · rename_i hp
        split at e
        · rename_i cs hc
          cases e
          obtain ⟨h1, h2⟩ := plainV_cells hp hc
          refine ⟨.cells ⟨cs⟩ t (0, 0), fun ι' x he hd hk => cells_or (plainL_refl h2) ι' x he hd hk, fun w => lift_run2 ?_⟩
          simp [Instr.alloc, run_zeroT hz, newVar, newRow, h1, NK.val]
        · cases e
      · cases e
    · cases e
  case h_2 t x =>
    split at e
    · rename_i cs hc
      cases e
      obtain ⟨cs', h1, h2⟩ := cellsA_sound hc (hE x)
      refine ⟨.cells ⟨cs'⟩ t (0, 0), fun ι' x he hd hk => cells_or h2 ι' x he hd hk, fun w => lift_run2 ?_⟩
      simp [Instr.box, newVar, newRow, h1, NK.val]
    · cases e
  case h_3 t =>
    cases e
    refine ⟨.map #[] 0, fun ι' x he hd hk => .map .nil, fun w => lift_run2 ?_⟩
    simp [Instr.makeMap, NK.val]
  case h_4 t len parts =>
    split at e
    · rename_i et hu
      split at e
      · rename_i sz z hsz hz
        split at e
        · rename_i hb
          have e2 : Array.map (fun x => (x.1, ρ' x.2)) ⟨parts⟩ = (⟨parts.map fun x => (x.1, ρ' x.2)⟩ : Array (Nat × Value)) := by simp
          have hsmall : ¬ len * sz > 2 ^ 24 := by
            have := Nat.mul_lt_mul_of_lt_of_lt hb.1 hb.2.1
            omega
          split at e
          · rename_i zs hc
            obtain ⟨h1, h2⟩ := plainV_cells hb.2.2 hc
            split at e
            · rename_i h0
              split at e
              · rename_i cs hf
                cases e
                obtain ⟨r', f1, f2⟩ := fill_sound (cells' := []) hf (FR.map hE parts) .nil
                refine ⟨.cells ⟨r'⟩ et (0, 0), fun ι' x he hd hk => cells_or f2 ι' x he hd hk, fun w => lift_run2 ?_⟩
                have er0 : Array.map (fun (_ : Nat) => (default : Value)) (Array.range 0) = ⟨[]⟩ := by apply Array.ext'; simp
                simp [Instr.buildSlice, run_underlying hu, run_sizeT hsz, h0, er0, f1, newRow, NK.val]
              · cases e
            · rename_i h0
              split at e
              · rename_i cs hf
                split at e
                · cases e
                · rename_i hz0
                  cases e
                  obtain ⟨r', f1, f2⟩ := fill_sound hf (FR.map hE parts) (VRL.range h2 hz0 _)
                  refine ⟨.cells ⟨r'⟩ et (0, 0), fun ι' x he hd hk => cells_or f2 ι' x he hd hk, fun w => lift_run2 ?_⟩
                  have er : (Array.range (len * sz)).map (fun i => z.cells[i % z.cells.size]!) = (⟨(List.range (len * sz)).map fun i => zs.getD (i % zs.length) undef⟩ : Array Value) := by
                    rw [h1]
                    apply Array.ext'
                    simp only [Array.toList_map, Array.toList_range]
                    apply List.map_congr_left
                    intro i _
                    have hlt : i % zs.length < zs.length := Nat.mod_lt _ (by omega)
                    simp [List.getD_eq_getElem?_getD, hlt]
                  simp only [Instr.buildSlice, Sem.run_bind, run_underlying hu, Result.andThen_ok, run_sizeT hsz, if_neg hsmall, if_neg h0, Sem.run_pure, run_zeroT hz]
                  rw [e2, er]
                  simp only [f1]
                  rfl
              · cases e
          · cases e
        · cases e
      · cases e
    · cases e
  case h_5 t l c =>
    have hl := hE l
    have hc := hE c
    split at e
    · rename_i lv cv et el ec hu
      rw [el] at hl; rw [ec] at hc
      split at e
      · rename_i i hi
        split at e
        · rename_i z hz
          split at e
          · rename_i hb
            obtain ⟨hb1, hlc, hb2, hb3, hb4, hb5⟩ := hb
            split at e
            · rename_i zs hcz
              split at e
              · cases e
              · rename_i hz0
                cases e
                obtain ⟨h1, h2⟩ := plainV_cells hb5 hcz
                obtain ⟨m, rfl⟩ : ∃ m : Nat, lv = m := ⟨lv.toNat, by omega⟩
                obtain ⟨n, rfl⟩ : ∃ n : Nat, cv = n := ⟨cv.toNat, by omega⟩
                have hn : n < 4096 := by omega
                have hmn : m ≤ n := by omega
                have hbn : i.bytes * n ≤ 4096 * 4096 := Nat.mul_le_mul (by omega) (by omega)
                have hbm : i.bytes * m ≤ 4096 * 4096 := Nat.mul_le_mul (by omega) (by omega)
                refine ⟨.cells ⟨if n * i.size = 0 then [] else (List.range (n * i.size)).map fun j => zs.getD (j % zs.length) undef⟩ et (0, 0), fun ι' x he hd hk => cells_or ?_ ι' x he hd hk, fun w => lift_run2 ?_⟩
                · simp only [Int.toNat_natCast]
                  split
                  · exact .nil
                  · exact VRL.range h2 hz0 _
                · have hw : IntKind.i64.wrap (n : Int) = n := by rw [IntKind.wrap_i64]; omega
                  have hwm : IntKind.i64.wrap (m : Int) = m := by rw [IntKind.wrap_i64]; omega
                  have ht : ¬ (281474976710656 < (i.bytes : Int) * (n : Int)) := by
                    have hb9 : i.bytes * n ≤ 16777216 := by omega
                    have := Int.ofNat_le.2 hb9
                    rw [Int.natCast_mul] at this
                    omega
                  have hn0 : ¬ ((n : Int) < 0) := by omega
                  have hm0 : ¬ ((m : Int) < 0) := by omega
                  have hmn0 : ¬ ((m : Int) > (n : Int)) := by omega
                  have hmn1 : ¬ (n < m) := by omega
                  rw [hl.int_inv, hc.int_inv]
                  simp only [Instr.makeSlice, Sem.run_bind, run_underlying hu, Result.andThen_ok, asInt, asIntOf, Sem.run_pure, typeInfo, run_program, hi, hw, hwm, sizeOf, zeroValue, hz]
                  rw [if_neg (by simp [hn0, hm0, hmn0, hmn1, ht])]
                  simp only [Sem.run_bind, run_askRoom, Result.andThen_ok, Int.toNat_natCast, run_program, hi, Sem.run_pure]
                  by_cases h0 : n * i.size = 0
                  · have er0 : Array.map (fun (_ : Nat) => (default : Value)) (Array.range 0) = ⟨[]⟩ := by apply Array.ext'; simp
                    simp [h0, newRow, NK.val, er0]
                  · have er : (Array.range (n * i.size)).map (fun j => z.cells[j % z.cells.size]!) = (⟨(List.range (n * i.size)).map fun j => zs.getD (j % zs.length) undef⟩ : Array Value) := by
                      rw [h1]
                      apply Array.ext'
                      simp only [Array.toList_map, Array.toList_range]
                      apply List.map_congr_left
                      intro j _
                      have hlt : j % zs.length < zs.length := Nat.mod_lt _ (by omega)
                      simp [List.getD_eq_getElem?_getD, hlt]
                    simp only [h0, if_false, Sem.run_bind, run_program, Result.andThen_ok, hi, hz, Sem.run_pure]
                    rw [er]
                    simp [newRow, NK.val]
            · cases e
          · cases e
        · cases e
      · cases e
    · cases e
  case h_6 => cases e
/-- A new block in the heap. -/
theorem new_good {ob : Obj} {k : NK} {s : Sem Next} {c : Nat} (r : Rl ι h w) (a : Above ι c) (hf : fits c = true) (hk : match k with | .slice _ n => n < OPEN | _ => True) (m : Makes P ι ob k s) :
    Good ι h c w (s.run P w) (k.val c) (h.put c ob) (c + 1) := by
  obtain ⟨o', ho, hr⟩ := m
  have hn := a c (Nat.le_refl _)
  let x : Blk := ⟨w.heap.size, match o' with | .cells c _ _ => c.size | _ => 0, 0⟩
  refine ⟨upd ι c x, { w with heap := w.heap.push o' }, k.val w.heap.size, .inl (hr w), ?_, ?_, a.new _, .new hf hn⟩
  · cases k with
    | ptr => exact .ptr (upd_same ι c x)
    | slice l n => exact .slice hk (upd_same ι c x)
    | map => exact .map (upd_same ι c x)
  · exact Rl.new r hf hn (ho _ _ (upd_ext _ hn) rfl (by cases o' <;> first | rfl | trivial))
end
end Go.Ev
