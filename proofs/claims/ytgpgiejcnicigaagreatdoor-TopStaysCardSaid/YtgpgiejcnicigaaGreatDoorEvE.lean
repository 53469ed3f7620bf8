/- The evaluator, part E: operations that look at no memory, as the model runs them. -/
import Derived.Test.YtgpgiejcnicigaaGreatDoorEvD
set_option linter.unusedSimpArgs false
set_option linter.unusedVariables false
namespace Go.Ev
section
variable {P : Program} {ι : Map} {ρ ρ' : Operand → Value}

theorem VR.int_inv {v : Value} {k : IntKind} {n : Int} (h : VR ι (.int k n) v) : v = .int k n := by cases h; rfl
theorem VR.bool_inv {v : Value} {b : Bool} (h : VR ι (.bool b) v) : v = .bool b := by cases h; rfl
theorem VR.string_inv {v : Value} {s : ByteArray} (h : VR ι (.string s) v) : v = .string s := by cases h; rfl
theorem VR.ptr_inv {v : Value} {n off : Nat} (h : VR ι (.pointer (some ⟨n, off, none⟩)) v) : ∃ x, ι n = some x ∧ v = .pointer (some ⟨x.b, off + x.δ, none⟩) := by
  cases h; exact ⟨_, by assumption, rfl⟩

theorem VR.slice_inv {v : Value} {n off len cap : Nat} (h : VR ι (.slice (some ⟨n, off, none⟩) len cap) v) :
    (cap < OPEN ∧ ∃ x, ι n = some x ∧ v = .slice (some ⟨x.b, off + x.δ, none⟩) len cap) ∨ (len = 0 ∧ cap = 0 ∧ ∃ a, v = .slice (some a) 0 0) ∨
    (∃ sz x c o, cap = OPEN + sz ∧ ι n = some x ∧ len ≤ c ∧ o + c * sz ≤ x.κ ∧ (len = 0 ∨ o = off + x.δ) ∧ v = .slice (some ⟨x.b, o, none⟩) len c) := by
  generalize hu : Value.slice (some ⟨n, off, none⟩) len cap = u at h
  cases h <;> cases hu
  · exact .inl ⟨by assumption, _, by assumption, rfl⟩
  · exact .inr (.inl ⟨rfl, rfl, _, rfl⟩)
  · exact .inr (.inr ⟨_, _, _, _, rfl, by assumption, by assumption, by assumption, by assumption, rfl⟩)
/-- 'x[:0:0]': whatever the room. -/
theorem sliceBoundsA_zero {len c l h m : Nat} {lo hi mx : Option Value} (e : sliceBoundsA len 0 lo hi mx = some (l, h, m)) :
    (mx.isSome = true → sliceBoundsA len c lo hi mx = some (l, h, m)) ∧ (mx.isSome = true → l = 0 ∧ h = 0 ∧ m = 0) := by
  rcases mx with _ | v
  · simp
  · unfold sliceBoundsA at e ⊢
    split at e
    · cases e
    · rename_i m' hm
      cases v <;> first | (simp at hm; done) | skip
      rename_i k z
      dsimp only at hm
      split at hm
      · rename_i hz
        cases hm
        have hz0 : z = 0 := by omega
        subst hz0
        have e0 : (if (0:Int) ≤ 0 ∧ (0:Int) ≤ (c:Int) then some (0:Int).toNat else none) = some 0 := by rw [if_pos (by omega)]; rfl
        have e1 := sliceBoundsA_le (len := len) (cap := 0) (lo := lo) (hi := hi) (mx := some (.int k 0)) (l := l) (h := h) (m := m) (by unfold sliceBoundsA; simpa using e)
        constructor
        · intro _
          simp only [e0]
          exact e
        · intro _
          split at e
          · cases e
          · rename_i h' hh
            have hh0 : h' = 0 := by
              rcases hi with _ | u
              · simp at hh
              · cases u <;> simp at hh
                omega
            split at e
            · cases e
            · rename_i l' hl
              cases e
              refine ⟨?_, hh0, rfl⟩
              omega
      · cases hm
theorem VR.slice0_inv {v : Value} {l c : Nat} (h : VR ι (.slice none l c) v) : v = .slice none l c := by cases h; rfl
theorem OP_lt {n : Nat} (h : OP n = true) : OPEN ≤ n := Nat.le_of_ble_eq_true h
theorem OP_not {n : Nat} (h : ¬ OP n = true) : n < OPEN := Nat.lt_of_not_le fun e => h (Nat.ble_eq_true_of_le e)

theorem slice_sound {t : TypeId} {x : Operand} {lo hi mx : Option Operand} {v : Value} (hE : ∀ x, VR ι (ρ x) (ρ' x)) (h : pureOp P ρ (.slice t x lo hi mx) = some v) :
    ∃ v', VR ι v v' ∧ ∀ w, (Instr.sliceAt t (ρ' x) (lo.map ρ') (hi.map ρ') (mx.map ρ')).run P w = .ok v' w := by
  simp only [pureOp, undA_eq] at h
  have hx := hE x
  split at h
  · rename_i s hs hu
    rw [hs] at hx
    rw [hx.string_inv]
    split at h
    · cases h
    · rename_i hm
      split at h
      · rename_i l hh m hb
        cases h
        have hb' := vr_opt (mx := none) hE hb
        refine ⟨_, .string _, fun w => ?_⟩
        simp only [Instr.sliceAt, Instr.slice, Sem.run_bind, run_underlying hu, Result.andThen_ok]
        rw [show mx.map ρ' = none by cases mx <;> simp_all]
        have hb2 : sliceBoundsA s.size s.size (lo.map ρ') (hi.map ρ') none = some (l, hh, m) := hb'
        simp [sliceBounds_run hb2]
      · cases h
  · rename_i a len cap ty hs hu
    rw [hs] at hx
    split at h
    · cases h
    · rename_i sz hsz
      split at h
      · -- the room is not known
        split at h
        · rename_i n off
          split at h
          · rename_i l hh m hmx hb
            have hmx' : mx = none := by cases mx <;> simp_all
            subst hmx'
            split at h
            · rename_i hc
              cases h
              subst hc
              simp only [Option.isSome_none, Bool.false_eq_true, if_false] at hb
              have hb' := vr_opt hE hb
              rcases hx.slice_inv with ⟨hlt, _⟩ | ⟨_, e0, _⟩ | ⟨sz', y, c, o, ec, hy, h1, h2, h3, ev⟩
              · omega
              · have hO : OPEN = 18446744073709551616 := rfl
                omega
              · have es : sz' = sz := by omega
                rw [es] at h2
                rw [ev]
                obtain ⟨hb2, hle, hlen⟩ := sliceBoundsA_more hb' h1
                refine ⟨.slice (some (if c = l then ⟨y.b, o, none⟩ else ⟨y.b, o + l * sz, none⟩)) (hh - l) (c - l), ?_, fun w => ?_⟩
                · by_cases hc : c = l
                  · rw [if_pos hc]
                    have : hh - l = 0 := by omega
                    rw [this]
                    exact .opn hy (by omega) (by rw [show c - l = 0 by omega]; omega) (.inl rfl)
                  · rw [if_neg hc]
                    refine .opn hy (by omega) ?_ ?_
                    · have : l * sz + (c - l) * sz = c * sz := by rw [← Nat.add_mul]; congr 1; omega
                      omega
                    · rcases h3 with h3 | h3
                      · left; omega
                      · right; omega
                · simp only [Instr.sliceAt, Instr.slice, Sem.run_bind, run_underlying hu, Result.andThen_ok]
                  simp only [Option.map_none] at hb2 ⊢
                  simp only [sliceBounds_run hb2, Result.andThen_ok, run_sizeT hsz, Sem.run_pure, Option.map_some, add_none]
                  split <;> rfl
            · cases h
          · rename_i z l hh m hmx hb
            cases h
            have hmx' : mx.isSome = true := by cases mx <;> simp_all
            rw [if_pos hmx'] at hb
            have hb' := vr_opt hE hb
            have ho := OP_lt (by assumption)
            have hO : OPEN = 18446744073709551616 := rfl
            rcases hx.slice_inv with ⟨hlt, _⟩ | ⟨_, e0, _⟩ | ⟨sz', y, c, o, ec, hy, h1, h2, h3, ev⟩
            · omega
            · omega
            · rw [ev]
              obtain ⟨hz1, hz2⟩ := sliceBoundsA_zero (c := c) hb'
              have hb2 := hz1 (by simpa using hmx')
              obtain ⟨e1, e2, e3⟩ := hz2 (by simpa using hmx')
              subst e1 e2 e3
              refine ⟨.slice (some ⟨y.b, o, none⟩) 0 0, .slice00 _ _, fun w => ?_⟩
              simp only [Instr.sliceAt, Instr.slice, Sem.run_bind, run_underlying hu, Result.andThen_ok, sliceBounds_run hb2, run_sizeT hsz, Sem.run_pure, Option.map_some]
              rfl
          · cases h
        · cases h
      · rename_i hcap
        split at h
        · rename_i l hh m hb
          have hb' := vr_opt hE hb
          have hle := sliceBoundsA_le hb
          have hc := OP_not hcap
          split at h
          · cases h
            rw [hx.slice0_inv]
            refine ⟨_, .slice0 _ _, fun w => ?_⟩
            simp only [Instr.sliceAt, Instr.slice, Sem.run_bind, run_underlying hu, Result.andThen_ok, sliceBounds_run hb', run_sizeT hsz, Sem.run_pure, Option.map_none, ite_self]
          · rename_i n off
            split at h
            · rename_i hc0
              split at h
              · rename_i hhl
                cases h
                subst hc0
                have ⟨a', ev⟩ : ∃ a', ρ' x = .slice (some a') len 0 := by
                  rcases hx.slice_inv with ⟨hlt, y, hy, ev⟩ | ⟨e0, _, a', ev⟩ | ⟨sz', y, c, o, ec, _⟩
                  · exact ⟨_, ev⟩
                  · exact ⟨a', by rw [ev, e0]⟩
                  · omega
                rw [ev]
                refine ⟨.slice (some (if m = l then a' else a'.add (l * sz))) 0 0, .slice00 _ _, fun w => ?_⟩
                simp only [Instr.sliceAt, Instr.slice, Sem.run_bind, run_underlying hu, Result.andThen_ok, sliceBounds_run hb', run_sizeT hsz, Sem.run_pure, Option.map_some]
                rw [show hh - l = 0 by omega, show m - l = 0 by omega]
                split <;> rfl
              · cases h
            · rename_i hc0
              cases h
              rcases hx.slice_inv with ⟨hlt, y, hy, ev⟩ | ⟨_, e0, _⟩ | ⟨sz', y, c, o, ec, _⟩
              · rw [ev]
                refine ⟨.slice (some ⟨y.b, (if m = l then off else off + l * sz) + y.δ, none⟩) (hh - l) (m - l), .slice (by omega) hy, fun w => ?_⟩
                simp only [Instr.sliceAt, Instr.slice, Sem.run_bind, run_underlying hu, Result.andThen_ok, sliceBounds_run hb', run_sizeT hsz, Sem.run_pure, Option.map_some, add_none]
                split
                · rfl
                · rw [show off + l * sz + y.δ = off + y.δ + l * sz by omega]
              · omega
              · omega
          · cases h
        · cases h
  · rename_i n off k e hs hu
    rw [hs] at hx
    obtain ⟨y, hy, ev⟩ := hx.ptr_inv
    rw [ev]
    split at h
    · rename_i sz l hh m hsz hb
      have hb' := vr_opt hE hb
      split at h
      · cases h
        refine ⟨.slice (some ⟨y.b, (if m = l then off else off + l * sz) + y.δ, none⟩) (hh - l) (m - l), .slice (by omega) hy, fun w => ?_⟩
        simp only [Instr.sliceAt, Instr.sureAddr, Sem.run_bind, run_underlying hu, Result.andThen_ok, sliceBounds_run hb', run_sizeT hsz, Sem.run_pure, add_none]
        split
        · rfl
        · rw [show off + l * sz + y.δ = off + y.δ + l * sz by omega]
      · cases h
    · cases h
  · cases h

theorem slice_some {v : Value} {a : Addr} {len cap : Nat} (h : VR ι (.slice (some a) len cap) v) : ∃ a' c, v = .slice (some a') len c := by
  generalize hu : Value.slice (some a) len cap = u at h
  cases h <;> cases hu <;> exact ⟨_, _, rfl⟩
theorem slice_len {v : Value} {a : Option Addr} {len cap : Nat} (h : VR ι (.slice a len cap) v) : ∃ a' c, v = .slice a' len c := by
  generalize hu : Value.slice a len cap = u at h
  cases h <;> cases hu <;> exact ⟨_, _, rfl⟩
theorem lift_run {P : Program} {s : Sem Value} {v : Value} {w : World} (h : s.run P w = .ok v w) : (do pure (.value (← s)) : Sem Next).run P w = .ok (.value v) w := by
  rw [Sem.run_bind, h]; rfl

theorem equal_ptr {t e : TypeId} (hu : P.underlying t = some (.pointer e)) (a : Addr) (w : World) : (Op.equal t (.pointer (some a)) (.pointer none)).run P w = .ok false w := by
  show (Op.equalIn (9999 + 1) t _ _).run P w = _
  unfold Op.equalIn
  rw [Sem.run_bind, run_underlying hu]
  rfl
theorem equal_slice {t e : TypeId} (hu : P.underlying t = some (.slice e)) (a : Addr) (l c l' c' : Nat) (w : World) : (Op.equal t (.slice (some a) l c) (.slice none l' c')).run P w = .ok false w := by
  show (Op.equalIn (9999 + 1) t _ _).run P w = _
  unfold Op.equalIn
  rw [Sem.run_bind, run_underlying hu]
  rfl
theorem eq_run {t : TypeId} {a b : Value} {x y : Operand} {r : Bool} {w : World} (hg : eqGuard .eql t x y a b = pure ()) (hb : binOp .eql t a b = do pure (.bool (← Op.equal t a b))) (h : (Op.equal t a b).run P w = .ok r w) :
    (do eqGuard .eql t x y a b; binOp .eql t a b : Sem Value).run P w = .ok (.bool r) w := by
  rw [Sem.run_bind, hg, hb]
  simp only [Sem.run_pure, Result.andThen_ok, Sem.run_bind, h]
theorem ne_run {t : TypeId} {a b : Value} {x y : Operand} {r : Bool} {w : World} (hg : eqGuard .neq t x y a b = pure ()) (hb : binOp .neq t a b = do pure (.bool (!(← Op.equal t a b)))) (h : (Op.equal t a b).run P w = .ok r w) :
    (do eqGuard .neq t x y a b; binOp .neq t a b : Sem Value).run P w = .ok (.bool (!r)) w := by
  rw [Sem.run_bind, hg, hb]
  simp only [Sem.run_pure, Result.andThen_ok, Sem.run_bind, h]

theorem pure_sound {o : Oper} {v : Value} (hE : ∀ x, VR ι (ρ x) (ρ' x)) (h : pureOp P ρ o.op = some v) :
    ∃ v', VR ι v v' ∧ ∀ w, (execOp ρ' o).run P w = .ok (.value v') w := by
  unfold execOp
  generalize hop : o.op = op at h
  dsimp only
  unfold pureOp at h
  simp only [undA_eq] at h
  split at h
  all_goals try dsimp only
  case h_1 x => cases h; exact ⟨_, hE x, fun w => rfl⟩
  case h_2 x => cases h; exact ⟨_, hE x, fun w => rfl⟩
  case h_3 c a b =>
    have hc := hE c
    split at h
    · rename_i e
      cases h
      rw [e] at hc
      exact ⟨_, hE a, fun w => by rw [hc.bool_inv]; rfl⟩
    · rename_i e
      cases h
      rw [e] at hc
      exact ⟨_, hE b, fun w => by rw [hc.bool_inv]; rfl⟩
    · cases h
  case h_4 x =>
    have hx := hE x
    split at h
    · rename_i a e
      cases h
      rw [e] at hx
      have : ∃ a', ρ' x = .pointer (some a') := by
        generalize ρ' x = u at hx
        cases hx; exact ⟨_, rfl⟩
      obtain ⟨a', e'⟩ := this
      rw [e'] at hx ⊢
      exact ⟨_, hx, fun w => rfl⟩
    · cases h
  case h_5 t x =>
    have hx := hE x
    split at h
    · rename_i b e
      cases h
      rw [e] at hx
      exact ⟨_, .bool _, fun w => by rw [hx.bool_inv]; rfl⟩
    · cases h
  case h_6 t x =>
    have hx := hE x
    split at h
    · rename_i k n e
      cases h
      rw [e] at hx
      exact ⟨_, .int _ _, fun w => by rw [hx.int_inv]; rfl⟩
    · cases h
  case h_7 bop t x y yt =>
    have hx := hE x
    have hy := hE y
    split at h
    · rename_i v0 hb
      cases h
      have : ρ' x = ρ x ∧ ρ' y = ρ y ∧ VR ι v v := by
        unfold binA at hb
        split at hb
        · rename_i k a k' b e1 e2
          rw [e1] at hx; rw [e2] at hy
          refine ⟨by rw [hx.int_inv, e1], by rw [hy.int_inv, e2], ?_⟩
          split at hb <;> (repeat' (split at hb)) <;> first | (cases hb; done) | (cases hb; first | exact .int _ _ | exact .bool _)
        · rename_i a b e1 e2
          rw [e1] at hx; rw [e2] at hy
          refine ⟨by rw [hx.string_inv, e1], by rw [hy.string_inv, e2], ?_⟩
          split at hb <;> (repeat' (split at hb)) <;> first | (cases hb; done) | (cases hb; first | exact .string _ | exact .bool _)
        · cases hb
      obtain ⟨e1, e2, e3⟩ := this
      exact ⟨v, e3, fun w => lift_run (by rw [e1, e2]; exact bin_sound hb t x y w)⟩
    · split at h
      · rename_i a e1 e2 hu _
        cases h
        rw [e1] at hx; rw [e2] at hy
        have : ∃ a', ρ' x = .pointer (some a') := by
          generalize ρ' x = u at hx
          cases hx; exact ⟨_, rfl⟩
        obtain ⟨a', e'⟩ := this
        have e2' : ρ' y = .pointer none := by generalize ρ' y = u at hy; cases hy; rfl
        exact ⟨_, .bool _, fun w => lift_run (by rw [e', e2']; exact eq_run rfl rfl (equal_ptr hu _ w))⟩
      · rename_i a e1 e2 hu _
        cases h
        rw [e1] at hx; rw [e2] at hy
        have : ∃ a', ρ' x = .pointer (some a') := by
          generalize ρ' x = u at hx
          cases hx; exact ⟨_, rfl⟩
        obtain ⟨a', e'⟩ := this
        have e2' : ρ' y = .pointer none := by generalize ρ' y = u at hy; cases hy; rfl
        exact ⟨_, .bool _, fun w => lift_run (by rw [e', e2']; exact ne_run rfl rfl (equal_ptr hu _ w))⟩
      · rename_i e1 e2 hu _
        cases h
        rw [e1] at hx; rw [e2] at hy
        obtain ⟨a', c', e'⟩ := slice_some hx
        have e2' := hy.slice0_inv
        exact ⟨_, .bool _, fun w => lift_run (by rw [e', e2']; exact eq_run rfl rfl (equal_slice hu _ _ _ _ _ w))⟩
      · rename_i e1 e2 hu _
        cases h
        rw [e1] at hx; rw [e2] at hy
        obtain ⟨a', c', e'⟩ := slice_some hx
        have e2' := hy.slice0_inv
        exact ⟨_, .bool _, fun w => lift_run (by rw [e', e2']; exact ne_run rfl rfl (equal_slice hu _ _ _ _ _ w))⟩
      · split at h
        · rename_i hp
          simp only [Bool.and_eq_true] at hp
          have e1 := plainV_eq hp.1 hx
          have e2 := plainV_eq hp.2 hy
          split at h
          · rename_i r hr
            cases h
            exact ⟨_, .bool _, fun w => lift_run (by rw [e1, e2]; exact pureRun_run hr w)⟩
          · cases h
        · cases h
  case h_8 src dst x =>
    have hx := hE x
    split at h
    · rename_i k n k1 k2 e hs hd
      cases h
      rw [e] at hx
      exact ⟨_, .int _ _, fun w => lift_run (by rw [hx.int_inv]; simp [convert, run_underlying hs, run_underlying hd, Conv.intToInt])⟩
    · cases h
  case h_9 t x =>
    split at h
    · cases h
    · rename_i d hn hd
      cases h
      refine ⟨_, .iface (hE x), fun w => lift_run ?_⟩
      simp only [Instr.makeInterface, Sem.run_bind, run_underlying hd, Result.andThen_ok]
      cases d <;> first | rfl | exact absurd rfl (hn _)
    · cases h
  case h_10 f first captured =>
    cases h
    exact ⟨_, .func (VRL.map hE first) (VRL.map hE captured), fun w => lift_run (by simp [Instr.makeFunc])⟩
  case h_11 s x f =>
    have hx := hE x
    split at h
    · rename_i n off fo sz ft e hf
      split at h
      · cases h
      · rename_i hz
        cases h
        rw [e] at hx
        obtain ⟨y, hy, ev⟩ := hx.ptr_inv
        obtain ⟨fs, fd, hu, hfd, ho, ht, hsz⟩ := fieldA_run hf
        refine ⟨_, .ptr hy, fun w => lift_run ?_⟩
        rw [ev]
        have e1 : off + fo + y.δ = off + y.δ + fo := by omega
        simp [Instr.fieldAt, Sem.run_bind, run_underlying hu, hfd, Instr.sureAddr, fieldPlace, ht, run_sizeT hsz, hz, ho, add_none, e1]
    · cases h
  case h_12 t x f =>
    have hx := hE x
    split at h
    · rename_i cs fo sz ft e hf
      rw [e] at hx
      obtain ⟨fs, fd, hu, hfd, ho, ht, hsz⟩ := fieldA_run hf
      generalize hb : ρ' x = u at hx
      cases hx with
      | agg hl =>
        obtain ⟨v', h1, h2⟩ := part_sound h hl
        refine ⟨v', h1, fun w => lift_run ?_⟩
        simp [Instr.field, Sem.run_bind, run_underlying hu, hfd, asAgg, ho, ht, h2]
    · cases h
  case h_13 t x i =>
    have hx := hE x
    have hi := hE i
    split at h
    · rename_i kk k n off len cap e ei ex hu
      rw [ei] at hi; rw [ex] at hx
      split at h
      · rename_i sz hsz
        split at h
        · rename_i hk
          cases h
          have : ∃ y c, ι n = some y ∧ ρ' x = .slice (some ⟨y.b, off + y.δ, none⟩) len c := by
            rcases hx.slice_inv with ⟨hlt, y, hy, ev⟩ | ⟨e0, _⟩ | ⟨sz', y, c, o, ec, hy, h1, h2, h3, ev⟩
            · exact ⟨y, _, hy, ev⟩
            · omega
            · refine ⟨y, c, hy, ?_⟩
              rw [ev]
              rcases h3 with h3 | h3
              · omega
              · rw [h3]
          obtain ⟨y, c, hy, ev⟩ := this
          refine ⟨_, .ptr hy, fun w => lift_run ?_⟩
          rw [ev, hi.int_inv]
          have e1 : off + k.toNat * sz + y.δ = off + y.δ + k.toNat * sz := by omega
          simp [Instr.indexAt, asIntOf, Sem.run_bind, run_underlying hu, hk.1, hk.2, run_sizeT hsz, add_none, e1]
        · cases h
      · cases h
    · rename_i kk k n off len e ei ex hu
      rw [ei] at hi; rw [ex] at hx
      split at h
      · rename_i sz hsz
        split at h
        · rename_i hk
          cases h
          obtain ⟨y, hy, ev⟩ := hx.ptr_inv
          refine ⟨_, .ptr hy, fun w => lift_run ?_⟩
          rw [ev, hi.int_inv]
          have e1 : off + k.toNat * sz + y.δ = off + y.δ + k.toNat * sz := by omega
          simp [Instr.indexAt, Instr.sureAddr, asIntOf, Sem.run_bind, run_underlying hu, hk.1, hk.2, run_sizeT hsz, add_none, e1]
        · cases h
      · cases h
    · cases h
  case h_14 t x i =>
    have hx := hE x
    have hi := hE i
    split at h
    · rename_i kk k s ei ex hu
      rw [ei] at hi; rw [ex] at hx
      split at h
      · rename_i hk
        split at h
        · rename_i b hb
          cases h
          refine ⟨_, .int _ _, fun w => lift_run ?_⟩
          rw [hx.string_inv, hi.int_inv]
          simp [Instr.index, asIntOf, Sem.run_bind, run_underlying hu, hk, hb]
        · cases h
      · cases h
    · rename_i kk k cs len e ei ex hu
      rw [ei] at hi; rw [ex] at hx
      split at h
      · rename_i sz hsz
        split at h
        · rename_i hk
          generalize hb : ρ' x = u at hx
          cases hx with
          | agg hl =>
            obtain ⟨v', h1, h2⟩ := part_sound h hl
            refine ⟨v', h1, fun w => lift_run ?_⟩
            rw [hi.int_inv]
            simp [Instr.index, asIntOf, Sem.run_bind, run_underlying hu, hk.1, hk.2, run_sizeT hsz, h2]
        · cases h
      · cases h
    · cases h
  case h_15 t x lo hi mx =>
    obtain ⟨v', h1, h2⟩ := slice_sound hE (by unfold pureOp; simp only [undA_eq]; exact h)
    exact ⟨v', h1, fun w => lift_run (h2 w)⟩
  case h_16 x xt t ok =>
    have hx := hE x
    split at h
    · cases h
    · rename_i u vv d hn ex hd
      rw [ex] at hx
      generalize hb : ρ' x = b at hx
      cases hx with
      | iface hv =>
        rename_i vv'
        split at h
        · rename_i ht
          subst ht
          split at h
          · rename_i hok
            cases h
            refine ⟨_, .tuple (.cons hv (.cons (.bool _) .nil)), fun w => lift_run ?_⟩
            simp only [Instr.typeAssert, Sem.run_bind, run_underlying hd, Result.andThen_ok]
            cases d <;> first | exact absurd rfl (hn _) | simp [hok]
          · rename_i hok
            cases h
            refine ⟨_, hv, fun w => lift_run ?_⟩
            simp only [Instr.typeAssert, Sem.run_bind, run_underlying hd, Result.andThen_ok]
            cases d <;> first | exact absurd rfl (hn _) | simp [hok]
        · rename_i ht
          split at h
          · rename_i hok
            split at h
            · rename_i z hz
              split at h
              · rename_i hp
                cases h
                refine ⟨_, .tuple (.cons (plainV_refl hp) (.cons (.bool _) .nil)), fun w => lift_run ?_⟩
                simp only [Instr.typeAssert, Sem.run_bind, run_underlying hd, Result.andThen_ok]
                cases d <;> first | exact absurd rfl (hn _) | simp [hok, ht, run_zeroT hz]
              · cases h
            · cases h
          · cases h
    · cases h
  case h_17 x i =>
    have hx := hE x
    split at h
    · rename_i vs e
      rw [e] at hx
      generalize hb : ρ' x = b at hx
      cases hx with
      | tuple hl =>
        obtain ⟨v', h1, h2⟩ := hl.get h
        exact ⟨v', h2, fun w => lift_run (by simp [Instr.extract, h1])⟩
    · cases h
  case h_18 t parts =>
    split at h
    · rename_i zs fs hz hu
      split at h
      · rename_i ps hps
        split at h
        · rename_i hpl
          split at h
          · rename_i cs hf
            cases h
            obtain ⟨r', h1, h2⟩ := fill_sound hf (FR.map hE parts) (plainL_refl hpl)
            refine ⟨_, .agg h2, fun w => lift_run ?_⟩
            have hp := places_run (P := P) w hps
            simp only [Instr.build, Sem.run_bind, run_zeroT hz, Result.andThen_ok, run_underlying hu, Value.cells]
            rw [show ((⟨fs⟩ : Array Field).mapM (m := Sem) fun f => do pure (f.offset, ← sizeOf f.type)) = (fun l => List.toArray l) <$> (fs.mapM fun f => do pure (f.offset, ← sizeOf f.type)) from by rw [List.mapM_toArray]]
            rw [Sem.run_map, hp]
            simp only [Result.andThen_ok]
            have e : (fun (i : Nat) => ps.toArray[i]?) = fun i => ps[i]? := by funext i; simp
            have e2 : Array.map (fun x => (x.1, ρ' x.2)) ⟨parts⟩ = (⟨parts.map fun x => (x.1, ρ' x.2)⟩ : Array (Nat × Value)) := by simp
            rw [e, e2]
            simp only [h1]
            rfl
          · cases h
        · cases h
      · cases h
    · rename_i zs n e hz hu
      split at h
      · rename_i sz hsz
        split at h
        · rename_i hpl
          split at h
          · rename_i cs hf
            cases h
            obtain ⟨r', h1, h2⟩ := fill_sound hf (FR.map hE parts) (plainL_refl hpl)
            refine ⟨_, .agg h2, fun w => lift_run ?_⟩
            simp only [Instr.build, Sem.run_bind, run_zeroT hz, Result.andThen_ok, run_underlying hu, Value.cells, run_sizeT hsz]
            have e2 : Array.map (fun x => (x.1, ρ' x.2)) ⟨parts⟩ = (⟨parts.map fun x => (x.1, ρ' x.2)⟩ : Array (Nat × Value)) := by simp
            rw [e2]
            simp only [h1]
            rfl
          · cases h
        · cases h
      · cases h
    · cases h
  case h_19 x t =>
    have hx := hE x
    split at h
    · rename_i s e hu
      cases h
      rw [e] at hx
      exact ⟨_, .int _ _, fun w => by simp [resolve, invoke, builtin, Builtin.len_, Sem.run_bind, run_underlying hu, hx.string_inv, goInt]⟩
    · rename_i a n c t e hu
      cases h
      rw [e] at hx
      obtain ⟨a', c', ev⟩ := slice_len hx
      exact ⟨_, .int _ _, fun w => by simp [resolve, invoke, builtin, Builtin.len_, Sem.run_bind, run_underlying hu, ev, goInt]⟩
    · cases h
  case h_20 x y ts =>
    have hx := hE x
    have hy := hE y
    split at h
    · rename_i k a k' b e1 e2
      cases h
      rw [e1] at hx; rw [e2] at hy
      exact ⟨_, .int _ _, fun w => by simp [resolve, invoke, builtin, Builtin.max_, Builtin.max2, Sem.run_bind, hx.int_inv, hy.int_inv]⟩
    · cases h
  case h_21 x y ts =>
    have hx := hE x
    have hy := hE y
    split at h
    · rename_i k a k' b e1 e2
      cases h
      rw [e1] at hx; rw [e2] at hy
      exact ⟨_, .int _ _, fun w => by simp [resolve, invoke, builtin, Builtin.min_, Builtin.min2, Sem.run_bind, hx.int_inv, hy.int_inv]⟩
    · cases h
  case h_22 => cases h
end
end Go.Ev
