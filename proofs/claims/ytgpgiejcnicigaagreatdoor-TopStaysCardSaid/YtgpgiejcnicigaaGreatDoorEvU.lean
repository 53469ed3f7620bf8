/- The evaluator, part U: what the pass through a region tells. -/
import Derived.Test.YtgpgiejcnicigaaGreatDoorEvT
set_option linter.unusedSimpArgs false
set_option linter.unusedVariables false
namespace Go.Ev

/-- The listed ones are closed under 'ahead'. -/
noncomputable def Closed (l : List Oper) (S : Nat → Prop) : Prop := ∀ q o, l[q]? = some o → S q → ∀ e ∈ o.after.toList, Region.binds .any e = true → S e.on

theorem clo_spec {l : List Oper} {S : Nat → Prop} (hS : Closed l S) : ∀ (r : List Oper) (pre : List Oper) (acc : List Nat), l = pre ++ r → acc.length = pre.length →
    (∀ q, q < pre.length → (S q ∨ ∀ o, l[q]? = some o → ∀ e ∈ o.after.toList, Region.binds .any e = true → S e.on) → ∀ j, bit (acc.getD q 0) j = true → S j) →
    (cloA r acc).length = l.length ∧ ∀ q, q < l.length → (S q ∨ ∀ o, l[q]? = some o → ∀ e ∈ o.after.toList, Region.binds .any e = true → S e.on) → ∀ j, bit ((cloA r acc).getD q 0) j = true → S j
  | [], pre, acc, hl, ha, hacc => by
    subst hl
    simp only [cloA]
    exact ⟨by simp [ha], fun q hq hs => hacc q (by simpa using hq) hs⟩
  | o :: r, pre, acc, hl, ha, hacc => by
    have ih := clo_spec hS r (pre ++ [o]) (acc ++ [maskA acc o.after.toList]) (by rw [hl]; simp) (by simp [ha]) (fun q hq hs j hj => ?_)
    · exact ih
    · rcases Nat.lt_or_ge q pre.length with h | h
      · refine hacc q h hs j ?_
        rwa [List.getD_eq_getElem?_getD, List.getElem?_append_left (by omega), ← List.getD_eq_getElem?_getD] at hj
      · obtain rfl : q = pre.length := by simp at hq; omega
        have ho : l[pre.length]? = some o := by rw [hl]; simp
        rw [List.getD_eq_getElem?_getD, List.getElem?_append_right (by omega)] at hj
        simp [ha] at hj
        have haft : ∀ e ∈ o.after.toList, Region.binds .any e = true → S e.on := by
          rcases hs with hs | hs
          · exact hS _ o ho hs
          · exact hs o ho
        rcases bit_mask hj with h0 | ⟨e, he, hb, h1 | h1⟩
        · simp [bit] at h0
        · rw [← h1]; exact haft e he hb
        · have hSe := haft e he hb
          rcases Nat.lt_or_ge e.on pre.length with h2 | h2
          · exact hacc e.on h2 (.inl hSe) j h1
          · exfalso
            have : acc.getD e.on 0 = 0 := by rw [List.getD_eq_getElem?_getD, List.getElem?_eq_none (by omega)]; rfl
            rw [this] at h1
            simp [bit] at h1
theorem clo_closed {l : List Oper} {S : Nat → Prop} (hS : Closed l S) {q : Nat} (hq : q < l.length) (hs : S q ∨ ∀ o, l[q]? = some o → ∀ e ∈ o.after.toList, Region.binds .any e = true → S e.on) {j : Nat} (hj : bit ((cloA l []).getD q 0) j = true) : S j :=
  (clo_spec hS l [] [] rfl rfl (fun q hq => by simp at hq)).2 q hq hs j hj

abbrev New := Nat × Nat × Obj
noncomputable def isChain (r : Rec) : Bool := match r.kd with | .chain .. => true | _ => false
noncomputable def newOf (base : Nat) (r : Rec) : Option New := match r.kd with | .new ob _ => some (r.i, base + r.i, ob) | _ => none
/-- One after the other, the chain's operations. -/
inductive ChainOK (E : Env) (cl : List Nat) (N : List New) : Heap → Nat → (Nat → Prop) → List Rec → Heap → Nat → (Nat → Prop) → Prop where
  | nil (h : Heap) (c : Nat) (K : Nat → Prop) : ChainOK E cl N h c K [] h c K
  | cons {h h2 hE : Heap} {c c2 cE : Nat} {K KE : Nat → Prop} {r : Rec} {rest : List Rec} {A : List New} {v : Value} :
      r.kd = .chain (addAll h (A.map (·.2))) c v h2 c2 → (∀ x ∈ A, x ∈ N ∧ bit (cl.getD r.i 0) x.1 = true ∧ ¬ K x.1) → A.Pairwise (fun a b => a.2.1 ≠ b.2.1) → callOne E r.t (addAll h (A.map (·.2))) c r.o.op = some (v, h2, c2) →
      ChainOK E cl N h2 c2 (fun j => K j ∨ ∃ x ∈ A, x.1 = j) rest hE cE KE → ChainOK E cl N h c K (r :: rest) hE cE KE
theorem ChainOK.snoc {E : Env} {cl : List Nat} {N : List New} {h h1 h2 : Heap} {c c1 c2 : Nat} {K K1 : Nat → Prop} {l : List Rec} (H : ChainOK E cl N h c K l h1 c1 K1) {r : Rec} {A : List New} {v : Value}
    (e1 : r.kd = .chain (addAll h1 (A.map (·.2))) c1 v h2 c2) (e2 : ∀ x ∈ A, x ∈ N ∧ bit (cl.getD r.i 0) x.1 = true ∧ ¬ K1 x.1) (e3 : A.Pairwise (fun a b => a.2.1 ≠ b.2.1)) (e4 : callOne E r.t (addAll h1 (A.map (·.2))) c1 r.o.op = some (v, h2, c2)) :
    ChainOK E cl N h c K (l ++ [r]) h2 c2 (fun j => K1 j ∨ ∃ x ∈ A, x.1 = j) := by
  induction H with
  | nil h c K => exact .cons e1 e2 e3 e4 (.nil _ _ _)
  | cons a b d e f ih => exact .cons a b d e (ih e1 e2 e4)
theorem ChainOK.mono {E : Env} {cl : List Nat} {N N' : List New} (hN : ∀ x ∈ N, x ∈ N') {h h1 : Heap} {c c1 : Nat} {K K1 : Nat → Prop} {l : List Rec} (H : ChainOK E cl N h c K l h1 c1 K1) : ChainOK E cl N' h c K l h1 c1 K1 := by
  induction H with
  | nil h c K => exact .nil _ _ _
  | cons a b d e f ih => exact .cons a (fun x hx => ⟨hN _ (b x hx).1, (b x hx).2⟩) d e ih

/-- What a record tells. -/
noncomputable def RecOK (E : Env) (ops : Array Oper) (base : Nat) (r : Rec) : Prop :=
  (∃ t0, r.t = pickT t0 (slotsOf ops r.o) .e) ∧ match r.kd with
  | .new ob k => newOp E.P (evJ E r.t) r.o.op = some (ob, k) ∧ kOK k = true ∧ fits (base + r.i) = true
  | _ => True

/-- How far a pass has come. -/
structure At (E : Env) (ops : Array Oper) (cl : List Nat) (base : Nat) (h0 : Heap) (c0 : Nat) (i : Nat) (h : Heap) (c : Nat) (pend : List New) (recs : List Rec) (K : Nat → Prop) : Prop where
  chain : ChainOK E cl (recs.filterMap (newOf base)) h0 c0 (fun _ => False) (recs.reverse.filter isChain) h c K
  pd : ∀ x ∈ pend, x ∈ recs.filterMap (newOf base) ∧ ¬ K x.1
  pw : pend.Pairwise (fun a b => a.2.1 ≠ b.2.1)
  small : ∀ x ∈ pend, x.1 < i ∧ x.2.1 = base + x.1
  rc : ∀ r ∈ recs, RecOK E ops base r ∧ r.i < i
  kSmall : ∀ j, K j → j < i

theorem At.plain {E : Env} {ops : Array Oper} {cl : List Nat} {base : Nat} {h0 h : Heap} {c0 i c : Nat} {pend : List New} {recs : List Rec} {K : Nat → Prop} (a : At E ops cl base h0 c0 i h c pend recs K) {r : Rec} (hr : r.i = i) (h1 : isChain r = false) (h2 : newOf base r = none) (h3 : RecOK E ops base r) :
    At E ops cl base h0 c0 (i + 1) h c pend (r :: recs) K where
  chain := by
    have e : (r :: recs).reverse.filter isChain = recs.reverse.filter isChain := by simp [h1]
    have e2 : (r :: recs).filterMap (newOf base) = recs.filterMap (newOf base) := by simp [h2]
    rw [e, e2]; exact a.chain
  pd x hx := by
    have e2 : (r :: recs).filterMap (newOf base) = recs.filterMap (newOf base) := by simp [h2]
    rw [e2]; exact a.pd x hx
  pw := a.pw
  small x hx := ⟨Nat.lt_succ_of_lt (a.small x hx).1, (a.small x hx).2⟩
  rc q hq := by
    rcases List.mem_cons.1 hq with rfl | hq
    · exact ⟨h3, by omega⟩
    · exact ⟨(a.rc q hq).1, Nat.lt_succ_of_lt (a.rc q hq).2⟩
  kSmall j hj := Nat.lt_succ_of_lt (a.kSmall j hj)

theorem pass_spec {E : Env} {ops : Array Oper} {cl : List Nat} {base : Nat} {h0 : Heap} {c0 : Nat} : ∀ (l : List Oper) {i : Nat} {t t' : T Value} {h h' : Heap} {c c' : Nat} {pend pend' : List New} {recs recs' : List Rec} {K : Nat → Prop},
    passA E ops cl base l i t h c pend recs = some (t', h', c', pend', recs') → At E ops cl base h0 c0 i h c pend recs K →
    (∃ K', At E ops cl base h0 c0 (i + l.length) h' c' pend' recs' K') ∧ (∃ rs, recs'.reverse = recs.reverse ++ rs ∧ rs.length = l.length ∧ ∀ j r, rs[j]? = some r → r.i = i + j ∧ l[j]? = some r.o) ∧
      (∀ x, (∀ o ∈ l, o.dst ≠ some x) → t'.get x = t.get x) ∧ (∀ o ∈ l, ∀ d, o.dst = some d → d < E.nt ∧ fits d = true)
  | [], i, t, t', h, h', c, c', pend, pend', recs, recs', K, e, a => by
    simp only [passA, Option.some.injEq, Prod.mk.injEq] at e
    obtain ⟨rfl, rfl, rfl, rfl, rfl⟩ := e
    exact ⟨⟨K, a⟩, ⟨[], by simp, rfl, fun j r hr => by simp at hr⟩, fun x _ => rfl, fun o ho => by cases ho⟩
  | o :: l, i, t, t', h, h', c, c', pend, pend', recs, recs', K, e, a => by
    unfold passA at e
    simp only at e
    -- what each kind goes on with
    have go : ∀ (kd : Kd) (v : Value) (h1 : Heap) (c1 : Nat) (pend1 : List New) (K1 : Nat → Prop) (tt : T Value),
        (match o.dst with
          | none => passA E ops cl base l (i + 1) t h1 c1 pend1 (⟨i, o, tt, kd⟩ :: recs)
          | some d => if Nat.blt d E.nt && fits d then T.setK D t d (some v) fun t' => passA E ops cl base l (i + 1) t' h1 c1 pend1 (⟨i, o, tt, kd⟩ :: recs) else none) = some (t', h', c', pend', recs') →
        At E ops cl base h0 c0 (i + 1) h1 c1 pend1 (⟨i, o, tt, kd⟩ :: recs) K1 →
        (∃ K', At E ops cl base h0 c0 (i + (o :: l).length) h' c' pend' recs' K') ∧ (∃ rs, recs'.reverse = recs.reverse ++ rs ∧ rs.length = (o :: l).length ∧ ∀ j r, rs[j]? = some r → r.i = i + j ∧ (o :: l)[j]? = some r.o) ∧
          (∀ x, (∀ p ∈ o :: l, p.dst ≠ some x) → t'.get x = t.get x) ∧ (∀ p ∈ o :: l, ∀ d, p.dst = some d → d < E.nt ∧ fits d = true) := by
      intro kd v h1 c1 pend1 K1 tt e1 a1
      have fin : ∀ t1, passA E ops cl base l (i + 1) t1 h1 c1 pend1 (⟨i, o, tt, kd⟩ :: recs) = some (t', h', c', pend', recs') → (∀ x, o.dst ≠ some x → t1.get x = t.get x) → (∀ d, o.dst = some d → d < E.nt ∧ fits d = true) →
          (∃ K', At E ops cl base h0 c0 (i + (o :: l).length) h' c' pend' recs' K') ∧ (∃ rs, recs'.reverse = recs.reverse ++ rs ∧ rs.length = (o :: l).length ∧ ∀ j r, rs[j]? = some r → r.i = i + j ∧ (o :: l)[j]? = some r.o) ∧
          (∀ x, (∀ p ∈ o :: l, p.dst ≠ some x) → t'.get x = t.get x) ∧ (∀ p ∈ o :: l, ∀ d, p.dst = some d → d < E.nt ∧ fits d = true) := by
        intro t1 e2 hx hd
        obtain ⟨⟨K', a2⟩, ⟨rs, r1, r2, r3⟩, x1, x2⟩ := pass_spec l e2 a1
        refine ⟨⟨K', by rw [show i + (o :: l).length = i + 1 + l.length by simp; omega]; exact a2⟩, ⟨⟨i, o, tt, kd⟩ :: rs, by rw [r1]; simp, by simp [r2], fun j r hr => ?_⟩, fun x hn => ?_, fun p hp d hpd => ?_⟩
        · cases j with
          | zero => simp at hr; subst hr; exact ⟨rfl, rfl⟩
          | succ j =>
            simp only [List.getElem?_cons_succ] at hr ⊢
            obtain ⟨q1, q2⟩ := r3 j r hr
            exact ⟨by omega, q2⟩
        · rw [x1 x (fun p hp => hn p (List.mem_cons_of_mem _ hp)), hx x (hn o (List.mem_cons_self ..))]
        · rcases List.mem_cons.1 hp with rfl | hp
          · exact hd d hpd
          · exact x2 p hp d hpd
      split at e1
      · rename_i hd
        exact fin t e1 (fun x _ => rfl) (fun d h => by rw [hd] at h; cases h)
      · rename_i d hd
        split at e1
        · rename_i hfit
          simp only [Bool.and_eq_true] at hfit
          rw [T.setK_eq] at e1
          refine fin _ e1 (fun x hx => ?_) (fun d' h => by rw [hd] at h; cases h; exact ⟨Nat.le_of_ble_eq_true hfit.1, hfit.2⟩)
          rw [T.get_set _ _ _ _ _ (fits_lt hfit.2), if_neg (fun h => hx (by rw [hd, h]))]
        · cases e1
    split at e
    · cases e
    · exact go .skip undef h c pend K _ e (a.plain rfl rfl rfl ⟨⟨t, rfl⟩, trivial⟩)
    · split at e
      · exact go .pure _ h c pend K _ e (a.plain rfl rfl rfl ⟨⟨t, rfl⟩, trivial⟩)
      · split at e
        · exact go .read _ h c pend K _ e (a.plain rfl rfl rfl ⟨⟨t, rfl⟩, trivial⟩)
        · split at e
          · rename_i ob k hn
            split at e
            · rename_i hk
              simp only [Bool.and_eq_true] at hk
              refine go (.new ob k) _ h c _ K _ e ?_
              have hnew : newOp E.P (evJ E (pickT t (slotsOf ops o) .e)) o.op = some (ob, k) := by
                split at hn
                · cases hn
                · exact hn
              let r0 : Rec := ⟨i, o, pickT t (slotsOf ops o) .e, .new ob k⟩
              have e1 : (r0 :: recs).filterMap (newOf base) = (i, base + i, ob) :: recs.filterMap (newOf base) := rfl
              have e2 : (r0 :: recs).reverse.filter isChain = recs.reverse.filter isChain := by simp [isChain, r0]
              constructor
              · rw [e2, e1]; exact a.chain.mono fun x hx => List.mem_cons_of_mem _ hx
              · intro x hx
                rw [e1]
                rcases List.mem_cons.1 hx with rfl | hx
                · exact ⟨List.mem_cons_self .., fun h => Nat.lt_irrefl _ (a.kSmall _ h)⟩
                · exact ⟨List.mem_cons_of_mem _ (a.pd x hx).1, (a.pd x hx).2⟩
              · refine List.pairwise_cons.2 ⟨fun x hx => ?_, a.pw⟩
                have := a.small x hx
                simp only; omega
              · intro x hx
                rcases List.mem_cons.1 hx with rfl | hx
                · exact ⟨Nat.lt_succ_self _, rfl⟩
                · exact ⟨Nat.lt_succ_of_lt (a.small x hx).1, (a.small x hx).2⟩
              · intro q hq
                rcases List.mem_cons.1 hq with rfl | hq
                · exact ⟨⟨⟨t, rfl⟩, hnew, hk.1, hk.2⟩, Nat.lt_succ_self _⟩
                · exact ⟨(a.rc q hq).1, Nat.lt_succ_of_lt (a.rc q hq).2⟩
              · intro j hj; exact Nat.lt_succ_of_lt (a.kSmall j hj)
            · cases e
          · split at e
            · cases e
            · rename_i v h2 c2 hcall
              let A := pend.filter fun x => bit (cl.getD i 0) x.1
              let r0 : Rec := ⟨i, o, pickT t (slotsOf ops o) .e, .chain (addAll h (A.map (·.2))) c v h2 c2⟩
              refine go (.chain _ c v h2 c2) v h2 c2 _ (fun j => K j ∨ ∃ x ∈ A, x.1 = j) _ e ?_
              have e1 : (r0 :: recs).filterMap (newOf base) = recs.filterMap (newOf base) := rfl
              have e2 : (r0 :: recs).reverse.filter isChain = recs.reverse.filter isChain ++ [r0] := by simp [isChain, r0]
              constructor
              · show ChainOK E cl ((r0 :: recs).filterMap (newOf base)) h0 c0 _ ((r0 :: recs).reverse.filter isChain) h2 c2 _
                rw [e2, e1]
                refine a.chain.snoc (A := A) (r := r0) rfl (fun x hx => ?_) ?_ hcall
                · have := List.mem_filter.1 hx
                  exact ⟨(a.pd x this.1).1, this.2, (a.pd x this.1).2⟩
                · exact a.pw.sublist List.filter_sublist
              · intro x hx
                have hm := List.mem_filter.1 hx
                refine ⟨(a.pd x hm.1).1, ?_⟩
                rintro (h | ⟨y, hy, hxy⟩)
                · exact (a.pd x hm.1).2 h
                · have h1 : bit (cl.getD i 0) y.1 = true := (List.mem_filter.1 hy).2
                  rw [hxy] at h1
                  have h2 : (!(bit (cl.getD i 0) x.1)) = true := hm.2
                  rw [h1] at h2
                  cases h2
              · exact a.pw.sublist List.filter_sublist
              · intro x hx
                have hm := List.mem_filter.1 hx
                exact ⟨Nat.lt_succ_of_lt (a.small x hm.1).1, (a.small x hm.1).2⟩
              · intro q hq
                rcases List.mem_cons.1 hq with rfl | hq
                · exact ⟨⟨⟨t, rfl⟩, trivial⟩, Nat.lt_succ_self _⟩
                · exact ⟨(a.rc q hq).1, Nat.lt_succ_of_lt (a.rc q hq).2⟩
              · intro j hj
                rcases hj with hj | ⟨x, hx, rfl⟩
                · exact Nat.lt_succ_of_lt (a.kSmall j hj)
                · exact Nat.lt_succ_of_lt (a.small x (List.mem_filter.1 hx).1).1
end Go.Ev
