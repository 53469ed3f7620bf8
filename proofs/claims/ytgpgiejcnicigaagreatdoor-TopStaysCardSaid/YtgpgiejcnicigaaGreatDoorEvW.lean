/- The evaluator, part W: a region that draws its order: one operation. -/
import Derived.Test.YtgpgiejcnicigaaGreatDoorEvV
set_option linter.unusedSimpArgs false
set_option linter.unusedVariables false
namespace Go.Ev

section
variable {E : Env} {ops : Array Oper} {s : AS} {t : T Value} {hE : Heap} {cE : Nat} {recs : List Rec} {KE : Nat → Prop} {ι0 : Map} {w0 : World} {df : List Deferred}

/-- The blocks that wait. -/
def exq (base : Nat) (recs : List Rec) (S K : Nat → Prop) : Nat → Obj → Prop := fun n o => ∃ x ∈ recs.filterMap (newOf base), S x.1 ∧ ¬ K x.1 ∧ x.2 = (n, o)

/-- How far the chain is. -/
structure Pos (E : Env) (ops : Array Oper) (s : AS) (t : T Value) (hE : Heap) (cE : Nat) (recs : List Rec) (KE : Nat → Prop) (ι0 : Map) (w0 : World) (S : Nat → Prop) (ι : Map) (w : World)
    (done rest : List Rec) (h : Heap) (c : Nat) (K : Nat → Prop) (dm : Nat) : Prop where
  split : recs.reverse.filter isChain = done ++ rest
  dn : ∀ r ∈ done, S r.i
  rs : ∀ r ∈ rest, ¬ S r.i
  chain : ChainOK E (cloA ops.toList []) (recs.filterMap (newOf s.c)) h c K rest hE cE KE
  pend : Pend ι h (exq s.c recs S K) w
  above : Above ι c
  le : s.c + ops.toList.length ≤ c
  mask : ∀ x ∈ recs.filterMap (newOf s.c), K x.1 → bit dm x.1 = true
  reads : ∀ r ∈ recs, r.kd = .read → ¬ S r.i → readsA E r.t t ((cloA ops.toList []).getD r.i 0) r.i (cloA ops.toList []) (recs.filterMap (newOf s.c)) r.o rest h dm = true
  tr : TrQ ι0 s.h s.c w0 ι (fun n => (∃ o, h.get n = some o) ∨ ∃ o, exq s.c recs S K n o) c w

structure Inv (E : Env) (ops : Array Oper) (s : AS) (t : T Value) (hE : Heap) (cE : Nat) (recs : List Rec) (KE : Nat → Prop) (ι0 : Map) (w0 : World) (df : List Deferred) (S : Nat → Prop) (ι : Map) (a : Array Value) (w : World) : Prop where
  closed : Closed ops.toList S
  slot1 : ∀ (x j : Nat) o, ops.toList[j]? = some o → o.dst = some x → S j → VR ι ((t.get x).getD undef) (a.getD x undef)
  slot2 : ∀ x, (∀ (j : Nat) o, ops.toList[j]? = some o → o.dst = some x → ¬ S j) → VR ι ((s.t.get x).getD undef) (a.getD x undef)
  size : a.size = E.nt
  pos : ∃ done rest h c K dm, Pos E ops s t hE cE recs KE ι0 w0 S ι w done rest h c K dm
  free : ∀ j, j < ops.toList.length → ¬ S j → ι (s.c + j) = none
  g : GL E.G ι
  d : DR ι s.df df

theorem new_spec {base : Nat} {x : New} (hx : x ∈ recs.filterMap (newOf base)) : ∃ r ∈ recs, ∃ k, r.kd = .new x.2.2 k ∧ x.1 = r.i ∧ x.2.1 = base + r.i := by
  obtain ⟨r, hr, he⟩ := List.mem_filterMap.1 hx
  unfold newOf at he
  split at he
  · rename_i ob k hk
    cases he
    exact ⟨r, hr, k, hk, rfl, rfl⟩
  · cases he
theorem news_pw {base : Nat} (hp : recs.Pairwise (fun a b => a.i ≠ b.i)) : (recs.filterMap (newOf base)).Pairwise (fun a b => a.2.1 ≠ b.2.1) := by
  rw [List.pairwise_filterMap]
  refine hp.imp fun {a b} hab x hx y hy => ?_
  have h1 : x.2.1 = base + a.i := by
    unfold newOf at hx; split at hx
    · cases hx; rfl
    · cases hx
  have h2 : y.2.1 = base + b.i := by
    unfold newOf at hy; split at hy
    · cases hy; rfl
    · cases hy
  omega
theorem pw_inj {α β : Type} {f : α → β} : ∀ {l : List α} (_ : l.Pairwise (fun a b => f a ≠ f b)) {x y : α}, x ∈ l → y ∈ l → f x = f y → x = y
  | [], _, _, _, hx, _, _ => by cases hx
  | a :: l, h, x, y, hx, hy, he => by
    have h' := List.pairwise_cons.1 h
    rcases List.mem_cons.1 hx with h1 | hx <;> rcases List.mem_cons.1 hy with h2 | hy
    · rw [h1, h2]
    · rw [h1] at he; exact absurd he (h'.1 y hy)
    · rw [h2] at he; exact absurd he.symm (h'.1 x hx)
    · exact pw_inj h'.2 hx hy he
theorem new_one {base : Nat} (hp : recs.Pairwise (fun a b => a.i ≠ b.i)) {x y : New} (hx : x ∈ recs.filterMap (newOf base)) (hy : y ∈ recs.filterMap (newOf base)) (h : x.1 = y.1) : x = y := by
  have hpw := news_pw (base := base) hp
  obtain ⟨r, hr, k, h1, h2, h3⟩ := new_spec hx
  obtain ⟨q, hq, k', g1, g2, g3⟩ := new_spec hy
  have e : x.2.1 = y.2.1 := by omega
  exact pw_inj (f := fun x : New => x.2.1) hpw hx hy e

/-- The slots that an operation looks at. -/
theorem slots_ok (D : Dr E ops s t hE cE recs KE) {S : Nat → Prop} {ι : Map} {a : Array Value} {w : World} (I : Inv E ops s t hE cE recs KE ι0 w0 df S ι a w) {r : Rec} (hr : r ∈ recs) (hn : ¬ S r.i)
    (ha : ∀ o, ops.toList[r.i]? = some o → ∀ e ∈ o.after.toList, Region.binds .any e = true → S e.on) : ∀ x ∈ slotsOf ops r.o, VR ι ((r.t.get x).getD undef) (a.getD x undef) := by
  intro x hx
  have hc := D.chk r hr
  unfold checkA at hc
  simp only [Bool.and_eq_true] at hc
  have hs := (List.all_eq_true.1 hc.1) x hx
  unfold slotA at hs
  split at hs
  · rename_i j hj
    obtain ⟨hjl, hpj, _⟩ := List.findIdx?_eq_some_iff_getElem.1 hj
    have hoj : ops.toList[j]? = some ops.toList[j] := List.getElem?_eq_getElem hjl
    have hdj : (ops.toList[j]).dst = some x := by
      split at hpj
      · rename_i d hd; rw [hd, Nat.eq_of_beq_eq_true hpj]
      · cases hpj
    split at hs
    · rename_i hb
      have hS : S j := clo_closed I.closed (D.rc r hr).2 (.inr ha) hb
      have := I.slot1 x j _ hoj hdj hS
      rw [← veq_eq _ hs] at this
      exact this
    · split at hs
      · rename_i hb
        have hnS : ¬ S j := fun h => hn (clo_closed I.closed hjl (.inl h) hb)
        have := I.slot2 x fun k o hk hd hSk => by
          have := dsts_one D.dsts hk hoj hd hdj
          subst this
          exact hnS hSk
        rw [← veq_eq _ hs] at this
        exact this
      · cases hs
  · rename_i hj
    have := I.slot2 x fun k o hk hd => by
      exfalso
      have := (List.findIdx?_eq_none_iff.1 hj) o (List.mem_of_getElem? hk)
      rw [hd] at this
      simp at this
    rw [← veq_eq _ hs] at this
    exact this

/-- The slots behind an operation. -/
theorem slots_next (D : Dr E ops s t hE cE recs KE) {S : Nat → Prop} {ι ι' : Map} {a : Array Value} {w : World} (I : Inv E ops s t hE cE recs KE ι0 w0 df S ι a w) (he : Ext ι ι') {r : Rec} (hr : r ∈ recs) (ho : ops.toList[r.i]? = some r.o) {v v' : Value} (hd : dstOK t r.o v = true) (hv : VR ι' v v') :
    (∀ (x j : Nat) o, ops.toList[j]? = some o → o.dst = some x → (S j ∨ j = r.i) → VR ι' ((t.get x).getD undef) ((putV a r.o.dst v').getD x undef)) ∧
    (∀ x, (∀ (j : Nat) o, ops.toList[j]? = some o → o.dst = some x → ¬ (S j ∨ j = r.i)) → VR ι' ((s.t.get x).getD undef) ((putV a r.o.dst v').getD x undef)) ∧ (putV a r.o.dst v').size = E.nt := by
  have hsame : ∀ x, r.o.dst ≠ some x → (putV a r.o.dst v').getD x undef = a.getD x undef := by
    intro x hx
    unfold putV
    split
    · rename_i d hd
      have : d ≠ x := fun h => hx (by rw [hd, h])
      simp [Array.getD_eq_getD_getElem?, this]
    · rfl
  refine ⟨fun x j o hj hjd hS => ?_, fun x hx => ?_, ?_⟩
  · by_cases hx : r.o.dst = some x
    · have hlt : x < a.size := by rw [I.size]; exact D.dfit r.o (List.mem_of_getElem? ho) x hx
      unfold dstOK at hd
      rw [hx] at hd
      rw [← veq_eq _ hd]
      unfold putV
      rw [hx]
      simp [Array.getD_eq_getD_getElem?, hlt, hv]
    · rw [hsame x hx]
      rcases hS with hS | hS
      · exact (I.slot1 x j o hj hjd hS).mono he
      · subst hS
        rw [ho] at hj; cases hj
        exact absurd hjd hx
  · have hx' : r.o.dst ≠ some x := fun h => hx r.i r.o ho h (.inr rfl)
    rw [hsame x hx']
    exact (I.slot2 x fun j o hj hjd hS => hx j o hj hjd (.inl hS)).mono he
  · unfold putV
    split
    · simp [I.size]
    · exact I.size

theorem closed_next {S : Nat → Prop} {l : List Oper} {i : Nat} {o : Oper} (hS : Closed l S) (ho : l[i]? = some o) (ha : ∀ e ∈ o.after.toList, Region.binds .any e = true → S e.on) : Closed l (fun j => S j ∨ j = i) := by
  intro q p hq hs e he hb
  rcases hs with hs | rfl
  · exact .inl (hS q p hq hs e he hb)
  · rw [ho] at hq; cases hq
    exact .inl (ha e he hb)

/-- An operation that leaves the heap. -/
theorem pos_still (D : Dr E ops s t hE cE recs KE) {S : Nat → Prop} {ι : Map} {w : World} {done rest : List Rec} {h : Heap} {c : Nat} {K : Nat → Prop} {dm : Nat} (p : Pos E ops s t hE cE recs KE ι0 w0 S ι w done rest h c K dm) {r : Rec} (hr : r ∈ recs)
    (h1 : isChain r = false) (h2 : newOf s.c r = none) : Pos E ops s t hE cE recs KE ι0 w0 (fun j => S j ∨ j = r.i) ι w done rest h c K dm := by
  have huniq : ∀ q ∈ recs, q.i = r.i → q = r := fun q hq hi => pw_inj (f := fun r : Rec => r.i) D.pw hq hr hi
  have hex : ∀ n o, exq s.c recs (fun j => S j ∨ j = r.i) K n o → exq s.c recs S K n o := by
    rintro n o ⟨x, hx, hS, hK, he⟩
    refine ⟨x, hx, ?_, hK, he⟩
    rcases hS with hS | hS
    · exact hS
    · obtain ⟨q, hq, k, g1, g2, g3⟩ := new_spec hx
      have := huniq q hq (by omega)
      subst this
      unfold newOf at h2
      rw [g1] at h2
      cases h2
  have hmem : ∀ q ∈ rest, q ∈ recs ∧ isChain q = true := fun q hq => by
    have : q ∈ recs.reverse.filter isChain := by rw [p.split]; exact List.mem_append_right _ hq
    have := List.mem_filter.1 this
    exact ⟨by simpa using this.1, this.2⟩
  refine ⟨p.split, fun q hq => .inl (p.dn q hq), fun q hq hS => ?_, p.chain, p.pend.less hex, p.above, p.le, p.mask, fun q hq hk hS => p.reads q hq hk fun h => hS (.inl h), ?_⟩
  · rcases hS with hS | hS
    · exact p.rs q hq hS
    · have := huniq q (hmem q hq).1 hS
      subst this
      have h3 := (hmem _ hq).2
      rw [h1] at h3
      cases h3
  · have T := p.tr
    exact ⟨T.ext, T.le, T.low, T.size, T.frame, fun n x hn => T.live n x (hn.imp id fun ⟨o, ho⟩ => ⟨o, hex _ _ ho⟩), fun n hn => T.names n (hn.imp id fun ⟨o, ho⟩ => ⟨o, hex _ _ ho⟩), T.os, T.tape, T.output⟩
end
end Go.Ev
