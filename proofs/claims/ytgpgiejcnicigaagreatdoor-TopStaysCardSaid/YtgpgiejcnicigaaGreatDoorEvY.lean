/- The evaluator, part Y: a region that draws its order, whole. -/
import Derived.Test.YtgpgiejcnicigaaGreatDoorEvX
import Derived.Test.YtgpgiejcnicigaaGreatDoorEvS
import Derived.Orders
set_option linter.unusedSimpArgs false
set_option linter.unusedVariables false
namespace Go.Ev

section
variable {E : Env} {ops : Array Oper} {s : AS} {t : T Value} {hE : Heap} {cE : Nat} {recs : List Rec} {KE : Nat → Prop} {ι0 : Map} {w0 : World} {df : List Deferred} {ki : CallKind} {ro : Option Nat}

theorem edges_lt : ∀ {l : List Oper} {i : Nat}, edgesA l i = true → ∀ {j : Nat} {o : Oper}, l[j]? = some o → ∀ e ∈ o.after.toList, Region.binds .any e = true → e.on < i + j
  | [], i, _, j, o, h, _, _, _ => by simp at h
  | q :: l, i, h, j, o, ho, e, he, hb => by
    simp only [edgesA, Bool.and_eq_true] at h
    cases j with
    | zero =>
      simp at ho; subst ho
      have := (List.all_eq_true.1 h.1) e he
      simp only [hb, Bool.not_true, Bool.false_or] at this
      have := Nat.le_of_ble_eq_true this
      omega
    | succ j =>
      have := edges_lt h.2 (j := j) (by simpa using ho) e he hb
      omega

theorem sched (hc : CallOK E.P E.G E.call) (D : Dr E ops s t hE cE recs KE) (hed : edgesA ops.toList 0 = true) (k : List Item) (cs : List Frame) : ∀ (fuel tt : Nat) (listed : Array Bool) (L : List Nat), listed.size = ops.size → L.length ≤ fuel →
    (∀ j, j < ops.size → ¬ listed.getD j false = true → j ∈ L) → ∀ {ι : Map} {a : Array Value} {w : World}, Inv E ops s t hE cE recs KE ι0 w0 df (fun j => listed.getD j false = true) ι a w →
    ∃ ι' w' a' S', Inv E ops s t hE cE recs KE ι0 w0 df S' ι' a' w' ∧ (∀ j, j < ops.size → S' j) ∧
      Steps E.P (lone (Fr E.fn ki ro df a (.inRegion ops (Region.linearise.go .any ops fuel tt listed []) :: k)) cs w) (lone (Fr E.fn ki ro df a' k) cs w') := by
  intro fuel
  induction fuel with
  | zero =>
    intro tt listed L hs hL hall ι a w I
    have : L = [] := List.eq_nil_of_length_eq_zero (by omega)
    subst this
    refine ⟨ι, w, a, _, I, fun j hj => ?_, .one st_done⟩
    refine Classical.byContradiction fun h => ?_
    have := hall j hj h
    cases this
  | succ fuel ih =>
    intro tt listed L hs hL hall ι a w I
    simp only [Region.linearise.go]
    generalize hrs : ((List.range ops.size).filter fun i => !listed.getD i true && ((ops[i]?).map (·.after.all fun e => !Region.binds .any e || listed.getD e.on false)).getD false) = rs
    have hmem : ∀ i, i ∈ rs ↔ i < ops.size ∧ ¬ listed.getD i false = true ∧ ∀ o, ops.toList[i]? = some o → ∀ e ∈ o.after.toList, Region.binds .any e = true → listed.getD e.on false = true := by
      intro i
      rw [← hrs, List.mem_filter, List.mem_range]
      constructor
      · rintro ⟨h1, h2⟩
        simp only [Bool.and_eq_true, Bool.not_eq_true'] at h2
        obtain ⟨h2, h3⟩ := h2
        refine ⟨h1, ?_, fun o ho e he hb => ?_⟩
        · have hlt : i < listed.size := by omega
          rw [Array.getD_eq_getD_getElem?, Array.getElem?_eq_getElem hlt] at h2 ⊢
          simp only [Option.getD_some] at h2 ⊢
          simp [h2]
        · rw [Array.getElem?_toList] at ho
          rw [ho] at h3
          simp only [Option.map_some, Option.getD_some] at h3
          have := (Array.all_eq_true_iff_forall_mem.1 h3) e (by simpa using he)
          simpa [hb] using this
      · rintro ⟨h1, h2, h3⟩
        refine ⟨h1, ?_⟩
        have hlt : i < listed.size := by omega
        have ho : ops[i]? = some ops[i] := Array.getElem?_eq_getElem h1
        simp only [Bool.and_eq_true, Bool.not_eq_true']
        refine ⟨?_, ?_⟩
        · rw [Array.getD_eq_getD_getElem?, Array.getElem?_eq_getElem hlt] at h2 ⊢
          simp only [Option.getD_some] at h2 ⊢
          simpa using h2
        · rw [ho]
          simp only [Option.map_some, Option.getD_some]
          rw [Array.all_eq_true_iff_forall_mem]
          intro e he
          cases hb : Region.binds .any e with
          | false => simp
          | true => simp [h3 _ (by rw [Array.getElem?_toList]; exact ho) e (by simpa using he) hb]
    cases hpick : rs[tt % rs.length]? with
    | none =>
      have hemp : rs = [] := by
        cases rs with
        | nil => rfl
        | cons x r =>
          exfalso
          have : tt % (x :: r).length < (x :: r).length := Nat.mod_lt _ (by simp)
          rw [List.getElem?_eq_getElem this] at hpick
          cases hpick
      refine ⟨ι, w, a, _, I, ?_, .one st_done⟩
      intro j
      induction j using Nat.strongRecOn with
      | _ j ihj =>
        intro hj
        refine Classical.byContradiction fun h => ?_
        have : j ∈ rs := (hmem j).2 ⟨hj, h, fun o ho e he hb => by
          have := edges_lt hed ho e he hb
          exact ihj e.on (by omega) (by omega)⟩
        rw [hemp] at this
        cases this
    | some i =>
      obtain ⟨h1, h2, h3⟩ := (hmem i).1 (List.mem_of_getElem? hpick)
      have ho : ops.toList[i]? = some ops[i] := by rw [Array.getElem?_toList]; exact Array.getElem?_eq_getElem h1
      obtain ⟨r, hr, hri, hro⟩ := D.at_ i _ ho
      subst hri
      rw [← hro] at ho
      obtain ⟨ι1, w1, a1, I1, s1⟩ := draw_step (ki := ki) (ro := ro) hc D I hr ho h2 (h3 r.o ho) k cs (Region.linearise.go .any ops fuel (tt / rs.length) (listed.setIfInBounds r.i true) [])
      have hS : (fun j => listed.getD j false = true ∨ j = r.i) = fun j => (listed.setIfInBounds r.i true).getD j false = true := by
        funext j
        apply propext
        have hlt : r.i < listed.size := by omega
        by_cases hj : r.i = j
        · subst hj
          simp [Array.getD_eq_getD_getElem?, hlt]
        · have hj' : ¬ j = r.i := fun h => hj h.symm
          simp [Array.getD_eq_getD_getElem?, hj, hj']
      rw [hS] at I1
      have hin : r.i ∈ L := hall r.i h1 h2
      obtain ⟨ι2, w2, a2, S2, g1, g2, g3⟩ := ih (tt / rs.length) (listed.setIfInBounds r.i true) (L.erase r.i) (by simp [hs]) (by rw [List.length_erase_of_mem hin]; omega) (fun j hj hn => by
        have hne : j ≠ r.i := fun h => hn (by
          subst h
          have hlt : r.i < listed.size := by omega
          simp [Array.getD_eq_getD_getElem?, hlt])
        refine (List.mem_erase_of_ne hne).2 (hall j hj fun h => hn ?_)
        have hne' : r.i ≠ j := fun h => hne h.symm
        simpa [Array.getD_eq_getD_getElem?, hne'] using h) I1
      refine ⟨ι2, w2, a2, S2, g1, g2, ?_⟩
      show Steps E.P (lone (Fr E.fn ki ro df a (.inRegion ops (Region.linearise.go .any ops fuel (tt / rs.length) (listed.setIfInBounds r.i true) [r.i]) :: k)) cs w) _
      rw [linearise_go_acc]
      exact s1.trans g3
end

theorem draw_ok (E : Env) (hm : E.P.follows .mixedOrders = true) (hc : CallOK E.P E.G E.call) : DrawOK E := by
  intro ki ro id ops s s' e ι w a df hro R k cs
  unfold drawA at e
  simp only at e
  split at e
  · cases e
  · rename_i t hE cE pend recs hp
    split at e
    · rename_i hck
      cases e
      simp only [Bool.and_eq_true] at hck
      obtain ⟨⟨⟨hed, hds⟩, hch⟩, hall⟩ := hck
      obtain ⟨⟨KE, A⟩, ⟨rs, r1, r2, r3⟩, x1, x2⟩ := pass_spec (E := E) (ops := ops) (cl := cloA ops.toList []) (base := s.c) (h0 := s.h) (c0 := s.c + ops.toList.length) (K := fun _ => False) ops.toList hp
        ⟨.nil _ _ _, fun x hx => (by cases hx), .nil, fun x hx => (by cases hx), fun r hr => (by cases hr), fun j hj => hj.elim⟩
      have r1' : recs.reverse = rs := by simpa using r1
      have hrec : ∀ r, r ∈ recs ↔ r ∈ rs := fun r => by rw [← r1']; simp
      have D : Dr E ops s t hE cE recs KE := {
        chain := A.chain
        rc := fun r hr => ⟨(A.rc r hr).1, by have := (A.rc r hr).2; omega⟩
        at_ := fun i o ho => by
          have hi : i < rs.length := by rw [r2]; exact (List.getElem?_eq_some_iff.1 ho).1
          obtain ⟨q1, q2⟩ := r3 i rs[i] (List.getElem?_eq_getElem hi)
          refine ⟨rs[i], (hrec _).2 (List.getElem_mem _), by omega, ?_⟩
          rw [ho] at q2; cases q2; rfl
        pw := by
          have : rs.Pairwise (fun a b => a.i ≠ b.i) := by
            rw [List.pairwise_iff_getElem]
            intro i j hi hj hij
            have h1 := (r3 i rs[i] (List.getElem?_eq_getElem hi)).1
            have h2 := (r3 j rs[j] (List.getElem?_eq_getElem hj)).1
            omega
          rw [← r1', List.pairwise_reverse] at this
          exact this.imp fun h => h.symm
        chk := fun r hr => (List.all_eq_true.1 hall) r hr
        dsts := hds
        chn := hch
        other := x1
        dfit := fun o ho d hd => (x2 o ho d hd).1 }
      let listed : Array Bool := Array.replicate ops.size false
      have hnone : ∀ j, ¬ listed.getD j false = true := fun j => by
        simp only [listed, Array.getD_eq_getD_getElem?, Array.getElem?_replicate]
        split <;> simp
      have I : Inv E ops s t hE cE recs KE ι w.drew df (fun j => listed.getD j false = true) ι a w.drew := {
        closed := fun q o _ h => absurd h (hnone q)
        slot1 := fun x j o _ _ h => absurd h (hnone j)
        slot2 := fun x _ => R.t.2 x
        size := R.t.1
        pos := by
          have hex : ∀ n o, ¬ exq s.c recs (fun j => listed.getD j false = true) (fun _ => False) n o := fun n o ⟨x, _, h, _⟩ => hnone _ h
          refine ⟨[], recs.reverse.filter isChain, s.h, s.c + ops.toList.length, fun _ => False, 0, rfl, fun r hr => (by cases hr), fun r _ => hnone _, A.chain, ?_, fun n hn => R.c n (by omega), Nat.le_refl _, fun x _ h => h.elim, fun r hr hk _ => ?_, ?_⟩
          · exact ⟨R.h.drew, fun n o h => absurd h (hex n o), fun n o h => absurd h (hex n o), fun n o h => absurd h (hex n o), fun n o q h => absurd h (hex n o), fun n o m q x y h => absurd h (hex n o), fun n o m q x y h => absurd h (hex n o)⟩
          · have := (List.all_eq_true.1 hall) r hr
            unfold checkA at this
            rw [hk] at this
            simp only [Bool.and_eq_true] at this
            exact this.2.2
          · exact ⟨.refl ι, by omega, fun _ _ h => h, Nat.le_refl _, fun _ _ _ => rfl, fun n x hn hx => (by
              rcases hn with ⟨o, ho⟩ | ⟨o, ho⟩
              · exact .inr ⟨n, o, x, ho, hx, rfl⟩
              · exact absurd ho (hex n o)), fun n hn => (by
              rcases hn with hn | ⟨o, ho⟩
              · exact .inl hn
              · exact absurd ho (hex n o)), rfl, rfl, rfl⟩
        free := fun j _ _ => R.c _ (by omega)
        g := R.g
        d := R.d }
      obtain ⟨ι', w', a', S', I', hS, hsteps⟩ := sched (ki := ki) (ro := ro) hc D hed k cs ops.size (w.tape w.drawn (.order E.fn id)) listed (List.range ops.size) (by simp [listed]) (by simp) (fun j hj _ => List.mem_range.2 hj) I
      obtain ⟨done, rest, h, c, K, dm, p⟩ := I'.pos
      have hrest : rest = [] := by
        cases rest with
        | nil => rfl
        | cons q r =>
          exfalso
          have hq : q ∈ recs := by
            have : q ∈ recs.reverse.filter isChain := by rw [p.split]; simp
            simpa using (List.mem_filter.1 this).1
          exact p.rs q (List.mem_cons_self ..) (hS q.i (by have := (D.rc q hq).2; simpa using this))
      subst hrest
      have hco := p.chain
      cases hco
      have hmemp : ∀ x ∈ pend, exq s.c recs S' KE x.2.1 x.2.2 := fun x hx => by
        obtain ⟨h1, h2⟩ := A.pd x hx
        have h3 := (A.small x hx).1
        exact ⟨x, h1, hS x.1 (by simpa using h3), h2, rfl⟩
      have pa := p.pend.adds (A := pend.map (·.2)) (fun y hy => by
        obtain ⟨x, hx, rfl⟩ := List.mem_map.1 hy
        exact hmemp x hx) (by rw [List.pairwise_map]; exact A.pw)
      have hget : ∀ (L : List (Nat × Obj)) (h : Heap) (n : Nat) (o : Obj), (∀ x ∈ L, fits x.1 = true) → (addAll h L).get n = some o → (∃ o, h.get n = some o) ∨ ∃ x ∈ L, x.1 = n := by
        intro L
        induction L with
        | nil => intro h n o _ hg; exact .inl ⟨o, hg⟩
        | cons x L ih =>
          intro h n o hf hg
          obtain ⟨y1, y2⟩ := x
          rw [addAll_cons] at hg
          rcases ih _ n o (fun y hy => hf y (List.mem_cons_of_mem _ hy)) hg with ⟨o', h'⟩ | ⟨y, hy, he⟩
          · rw [Heap.get_put (hf _ (List.mem_cons_self ..))] at h'
            split at h'
            · rename_i e; exact .inr ⟨_, List.mem_cons_self .., e.symm⟩
            · exact .inl ⟨o', h'⟩
          · exact .inr ⟨y, List.mem_cons_of_mem _ hy, he⟩
      have hhas : ∀ n o, (addAll hE (pend.map (·.2))).get n = some o → (∃ o, hE.get n = some o) ∨ ∃ o, exq s.c recs S' KE n o := fun n o hg => by
        rcases hget _ hE n o (fun y hy => by
          obtain ⟨x, hx, rfl⟩ := List.mem_map.1 hy
          exact p.pend.fit _ _ (hmemp x hx)) hg with h1 | ⟨y, hy, he⟩
        · exact .inl h1
        · obtain ⟨x, hx, rfl⟩ := List.mem_map.1 hy
          exact .inr ⟨x.2.2, by rw [← he]; exact hmemp x hx⟩
      have T := p.tr
      refine ⟨ι', w', a', df, ⟨⟨I'.size, fun x => ?_⟩, pa.rl, p.above, I'.g, I'.d⟩, ?_, .head st_draw ?_⟩
      · by_cases hx : ∃ (j : Nat) (o : Oper), ops.toList[j]? = some o ∧ o.dst = some x
        · obtain ⟨j, o, hj, hd⟩ := hx
          exact I'.slot1 x j o hj hd (hS j (by simpa using (List.getElem?_eq_some_iff.1 hj).1))
        · have := I'.slot2 x fun j o hj hd _ => hx ⟨j, o, hj, hd⟩
          rw [← D.other x (fun o ho hd => by
            obtain ⟨j, hj⟩ := List.getElem?_of_mem ho
            exact hx ⟨j, o, hj, hd⟩)] at this
          exact this
      · exact ⟨T.ext, by have := T.le; exact this, T.low, T.size, T.frame, fun n o x hg hx => T.live n x (hhas n o hg) hx, fun n o hg => T.names n (hhas n o hg), T.os, T.tape, T.output⟩
      · rw [Region.schedule, hm]
        simp only [Bool.true_or, if_true]
        exact hsteps
    · cases e

/-- A call, as a contract, all told. -/
theorem calls_eval {P : Program} {G : Gp} {fuel : Nat} {summ : FuncId → List Value → Heap → Option Value} (hs : SummOK P G summ) (hm : P.follows .mixedOrders = true) {n : Nat}
    {f : FuncId} {xs : List Value} {h h' : Heap} {c c' : Nat} {v : Value} (e : bodyA P G fuel (callA P G summ fuel n) (bodyA P G fuel (callA P G summ fuel n) (fun _ _ _ _ => none)) f xs h c = some (v, h', c'))
    {ι : Map} {w : World} (r : Rl ι h w) (ac : Above ι c) (g : GL G ι) {xs' : List Value} (hx : VRL ι xs xs') :
    Calls P f ⟨xs'⟩ w fun e w' => ∃ ι' v', e = .returned v' ∧ VR ι' v v' ∧ Rl ι' h' w' ∧ Tr ι h c w ι' h' c' w' :=
  calls_of_eval hs (fun E h1 h2 h3 => draw_ok E (by rw [h1]; exact hm) (by rw [h1, h2]; exact h3)) e r ac g hx
end Go.Ev
