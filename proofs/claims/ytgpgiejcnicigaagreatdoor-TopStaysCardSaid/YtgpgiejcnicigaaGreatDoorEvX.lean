/- The evaluator, part X: a region that draws its order: any operation that may come up. -/
import Derived.Test.YtgpgiejcnicigaaGreatDoorEvW
set_option linter.unusedSimpArgs false
set_option linter.unusedVariables false
namespace Go.Ev

section
variable {E : Env} {ops : Array Oper} {s : AS} {t : T Value} {hE : Heap} {cE : Nat} {recs : List Rec} {KE : Nat → Prop} {ι0 : Map} {w0 : World} {df : List Deferred} {ki : CallKind} {ro : Option Nat}

theorem isCall_spec {op : Op} (h : isCall op = true) : ∃ f xs ts, op = .call { callee := .value f, args := ⟨xs⟩, argTypes := ts } := by
  unfold isCall at h
  split at h
  · rename_i f as ts
    obtain ⟨xs⟩ := as
    exact ⟨f, xs, ts, rfl⟩
  · cases h

theorem draw_step (hc : CallOK E.P E.G E.call) (D : Dr E ops s t hE cE recs KE) {S : Nat → Prop} {ι : Map} {a : Array Value} {w : World} (I : Inv E ops s t hE cE recs KE ι0 w0 df S ι a w) {r : Rec} (hr : r ∈ recs) (ho : ops.toList[r.i]? = some r.o) (hn : ¬ S r.i)
    (ha : ∀ e ∈ r.o.after.toList, Region.binds .any e = true → S e.on) (k : List Item) (cs : List Frame) (todo : List Nat) :
    ∃ ι' w' a', Inv E ops s t hE cE recs KE ι0 w0 df (fun j => S j ∨ j = r.i) ι' a' w' ∧
      Steps E.P (lone (Fr E.fn ki ro df a (.inRegion ops (r.i :: todo) :: k)) cs w) (lone (Fr E.fn ki ro df a' (.inRegion ops todo :: k)) cs w') := by
  have ha' : ∀ o, ops.toList[r.i]? = some o → ∀ e ∈ o.after.toList, Region.binds .any e = true → S e.on := fun o h => by rw [ho] at h; cases h; exact ha
  have hi : ops[r.i]? = some r.o := by rw [← Array.getElem?_toList]; exact ho
  have hsl := slots_ok D I hr hn ha'
  have hrc := D.rc r hr
  have hck := D.chk r hr
  have hlow : ∀ {j : Nat}, bit ((cloA ops.toList []).getD r.i 0) j = true → S j := fun hj => clo_closed I.closed hrc.2 (.inr ha') hj
  have hE' : ∀ x, VR ι (evJ E r.t x) ((Fr E.fn ki ro df a (.inRegion ops (r.i :: todo) :: k)).eval x) := evJ_sound (F := Fr E.fn ki ro df a (.inRegion ops (r.i :: todo) :: k)) hrc.1.1 hsl I.g
  have huniq : ∀ q ∈ recs, q.i = r.i → q = r := fun q hq h => pw_inj (f := fun r : Rec => r.i) D.pw hq hr h
  obtain ⟨done, rest, h, c, K, dm, p⟩ := I.pos
  unfold checkA at hck
  simp only [Bool.and_eq_true] at hck
  have hck2 := hck.2
  -- an operation that leaves the heap and the world
  have still : ∀ {v v' : Value}, isChain r = false → newOf s.c r = none → dstOK t r.o v = true → VR ι v v' →
      Steps E.P (lone (Fr E.fn ki ro df a (.inRegion ops (r.i :: todo) :: k)) cs w) (lone (Fr E.fn ki ro df (putV a r.o.dst v') (.inRegion ops todo :: k)) cs w) →
      ∃ ι' w' a', Inv E ops s t hE cE recs KE ι0 w0 df (fun j => S j ∨ j = r.i) ι' a' w' ∧
      Steps E.P (lone (Fr E.fn ki ro df a (.inRegion ops (r.i :: todo) :: k)) cs w) (lone (Fr E.fn ki ro df a' (.inRegion ops todo :: k)) cs w') := by
    intro v v' h1 h2 hd hv hs
    obtain ⟨n1, n2, n3⟩ := slots_next D I (.refl ι) hr ho hd hv
    exact ⟨ι, w, _, ⟨closed_next I.closed ho ha, n1, n2, n3, ⟨done, rest, h, c, K, dm, pos_still D p hr h1 h2⟩, fun j hj hS => I.free j hj fun h => hS (.inl h), I.g, I.d⟩, hs⟩
  have wantT : ∀ {b : Bool}, (match wantA ops r.t r.o with | some true => true | _ => false) = true → Region.wanted r.o (yielded ops a) = true := by
    intro b hb
    split at hb
    · rename_i hw; exact want_sound2 hsl hw
    · cases hb
  have notDefer : ∀ {v : Value}, (pureOp E.P (evJ E r.t) r.o.op = some v ∨ (∃ h, readOp E.P (evJ E r.t) h r.o.op = some v)) → ∀ c, r.o.op ≠ .defer c := by
    intro v hv c hdc
    rw [hdc] at hv
    rcases hv with hv | ⟨h, hv⟩
    · simp [pureOp] at hv
    · simp [readOp] at hv
  cases hkd : r.kd with
  | skip =>
    rw [hkd] at hck2
    simp only [Bool.and_eq_true] at hck2
    obtain ⟨hw, hd⟩ := hck2
    have hw' : Region.wanted r.o (yielded ops a) = false := by
      split at hw
      · rename_i hw2; exact want_sound2 hsl hw2
      · cases hw
    refine still (by simp [isChain, hkd]) (by simp [newOf, hkd]) hd .undef (.one ?_)
    have := st_over (P := E.P) (fn := E.fn) (ki := ki) (ro := ro) (df := df) (a := a) (k := k) (cs := cs) (w := w) (ops := ops) (i := r.i) (rest := todo) (by simp [hi, hw'])
    rw [hi] at this
    exact this
  | pure =>
    rw [hkd] at hck2
    simp only [Bool.and_eq_true] at hck2
    obtain ⟨⟨hw, _⟩, hd⟩ := hck2
    split at hd
    · rename_i v hv
      obtain ⟨v', h1, h2⟩ := pure_sound (o := r.o) hE' hv
      exact still (by simp [isChain, hkd]) (by simp [newOf, hkd]) hd h1 (.one (st_op hi (wantT (b := true) hw) (notDefer (.inl hv)) (.inl (h2 w))))
    · cases hd
  | read =>
    rw [hkd] at hck2
    simp only [Bool.and_eq_true] at hck2
    obtain ⟨⟨hw, _⟩, _⟩ := hck2
    have hrd := p.reads r hr hkd hn
    -- here and now it reads what it is to read
    have now : (match readOp E.P (evJ E r.t) (addAll h (((recs.filterMap (newOf s.c)).filter fun x => bit ((cloA ops.toList []).getD r.i 0) x.1 && !(bit dm x.1)).map (·.2))) r.o.op with
      | some v => dstOK t r.o v
      | none => false) = true := by
      cases rest with
      | nil => unfold readsA at hrd; exact hrd
      | cons q rest =>
        unfold readsA at hrd
        simp only [Bool.and_eq_true] at hrd
        have h1 := hrd.1
        rw [Bool.or_eq_true] at h1
        rcases h1 with h1 | h1
        · exfalso
          obtain ⟨q', hq', hb⟩ := List.any_eq_true.1 h1
          exact p.rs q' hq' (hlow hb)
        · exact h1
    split at now
    · rename_i v hv
      have hpw := (news_pw (base := s.c) D.pw)
      have pa := p.pend.adds (A := (((recs.filterMap (newOf s.c)).filter fun x => bit ((cloA ops.toList []).getD r.i 0) x.1 && !(bit dm x.1)).map (·.2))) (by
        intro y hy
        obtain ⟨x, hx, rfl⟩ := List.mem_map.1 hy
        obtain ⟨hx1, hx2⟩ := List.mem_filter.1 hx
        simp only [Bool.and_eq_true] at hx2
        refine ⟨x, hx1, hlow hx2.1, fun hK => ?_, rfl⟩
        have := p.mask x hx1 hK
        rw [this] at hx2
        simp at hx2) (by
        rw [List.pairwise_map]
        exact hpw.sublist List.filter_sublist)
      obtain ⟨v', h1, h2⟩ := read_sound (o := r.o) pa.rl hE' hv
      exact still (by simp [isChain, hkd]) (by simp [newOf, hkd]) now h1 (.one (st_op hi (wantT (b := true) hw) (notDefer (.inr ⟨_, hv⟩)) (.inl h2)))
    · cases now
  | new ob kk =>
    rw [hkd] at hck2
    simp only [Bool.and_eq_true] at hck2
    obtain ⟨⟨hw, _⟩, hd⟩ := hck2
    have hro := hrc.1.2
    rw [hkd] at hro
    obtain ⟨hnew, hk, hfit⟩ := hro
    obtain ⟨o', hor, hrun⟩ := new_sound (o := r.o) hE' hnew
    have hfree := I.free r.i hrc.2 hn
    let x0 : Blk := ⟨w.heap.size, match o' with | .cells c _ _ => c.size | _ => 0, 0⟩
    let w' : World := { w with heap := w.heap.push o' }
    have hext : Ext ι (upd ι (s.c + r.i) x0) := upd_ext _ hfree
    have hv : VR (upd ι (s.c + r.i) x0) (kk.val (s.c + r.i)) (kk.val w.heap.size) := by
      cases kk with
      | ptr => exact .ptr (upd_same ι _ x0)
      | slice l n =>
        have : n ≤ 65536 := Nat.le_of_ble_eq_true hk
        have hO : OPEN = 18446744073709551616 := rfl
        exact .slice (by omega) (upd_same ι _ x0)
      | map => exact .map (upd_same ι _ x0)
    have hor' : OR (upd ι (s.c + r.i) x0) x0 ob o' := hor _ _ hext rfl (by cases o' <;> first | rfl | trivial)
    have hlt : s.c + r.i < c := by have := p.le; have := hrc.2; omega
    have hnone : h.get (s.c + r.i) = none := by
      cases hg : h.get (s.c + r.i) with
      | none => rfl
      | some q =>
        obtain ⟨x, _, hx, _⟩ := p.pend.rl.obj _ _ hg
        rw [hfree] at hx; cases hx
    have hnex : ∀ q, ¬ exq s.c recs S K (s.c + r.i) q := fun q hq => by
      obtain ⟨x, _, hx, _⟩ := p.pend.obj _ _ hq
      rw [hfree] at hx; cases hx
    have hNr : ((r.i, s.c + r.i, ob) : New) ∈ recs.filterMap (newOf s.c) := List.mem_filterMap.2 ⟨r, hr, by simp [newOf, hkd]⟩
    have hex : ∀ n o, exq s.c recs (fun j => S j ∨ j = r.i) K n o → exq s.c recs S K n o ∨ (n = s.c + r.i ∧ o = ob) := by
      rintro n o ⟨x, hx, hS, hK, he⟩
      rcases hS with hS | hS
      · exact .inl ⟨x, hx, hS, hK, he⟩
      · right
        have := new_one (base := s.c) D.pw hx hNr hS
        subst this
        cases he; exact ⟨rfl, rfl⟩
    have hp := Pend.new p.pend hfit hfree hnex hnone hor'
    obtain ⟨n1, n2, n3⟩ := slots_next D I hext hr ho hd hv
    have hchain : isChain r = false := by simp [isChain, hkd]
    have hmem : ∀ q ∈ rest, q ∈ recs ∧ isChain q = true := fun q hq => by
      have : q ∈ recs.reverse.filter isChain := by rw [p.split]; exact List.mem_append_right _ hq
      have := List.mem_filter.1 this
      exact ⟨by simpa using this.1, this.2⟩
    refine ⟨upd ι (s.c + r.i) x0, w', _, ⟨closed_next I.closed ho ha, n1, n2, n3, ⟨done, rest, h, c, K, dm, ?_⟩, ?_, I.g.ext hext, I.d.ext hext⟩, .one (st_op hi (wantT (b := true) hw) ?_ (.inl (hrun w)))⟩
    · refine ⟨p.split, fun q hq => .inl (p.dn q hq), fun q hq hS => ?_, p.chain, hp.less hex, fun n hcn => ?_, p.le, p.mask, fun q hq hk hS => p.reads q hq hk fun h => hS (.inl h), ?_⟩
      · rcases hS with hS | hS
        · exact p.rs q hq hS
        · have := huniq q (hmem q hq).1 hS
          subst this
          have h3 := (hmem _ hq).2
          rw [hchain] at h3
          cases h3
      · rw [upd_other _ _ (by omega)]; exact p.above n hcn
      · exact p.tr.new hfree (by omega) hlt fun m hm => by
          rcases hm with hm | ⟨o, hm⟩
          · exact .inl (.inl hm)
          · rcases hex _ _ hm with h | h
            · exact .inl (.inr ⟨o, h⟩)
            · exact .inr h.1
    · intro j hj hS
      have hji : j ≠ r.i := fun h => hS (.inr h)
      rw [upd_other _ _ (by omega)]
      exact I.free j hj fun h => hS (.inl h)
    · intro c hdc
      rw [hdc] at hnew
      simp [newOp] at hnew
  | chain h1 c1 v h2 c2 =>
    rw [hkd] at hck2
    simp only [Bool.and_eq_true] at hck2
    obtain ⟨hw, hd⟩ := hck2
    have hwt := wantT (b := true) hw
    have hrch : isChain r = true := by simp [isChain, hkd]
    -- it is the chain's next one
    have hin : r ∈ done ++ rest := by
      rw [← p.split]
      exact List.mem_filter.2 ⟨by simpa using hr, hrch⟩
    have hin2 : r ∈ rest := by
      rcases List.mem_append.1 hin with h | h
      · exact absurd (p.dn r h) hn
      · exact h
    have hmem : ∀ q ∈ rest, q ∈ recs ∧ isChain q = true := fun q hq => by
      have : q ∈ recs.reverse.filter isChain := by rw [p.split]; exact List.mem_append_right _ hq
      have := List.mem_filter.1 this
      exact ⟨by simpa using this.1, this.2⟩
    have hch := D.chn
    rw [p.split] at hch
    have hchr : chainA (cloA ops.toList []) rest = true := by
      have : ∀ (d : List Rec), chainA (cloA ops.toList []) (d ++ rest) = true → chainA (cloA ops.toList []) rest = true := by
        intro d
        induction d with
        | nil => exact id
        | cons x d ih =>
          intro h
          simp only [List.cons_append, chainA, Bool.and_eq_true] at h
          exact ih h.2
      exact this _ hch
    cases hrest : rest with
    | nil => rw [hrest] at hin2; cases hin2
    | cons q rest' =>
    have hq : q = r := by
      rw [hrest] at hin2
      rcases List.mem_cons.1 hin2 with h | h
      · exact h.symm
      · exfalso
        rw [hrest] at hchr
        simp only [chainA, Bool.and_eq_true] at hchr
        have hb := (List.all_eq_true.1 hchr.1) r h
        exact p.rs q (by rw [hrest]; exact List.mem_cons_self ..) (hlow hb)
    subst hq
    have hco := p.chain
    rw [hrest] at hco
    cases hco with
    | cons e1 e2 e3 e4 e5 =>
    rename_i h2' c2' A v'
    rw [hkd] at e1
    cases e1
    have hAS : ∀ x ∈ A, S x.1 := fun x hx => hlow (e2 x hx).2.1
    have pa := p.pend.adds (A := A.map (·.2)) (by
      intro y hy
      obtain ⟨x, hx, rfl⟩ := List.mem_map.1 hy
      exact ⟨x, (e2 x hx).1, hAS x hx, (e2 x hx).2.2, rfl⟩) (by rw [List.pairwise_map]; exact e3)
    -- what it does
    have act : ∃ ι' w' v', VR ι' v v' ∧ Rl ι' h2 w' ∧ Above ι' c2 ∧ Tr ι (addAll h (A.map (·.2))) c w ι' h2 c2 w' ∧
        Steps E.P (lone (Fr E.fn ki ro df a (.inRegion ops (q.i :: todo) :: k)) cs w) (lone (Fr E.fn ki ro df (putV a q.o.dst v') (.inRegion ops todo :: k)) cs w') := by
      by_cases hcl : isCall q.o.op = true
      · obtain ⟨f, xs, ts, hop⟩ := isCall_spec hcl
        unfold callOne at e4
        rw [hop] at e4
        simp only at e4
        split at e4
        · rename_i tg htg
          obtain ⟨d, hdd, htr⟩ := tg_sound (hE' f) (VRL.map hE' xs) htg
          obtain ⟨nx, hnx, hgo⟩ := hc tg _ _ _ _ _ e4 ι w d pa.rl p.above I.g htr
          have hrun : (execOp (Fr E.fn ki ro df a (.inRegion ops (q.i :: todo) :: k)).eval q.o).run E.P w = .ok nx w := by
            unfold execOp
            simp only [hop, Sem.run_bind, resolve]
            have : (⟨xs⟩ : Array Operand).map (Fr E.fn ki ro df a (.inRegion ops (q.i :: todo) :: k)).eval = ⟨xs.map (Fr E.fn ki ro df a (.inRegion ops (q.i :: todo) :: k)).eval⟩ := by simp
            rw [this, hdd]
            exact hnx
          cases nx with
          | enter g args =>
            obtain ⟨ι', w', v', k1, k2, k3, k4, k5⟩ := hgo (Fr E.fn ki ro df a (.inRegion ops (q.i :: todo) :: k)) cs
            refine ⟨ι', w', v', k1, k2, k3, k4, .head (st_enter hi hwt (by intro c; rw [hop]; simp) hrun) (k5.trans ?_)⟩
            rw [fr_finish, hi]
            exact .refl _ _
          | round l f as b1 b2 =>
            obtain ⟨ι', w', v', k1, k2, k3, k4, k5⟩ := hgo (Fr E.fn ki ro df a (.inRegion ops (q.i :: todo) :: k)) cs
            refine ⟨ι', w', v', k1, k2, k3, k4, .head (st_round hi hwt (by intro c; rw [hop]; simp) hrun) (k5.trans ?_)⟩
            rw [fr_finish, hi]
            exact .refl _ _
          | _ => exact hgo.elim
        · cases e4
      · have e4' : chainOp E.P (evJ E q.t) (addAll h (A.map (·.2))) c q.o.op = some (v, h2, c2) := by
          unfold callOne at e4
          split at e4
          · rename_i f xs ts hop
            rw [hop] at hcl
            simp [isCall] at hcl
          · exact e4
        obtain ⟨ι', w', v', hrun, k1, k2, k3, k4⟩ := chain_sound (o := q.o) pa.rl p.above hE' e4'
        refine ⟨ι', w', v', k1, k2, k3, k4, .one (st_op hi hwt ?_ ?_)⟩
        · intro c hdc
          rw [hdc] at e4'
          simp [chainOp] at e4'
        · rcases hrun with hrun | ⟨h1, h2, h3⟩
          · exact .inl hrun
          · exact .inr ⟨h1, h3⟩
    obtain ⟨ι', w', v', k1, k2, k3, k4, k5⟩ := act
    obtain ⟨n1, n2, n3⟩ := slots_next D I k4.ext hr ho hd k1
    have hname : ∀ x ∈ recs.filterMap (newOf s.c), x.2.1 = s.c + x.1 ∧ x.1 < ops.toList.length := fun x hx => by
      obtain ⟨y, hy, kk, g1, g2, g3⟩ := new_spec hx
      have := (D.rc y hy).2
      exact ⟨by omega, by omega⟩
    have prun := pa.run k4 k2 (by
      rintro n o ⟨⟨x, hx, hS, hK, he⟩, _⟩
      have h1 := hname x hx
      have : n = x.2.1 := by rw [he]
      have := p.le
      omega)
    have hex : ∀ n o, exq s.c recs (fun j => S j ∨ j = q.i) (fun j => K j ∨ ∃ x ∈ A, x.1 = j) n o → (exq s.c recs S K n o ∧ ∀ x ∈ A.map (·.2), n ≠ x.1) := by
      rintro n o ⟨x, hx, hS, hK, he⟩
      have hSx : S x.1 := by
        rcases hS with hS | hS
        · exact hS
        · exfalso
          obtain ⟨y, hy, kk, g1, g2, g3⟩ := new_spec hx
          have := huniq y hy (by omega)
          subst this
          rw [hkd] at g1
          cases g1
      refine ⟨⟨x, hx, hSx, fun h => hK (.inl h), he⟩, fun y hy hne => ?_⟩
      obtain ⟨z, hz, rfl⟩ := List.mem_map.1 hy
      have h1 := hname x hx
      have h2 := hname z (e2 z hz).1
      have : n = x.2.1 := by rw [he]
      exact hK (.inr ⟨z, hz, by omega⟩)
    have hrestN : ∀ q' ∈ rest', q' ≠ q ∧ q'.i ≠ q.i := by
      intro q' hq'
      have hpw2 : (recs.reverse.filter isChain).Pairwise (fun a b => a.i ≠ b.i) := by
        have : recs.reverse.Pairwise (fun a b => a.i ≠ b.i) := List.pairwise_reverse.2 (D.pw.imp fun h => h.symm)
        exact this.sublist List.filter_sublist
      rw [p.split, hrest] at hpw2
      have h1 := (List.pairwise_append.1 hpw2).2.1
      have h2 := (List.pairwise_cons.1 h1).1 q' hq'
      exact ⟨fun h => h2 (by rw [h]), fun h => h2 h.symm⟩
    refine ⟨ι', w', _, ⟨closed_next I.closed ho ha, n1, n2, n3, ⟨done ++ [q], rest', h2, c2, fun j => K j ∨ ∃ x ∈ A, x.1 = j, dm ||| (cloA ops.toList []).getD q.i 0, ?_⟩, ?_, I.g.ext k4.ext, I.d.ext k4.ext⟩, k5⟩
    · refine ⟨by rw [p.split, hrest]; simp, fun q' hq' => ?_, fun q' hq' hS => ?_, e5, prun.less hex, k3, Nat.le_trans p.le k4.le, fun x hx hK => ?_, fun q' hq' hk hS => ?_, ?_⟩
      · rcases List.mem_append.1 hq' with h | h
        · exact .inl (p.dn q' h)
        · simp at h; subst h; exact .inr rfl
      · rcases hS with hS | hS
        · exact p.rs q' (by rw [hrest]; exact List.mem_cons_of_mem _ hq') hS
        · exact (hrestN q' hq').2 hS
      · rw [bit_test, Nat.testBit_or, ← bit_test, ← bit_test, Bool.or_eq_true]
        rcases hK with hK | ⟨y, hy, hxy⟩
        · exact .inl (p.mask x hx hK)
        · right; rw [← hxy]; exact (e2 y hy).2.1
      · have hrd := p.reads q' hq' hk fun h => hS (.inl h)
        rw [hrest] at hrd
        unfold readsA at hrd
        simp only [Bool.and_eq_true] at hrd
        have h2' := hrd.2
        rw [Bool.or_eq_true] at h2'
        rcases h2' with hb | hb
        · exact absurd (.inl (hlow hb)) hS
        · rw [hkd] at hb
          exact hb
      · refine p.tr.next (h := addAll h (A.map (·.2))) k4 (fun n o hg => ?_) (fun n hn => ?_)
        · -- what is in the heap was there, or waited
          have : ∀ (L : List (Nat × Obj)) (h : Heap), (∀ x ∈ L, fits x.1 = true) → (addAll h L).get n = some o → (∃ o, h.get n = some o) ∨ ∃ x ∈ L, x.1 = n := by
            intro L
            induction L with
            | nil => intro h _ hg; exact .inl ⟨o, hg⟩
            | cons x L ih =>
              intro h hf hg
              obtain ⟨x1, x2⟩ := x
              rw [addAll_cons] at hg
              rcases ih _ (fun y hy => hf y (List.mem_cons_of_mem _ hy)) hg with ⟨o', h'⟩ | ⟨y, hy, he⟩
              · rw [Heap.get_put (hf _ (List.mem_cons_self ..))] at h'
                split at h'
                · rename_i e; exact .inr ⟨_, List.mem_cons_self .., e.symm⟩
                · exact .inl ⟨o', h'⟩
              · exact .inr ⟨y, List.mem_cons_of_mem _ hy, he⟩
          rcases this _ h (fun y hy => by
            obtain ⟨x, hx, rfl⟩ := List.mem_map.1 hy
            exact p.pend.fit x.2.1 x.2.2 ⟨x, (e2 x hx).1, hAS x hx, (e2 x hx).2.2, rfl⟩) hg with h | ⟨y, hy, he⟩
          · exact .inl h
          · obtain ⟨x, hx, rfl⟩ := List.mem_map.1 hy
            exact .inr ⟨x.2.2, x, (e2 x hx).1, hAS x hx, (e2 x hx).2.2, by rw [← he]⟩
        · rcases hn with hn | ⟨o, hn⟩
          · exact .inl hn
          · have h1 := (hex _ _ hn).1
            obtain ⟨x, _, hx, _⟩ := p.pend.obj _ _ h1
            exact .inr ⟨.inr ⟨o, h1⟩, x, hx⟩
    · intro j hj hS
      have h1 := I.free j hj fun h => hS (.inl h)
      exact k4.low _ (by have := p.le; omega) h1
end
end Go.Ev
