/- A range over two loop variables at the wide fence; what a round that appends leaves. -/
import Derived.Test.YtnkmpkhiilnigaaGreatDoorRMod
import Derived.RangeFuncBox
set_option linter.unusedSimpArgs false
set_option linter.unusedVariables false
namespace Go.Proofs.YtnkmpkhiilnigaaGreatDoor.PR
open Go.RowKit Go.Shelf Go.Lib Go.Sort Go.Maps Go.Proofs.YtnkmpkhiilnigaaGreatDoor.PA Go.Proofs.YtnkmpkhiilnigaaGreatDoorW.PrintWords Go.Proofs.YtnkmpkhiilnigaaGreatDoorW.PrintLast

/-- The law of a range over a function, two loop variables each assigned to a slot, at the wide fence. -/
theorem range_wide {P : Program} {α : Type} {g : Operand} {p1 p2 q1 q2 : Tmp} {assign body : Code} {Q : Exit → Act → World → Prop} {a : Act} {w : World} {gf : Nat} {lb : Array Value}
    (hg : a.eval g = .func (.func gf) #[] lb) (eg : ∀ args w, (callFunc gf args).run P w = .ok (.enter gf args) w)
    {e1 e2 : α → Value} {Kp : World → World → Prop} {S Sp : List α → Prop} {N : Nat} {w0 : World} (hseq : SeqStopsK Fence.wide 19 P gf lb (fun x => #[e1 x, e2 x]) Kp S Sp N w0)
    (hKt : ∀ {A B C : World}, Kp A B → Kp B C → Kp A C) (hKb : ∀ (W : World) (l : Nat) (o o' : Obj), w.heap.size ≤ l → W.heap[l]? = some o → o.isCells = false → o.isWalk = false → Kp W (W.putObj l o')) (hb0 : Below w0.heap.size w0 w)
    (I : List α → World → Prop) (hI : OwnFrom w.heap.size I) (h0 : I [] w)
    (hassign : ∀ (l : Nat) (x : α) (W : World) (K : Act → World → Prop), K { tmps := (((a.tmps.setIfInBounds p1 (e1 x)).setIfInBounds p2 (e2 x)).setIfInBounds q1 (e1 x)).setIfInBounds q2 (e2 x), defers := [] } W →
      assign.wpIn (Fence.wide.inRound l) 18 P (Exit.then K (fun _ _ _ => False)) { tmps := (a.tmps.setIfInBounds p1 (e1 x)).setIfInBounds p2 (e2 x), defers := [] } W)
    (hbody : ∀ (l : Nat) (pre : List α) (x : α) (W : World), I pre W → pre.length < N → body.wpIn (Fence.wide.inRound l) 18 P (ownPostG w.heap.size Kp I (fun _ _ _ => False) (pre ++ [x]) W) { tmps := (((a.tmps.setIfInBounds p1 (e1 x)).setIfInBounds p2 (e2 x)).setIfInBounds q1 (e1 x)).setIfInBounds q2 (e2 x), defers := [] } W)
    (hdone : ∀ (D : Nat) (xs : List α) (W : World), w.heap.size ≤ D → S xs → I xs W → W.heap[D]? = some (.deferred (some [])) → Q .normal { a with defers := { target := .collected D, args := #[] } :: a.defers } W) :
    (Code.rangeFunc g #[p1, p2] assign body).wp P Q a w :=
  (wpIn_wide (n := 20)).1 (wpIn_rangeFunc_ownG rfl (by omega) hg trivial eg hseq hKt hKb hb0 (fun _ => rfl) I (fun _ _ _ => False) hI (fun _ _ _ _ _ hs _ _ => hs) h0
    (fun x => { tmps := (((a.tmps.setIfInBounds p1 (e1 x)).setIfInBounds p2 (e2 x)).setIfInBounds q1 (e1 x)).setIfInBounds q2 (e2 x), defers := [] })
    (fun l x W K hK => by
      have h := hassign l x W K hK
      simpa using h)
    hbody hdone (fun _ _ _ _ _ _ h _ => h.elim))

theorem blk_grown {W W' : World} {row : Option Nat} {g : Nat} {cs : Array Value} {t : TypeId} (h : Blk W g cs t) (hg : W.grownBy W' row) (hr : ∀ r, row = some r → ∃ o : Obj, W.heap[r]? = some o ∧ o.isCells = false) : Blk W' g cs t :=
  (hg.block g h.lt (fun e => by
    obtain ⟨o, ho, hc⟩ := hr g e.symm
    have h' : W.heap[g]? = _ := h
    rw [h'] at ho
    cases ho
    simp [Obj.isCells] at hc)).trans h
theorem row_grown {α : Type} {E : El Tryz.prog α} {W W' : World} {row : Option Nat} {base : Nat} {v : Value} {xs : List α} (h : RowG E W base v xs) (hg : W.grownBy W' row) (hr : ∀ r, row = some r → ∃ o : Obj, W.heap[r]? = some o ∧ o.isCells = false) : RowG E W' base v xs := by
  refine World.ownsRow.kept h hg ?_
  rcases h.2 with ⟨rfl, _⟩ | ⟨g, cap, cur, rfl, _, hgb, _⟩
  · exact .inl rfl
  · refine .inr fun e' => ?_
    obtain ⟨o, ho, hc⟩ := hr g (by simpa [Value.ownBlock] using e'.symm)
    rw [hgb] at ho
    cases ho
    simp [Obj.isCells] at hc
theorem row_own {α : Type} {E : El Tryz.prog α} {W : World} {base : Nat} {v : Value} {xs : List α} (h : RowG E W base v xs) {k : Nat} (e : v.ownBlock = some k) : base ≤ k ∧ ∃ cur, Blk W k cur E.e := by
  rcases h.2 with ⟨rfl, _⟩ | ⟨g, cap, cur, rfl, hb, hgb, _⟩
  · cases e
  · obtain rfl : g = k := by simpa [Value.ownBlock] using e
    exact ⟨hb, cur, hgb⟩
theorem blk_type {W : World} {g : Nat} {c1 c2 : Array Value} {t1 t2 : TypeId} (h : Blk W g c1 t1) (k : Blk W g c2 t2) : t1 = t2 := by
  unfold Blk at h k
  rw [h] at k
  cases k
  rfl
theorem grownBy_set (W : World) (b j : Nat) (v : Value) : W.grownBy (W.setCell ⟨b, j, none⟩ v) (some b) :=
  ⟨rfl, rfl, rfl, by simp [World.setCell], fun k _ hne => Below.heap_setCell _ _ _ _ (fun e => hne (by rw [e]))⟩
/-- A round that appends one to what a field of a boxed struct holds. -/
theorem append_round {α : Type} {E : El Tryz.prog α} {W w1 W0 : World} {gt base : Nat} {cs cs' : Array Value} {tb : TypeId} {v v' : Value} {xs : List α} {x : α} {o : Obj} (hk : Blk W gt cs tb) (hte : tb ≠ E.e) (hb : gt < base) (hrow : RowG E W base v xs)
    (hown : w1.ownsRow base E.e E.size v' (xs.length + 1) (xs.flatMap E.enc ++ E.enc x)) (hg : (W.alloc o).grownBy w1 v.ownBlock) (j : Nat) (hcs : cs.setIfInBounds j v' = cs') (h0 : Below gt W0 W) (B : Nat) :
    Blk w1 gt cs tb ∧ KeepsFrom B W (w1.setCell ⟨gt, j, none⟩ v') ∧ KpS gt tb E.e W (w1.setCell ⟨gt, j, none⟩ v') ∧ Blk (w1.setCell ⟨gt, j, none⟩ v') gt cs' tb ∧ RowG E (w1.setCell ⟨gt, j, none⟩ v') base v' (xs ++ [x]) ∧ Below gt W0 (w1.setCell ⟨gt, j, none⟩ v') := by
  have hrA : RowG E (W.alloc o) base v xs := row_grown hrow (World.grownBy_alloc W o none) (fun r e => by cases e)
  have hR1 : RowG E w1 base v' (xs ++ [x]) := by
    unfold RowG
    rw [List.length_append, List.flatMap_append, List.flatMap_cons, List.flatMap_nil, List.append_nil]
    exact hown
  have stay : ∀ {k : Nat} {c : Array Value} {t : TypeId}, t ≠ E.e → Blk W k c t → Blk w1 k c t := fun ht h => by
    have h1 := h.alloc o
    refine (hg.block _ h1.lt (fun e => ?_)).trans h1
    obtain ⟨_, cur, hk'⟩ := row_own hrA e.symm
    exact ht (blk_type h1 hk')
  have kg := stay hte hk
  have hbelow : Below gt W w1 := ((Below.refl gt W).alloc (by have := hk.lt; omega) o).grown hg (by have := hk.lt; simp; omega) (fun k e => by have := (row_own hrA e).1; omega)
  have hbs : Below gt W (w1.setCell ⟨gt, j, none⟩ v') := hbelow.setCell (p := ⟨gt, j, none⟩) (Nat.le_refl _) _
  refine ⟨kg, ?_, ⟨hbs, fun k c t ht1 ht2 h => ?_⟩, kg.set j v' hcs, ?_, h0.trans hbs⟩
  · refine (((KeepsOthers.alloc W o).trans (KeepsOthers.of_grownBy hg (fun k o' e hk' => ?_))).trans (KeepsOthers.setCell _ _ _)).from B
    obtain ⟨_, cur, hc⟩ := row_own hrA e
    unfold Blk at hc
    rw [hc] at hk'
    cases hk'
    rfl
  · exact (stay ht2 h).far (a := ⟨gt, j, none⟩) (fun e => by
      have e : k = gt := e
      subst e
      exact ht1 (blk_type h hk)) _
  · refine World.ownsRow.kept hR1 (grownBy_set w1 gt j v') ?_
    rcases e : v'.ownBlock with _ | k
    · exact .inl rfl
    · refine .inr fun e' => ?_
      obtain rfl : k = gt := Option.some.inj e'
      obtain ⟨_, cur, hk'⟩ := row_own hR1 e
      exact hte (blk_type kg hk')

theorem KeepsFrom.up {B : Nat} {W W' : World} (h : KeepsFrom 0 W W') : KeepsFrom B W W' := ⟨h.size, fun k o _ hk ho => h.same k o (Nat.zero_le _) hk ho⟩
theorem row_kps {α : Type} {E : El Tryz.prog α} {W W' : World} {base B : Nat} {tb te : TypeId} {v : Value} {xs : List α} (h : RowG E W base v xs) (hk : KpS B tb te W W') (h1 : E.e ≠ tb) (h2 : E.e ≠ te) : RowG E W' base v xs := by
  unfold RowG at h ⊢
  refine ⟨h.1, ?_⟩
  rcases h.2 with hn | ⟨g, cap, cur, rfl, hb, hgg, rest⟩
  · exact .inl hn
  · exact .inr ⟨g, cap, cur, rfl, hb, hk.2 g cur _ h1 h2 hgg, rest⟩
theorem src_lit {α : Type} {E : El Tryz.prog α} {W : World} (x : α) : ∀ (j : Nat) (u : Value), (E.enc x)[j]? = some u → (W.alloc (.cells (E.enc x).toArray E.e)).cell? ((⟨W.heap.size, 0, none⟩ : Addr).add j) = some u := fun j u hu => by
  rw [add_at, Nat.zero_add, (Blk.new W (E.enc x).toArray E.e).cell]
  simpa using hu

end Go.Proofs.YtnkmpkhiilnigaaGreatDoor.PR
