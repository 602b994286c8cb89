/- Merged from the texts Mu44 to Mu51: an evaluator for the program's code and its soundness; how a law's statement follows of one run. No conditions. -/
import Derived.Test.YtmckgecnalaogaaGreatMuD
section
/- Regions that draw their order: every order comes to the same. -/
set_option linter.unusedSimpArgs false
set_option linter.unusedVariables false
set_option linter.constructorNameAsVariable false
namespace Go.Mu
section
variable {C : Cfg} {vars nt : Nat} {G G' : Gh} {lb lb' : Nat → Option Nat} {κ κ' : Nat → Bool} {w w' : World} {a : Act} {m m' m1 m2 : M} {o : Oper} {v : V} {P : Program} {st st' : St} {ro : Option Nat}
variable {T : CallF} {Y : YieldF} {f : FuncId} {mv : Bool} {e : Eff} {k : Kind} {all : Array Oper}

/-- A place is given to an object's number. -/
def Gh.place (G : Gh) (id : Nat) (p : Nat × Nat × Nat) : Gh := { G with ob := fun j => if j = id then some p else G.ob j }

theorem VRel.place {id : Nat} {p : Nat × Nat × Nat} (hn : G.ob id = none) {c : Value} (h : VRel G v c) : VRel (G.place id p) v c := by
  have key : ∀ j q, G.ob j = some q → (G.place id p).ob j = some q := fun j q hj => by
    show (if j = id then some p else G.ob j) = _
    rw [if_neg (fun e => by subst e; rw [hn] at hj; cases hj)]; exact hj
  induction h with
  | b x => exact .b x
  | i k n => exact .i k n
  | s x => exact .s x
  | p0 => exact .p0
  | po h ho => exact .po h (key _ _ ho)
  | ip hc h ih => exact .ip hc fun j c x hj hx => ih j c x hj hx
  | nl h => exact .nl h
  | sl hsz hc h hcap h1 h2 ih => exact .sl hsz hc (fun j c x hj hx => ih j c x hj hx) hcap h1 h2
  | sm h ho hcap hl => exact .sm h (key _ _ ho) hcap hl
  | m0 => exact .m0
  | mp h ho => exact .mp h (key _ _ ho)
  | fn hy ha hk pa pk h g ih ig => exact .fn hy ha hk pa pk (fun j v x hv hx => ih j v x hv hx) (fun j v x hv hx => ig j v x hv hx)
  | yl h ho => exact .yl h (key _ _ ho)
  | f0 => exact .f0
  | n0 => exact .n0
  | ifc pv h ih => exact .ifc pv ih
  | ag hl hc h ih => exact .ag hl hc (fun j v x hv hx => ih j v x hv hx)
  | tu hl h ih => exact .tu hl (fun j v x hv hx => ih j v x hv hx)

theorem HeldL.place {id : Nat} {p : Nat × Nat × Nat} (hn : G.ob id = none) {x : Own} {cs : List V} {l : List Value} (h : HeldL G x cs l) : HeldL (G.place id p) x cs l :=
  ⟨h.len, fun j v c hv hc => (h.rel j v c hv hc).place hn, h.cell, h.nodup, h.own⟩
theorem Held.place {id : Nat} {p : Nat × Nat × Nat} (hn : G.ob id = none) {x : Own} {c : Value} (h : Held G x v c) : Held (G.place id p) x v c := ⟨h.rel.place hn, h.nodup, h.own⟩

theorem ObjRel.place {id : Nat} {p : Nat × Nat × Nat} (hn : G.ob id = none) {B s l id' : Nat} {x : Obj} (h : ObjRel C G w B s l id' x) : ObjRel C (G.place id p) w B s l id' x := by
  cases x with
  | cells cs =>
    obtain ⟨cc, T, h1, h2, h3, h4⟩ := h
    exact ⟨cc, T, h1, h2, h3, h4.place hn⟩
  | map es clock =>
    obtain ⟨ces, h1, h2, h3⟩ := h
    refine ⟨ces, h1, h2, fun j k v b hj => ?_⟩
    obtain ⟨e, g1, g2, g3, g4, g5, g6⟩ := h3 j k v b hj
    exact ⟨e, g1, g2.place hn, g3.place hn, g4, g5, g6⟩
  | iter mm since seen stepped =>
    obtain ⟨h0, m', h1, h2⟩ := h
    refine ⟨h0, m', h1, ?_⟩
    cases mm with
    | none => exact h2
    | some id2 =>
      obtain ⟨g1, B', s', l', g2, g3⟩ := h2
      refine ⟨g1, B', s', l', ?_, g3⟩
      show (if id2 = id then some p else G.ob id2) = _
      rw [if_neg (fun e => by subst e; rw [hn] at g2; cases g2)]; exact g2
  | siter z pos => exact h
  | loop st pe fid env ps as bd =>
    obtain ⟨lp, h1, h2, h3, h4, h5, h6, h7, h8, n1, n2, h9, h10⟩ := h
    refine ⟨lp, h1, h2, h3, h4, h5, h6, h7, h8, n1, n2, h9, fun t v hv => ?_⟩
    obtain ⟨c, g1, g2⟩ := h10 t v hv
    exact ⟨c, g1, g2.elim .inl fun ⟨a, b⟩ => .inr ⟨a, b.place hn⟩⟩
  | dead => trivial

theorem Rel.place {id : Nat} {p : Nat × Nat × Nat} (h : Rel C vars nt G lb κ w a m) (hn : G.ob id = none) : Rel C vars nt (G.place id p) lb κ w a m := by
  have ok := h.heap.ok
  refine { size := h.size, tpv := h.tpv, envv := h.envv, slot := fun t v hv => ?_, loc := fun s v hv => ?_, heap := ⟨h.heap.nx, fun id' x hx => ?_, ⟨ok.ic, ok.tlic, ok.tl, ok.lt, ok.tllt, ok.excl⟩⟩, marks := h.marks, apart := h.apart }
  · obtain ⟨c, hc, hr⟩ := h.slot t v hv
    refine ⟨c, hc, srel_split (P := fun v => SRel G lb κ t v c → SRel (G.place id p) lb κ t v c) (fun s o e => by subst e; exact fun h => h) (fun e => by subst e; exact fun h => h) (fun h1 h2 hr => ?_) hr⟩
    rw [SRel.plain h1 h2] at hr ⊢
    exact ⟨hr.1.place hn, fun e => (hr.2 e).place hn⟩
  · obtain ⟨B, cc, T, g1, g2, g3, g4⟩ := h.loc s v hv
    exact ⟨B, cc, T, g1, g2, g3, g4.place hn⟩
  · rcases h.heap.obj id' x hx with ⟨B, s, l, g1, g2, g3, g4⟩ | g
    · refine .inl ⟨B, s, l, ?_, g2, g3, g4.place hn⟩
      show (if id' = id then some p else G.ob id') = _
      rw [if_neg (fun e => by subst e; rw [hn] at g1; cases g1)]; exact g1
    · exact .inr g

/-- A new block of a caller's. -/
def Gh.newFr (G : Gh) (B : Nat) : Gh := { G with own := fun b => if b = B then some .fr else G.own b }
theorem Rel.newFr (h : Rel C vars nt G lb κ w a m) {ob : Go.Obj} : Rel C vars nt (G.newFr w.heap.size) lb κ (w.alloc ob) a m ∧ Keeps G w (w.alloc ob) ∧ Ext G (G.newFr w.heap.size) w ∧ (∀ o, G.ic w.heap.size o = none) ∧ G.tl w.heap.size = none := by
  have ok := h.heap.ok
  have own : ∀ B y, G.own B = some y → (G.newFr w.heap.size).own B = some y := fun B y hB => by
    have := ok.lt B y hB
    show (if B = w.heap.size then _ else G.own B) = _
    rw [if_neg (by omega)]; exact hB
  have hle : GLe G (G.newFr w.heap.size) := ⟨fun _ _ _ h => h, Nat.le_refl _, fun id hid => rfl⟩
  refine ⟨?_, ⟨by rw [World.alloc_size]; omega, fun B hB _ => World.alloc_old hB, rfl, rfl⟩, ⟨hle, fun B hB => ⟨own B _ hB, rfl, fun _ => rfl⟩, fun B hB ho => ?_⟩, fun o => ?_, ?_⟩
  · refine Rel.xfer h hle (fun _ h => h) (fun y => False) (fun t e => e.elim) (fun e => e) (fun B y hB hE => ⟨own B y hB, rfl, World.alloc_old (ok.lt B y hB)⟩) ?_ h.heap.nx (fun _ _ _ _ => rfl)
      (fun s v hv => .inl ⟨hv, fun e => e, fun e => e, rfl⟩) (fun id y hy => ?_)
    · refine ok.alloc (f := (G.newFr w.heap.size).own) (fun B y hB => ?_)
      have hB' : (if B = w.heap.size then some Own.fr else G.own B) = some y := hB
      by_cases e : B = w.heap.size
      · exact .inl e
      · rw [if_neg e] at hB'; exact .inr (.inl hB')
    · rcases h.heap.obj id y hy with ⟨B, s, l', g1, g2, g3, g4⟩ | g
      · exact .inl ⟨hy, fun e => e, fun e => e, g3⟩
      · exact .inr (.inr g)
  · show (if B = w.heap.size then _ else G.own B) = _
    rw [if_neg (by omega)]; exact ho
  · cases e : G.ic w.heap.size o with
    | none => rfl
    | some v => exact absurd (ok.ic_lt e) (Nat.lt_irrefl _)
  · cases e : G.tl w.heap.size with
    | none => rfl
    | some v => exact absurd (ok.tllt _ _ e) (Nat.lt_irrefl _)

/-- What an object that waits for its number's turn says of its block. -/
def Waits (G : Gh) (w : World) (B l : Nat) : Obj → Prop
  | .map [] 0 => w.heap[B]? = some (.map #[] 0)
  | .cells cs => ∃ cc T, w.heap[B]? = some (.cells cc T (0, 0)) ∧ l = cc.size ∧ Plain G cs cc.toList
  | _ => False
structure NewAt (G : Gh) (w : World) (n0 : Nat) (id B l : Nat) (x : Obj) : Prop where
  ob : G.ob id = some (B, 0, l)
  own : G.own B = some .fr
  lt : id < G.nx
  new : n0 ≤ B
  blk : Waits G w B l x
  ic : ∀ o, G.ic B o = none
  tl : G.tl B = none

theorem Plain.mono {cs : List V} {l : List Value} (h : Plain G cs l) (hle : GLe G G') : Plain G' cs l :=
  ⟨h.len, fun j c hj => by obtain ⟨q1, q2, x, q3, q4⟩ := h.cell j c hj; exact ⟨q1, q2, x, q3, q4.mono_pl hle q1⟩⟩
theorem Plain.place {cs : List V} {l : List Value} {id : Nat} {p : Nat × Nat × Nat} (h : Plain G cs l) (hn : G.ob id = none) : Plain (G.place id p) cs l :=
  ⟨h.len, fun j c hj => by obtain ⟨q1, q2, x, q3, q4⟩ := h.cell j c hj; exact ⟨q1, q2, x, q3, q4.place hn⟩⟩

theorem NewAt.mono {n0 id B l : Nat} {x : Obj} (h : NewAt G w n0 id B l x) (hk : Keeps G w w') (he : Ext G G' w) (hB : B < w.heap.size) : NewAt G' w' n0 id B l x := by
  obtain ⟨e1, e2, e3⟩ := he.fr B h.own
  refine ⟨(he.le.ob id h.lt).trans h.ob, e1, Nat.lt_of_lt_of_le h.lt he.le.nx, h.new, ?_, fun o => (e3 o).trans (h.ic o), e2.trans h.tl⟩
  have hb := hk.old B hB (.inr h.own)
  have := h.blk
  unfold Waits at this ⊢
  split at this
  · exact hb.trans this
  · obtain ⟨cc, T, q1, q2, q3⟩ := this
    exact ⟨cc, T, hb.trans q1, q2, q3.mono he.le⟩
  · exact this.elim

theorem NewAt.place {n0 id B l id' : Nat} {x : Obj} {p : Nat × Nat × Nat} (h : NewAt G w n0 id B l x) (hn : G.ob id' = none) : NewAt (G.place id' p) w n0 id B l x := by
  refine ⟨?_, h.own, h.lt, h.new, ?_, h.ic, h.tl⟩
  · show (if id = id' then some p else G.ob id) = _
    rw [if_neg (fun e => by subst e; rw [h.ob] at hn; cases hn)]; exact h.ob
  · have := h.blk
    unfold Waits at this ⊢
    split at this
    · exact this
    · obtain ⟨cc, T, q1, q2, q3⟩ := this
      exact ⟨cc, T, q1, q2, q3.place hn⟩
    · exact this.elim

/-- What is known goes on, up to a number of objects. -/
structure ExtN (N : Nat) (G G' : Gh) (w : World) : Prop where
  ic : ∀ B o v, G.ic B o = some v → G'.ic B o = some v
  nx : G.nx ≤ G'.nx
  ob : ∀ id, id < N → G'.ob id = G.ob id
  fr : ∀ B, G.own B = some .fr → G'.own B = some .fr ∧ G'.tl B = G.tl B ∧ ∀ o, G'.ic B o = G.ic B o
  free : ∀ B, B < w.heap.size → G.own B = none → G'.own B = none
theorem ExtN.step {N : Nat} {G0 : Gh} {w0 : World} (h : ExtN N G0 G w0) (hN : N ≤ G.nx) (hs : w0.heap.size ≤ w.heap.size) (he : Ext G G' w) : ExtN N G0 G' w0 :=
  ⟨fun B o v e => he.le.ic B o v (h.ic B o v e), Nat.le_trans h.nx he.le.nx, fun id hid => (he.le.ob id (Nat.lt_of_lt_of_le hid hN)).trans (h.ob id hid),
   fun B hB => ⟨(he.fr B (h.fr B hB).1).1, (he.fr B (h.fr B hB).1).2.1.trans (h.fr B hB).2.1, fun o => ((he.fr B (h.fr B hB).1).2.2 o).trans ((h.fr B hB).2.2 o)⟩,
   fun B hB hn => he.free B (Nat.lt_of_lt_of_le hB hs) (h.free B hB hn)⟩
theorem ExtN.place {N id : Nat} {G0 : Gh} {w0 : World} {p : Nat × Nat × Nat} (h : ExtN N G0 G w0) (hid : N ≤ id) : ExtN N G0 (G.place id p) w0 :=
  ⟨h.ic, h.nx, fun j hj => by
    show (if j = id then some p else G.ob j) = _
    rw [if_neg (by omega)]; exact h.ob j hj, h.fr, h.free⟩
/-- One like 'Keeps', from a world of old. -/
theorem Keeps.step {N : Nat} {G0 : Gh} {w0 : World} (h : Keeps G0 w0 w) (e : ExtN N G0 G w0) (h' : Keeps G w w') : Keeps G0 w0 w' :=
  ⟨Nat.le_trans h.size h'.size, fun B hB ho => by
    rw [h'.old B (Nat.lt_of_lt_of_le hB h.size) (ho.elim (fun x => .inl (e.free B hB x)) (fun x => .inr (e.fr B x).1)), h.old B hB ho], h'.same.1.trans h.same.1, h'.same.2.trans h.same.2⟩

/-- A new object's making. -/
theorem sim_new {id : Nat} {x : Obj} (hs : StepS C T Y f all false (some (id, x)) m o m' k) (h : Rel C (C.vars f) nt G lb κ w a m) (hr : Ready (C.vars f) κ o) (hd : ∀ t, o.dst = some t → t < nt) (hn : G.ob id = none) (hid : id < G.nx)
    {n : Nat} {Q : Exit → Act → World → Prop} {K : Act → World → Prop}
    (hK : ∀ w' G' l a', Rel C (C.vars f) nt G' lb (takes (C.vars f) κ (uses o.op)) w' a' m' → w'.heap.size = w.heap.size + 1 → Ext (G.place id (w.heap.size, 0, l)) G' w →
      Keeps (G.place id (w.heap.size, 0, l)) w w' → NewAt G' w' w.heap.size id w.heap.size l x → K a' w') : WpOp ro n C.P all Q o K a w := by
  rcases hs with ⟨hrs, _⟩ | ⟨hrs, _⟩ | ⟨id', x', hrs, hg, hnew, hx, rfl, rfl⟩
  · cases hrs
  · cases hrs
  · simp only [Option.some.injEq, Prod.mk.injEq] at hrs
    obtain ⟨rfl, rfl⟩ := hrs
    -- what is run
    have key : ∀ (ob : Go.Obj) (c : Value) (l : Nat), (execOp a.eval o).run C.P w = .ok (.value c) (w.alloc ob) → (∀ G', id < Gh.nx G' → G'.ob id = some (w.heap.size, 0, l) → VRel G' (newV o id) c) → (∀ c, o.op ≠ .defer c) →
        (∀ G', GLe G G' ∨ G' = G.place id (w.heap.size, 0, l) → Waits G (w.alloc ob) w.heap.size l x → True) → Waits (G.place id (w.heap.size, 0, l)) (w.alloc ob) w.heap.size l x → WpOp ro n C.P all Q o K a w := by
      intro ob c l hrun hv hnd _ hw
      have h1 := h.place (p := (w.heap.size, 0, l)) hn
      obtain ⟨r1, k1, e1, i1, t1⟩ := h1.newFr (ob := ob)
      let G1 : Gh := (G.place id (w.heap.size, 0, l)).newFr w.heap.size
      have hob : G1.ob id = some (w.heap.size, 0, l) := if_pos rfl
      have hvr : VRel G1 (newV o id) c := hv G1 hid hob
      have hpl : pl (newV o id) = true := by unfold newV; split <;> rfl
      obtain ⟨G', g1, g2, g3, g4⟩ := (r1.weaken (takes_le (uses o.op))).putO (d := o.dst) (v := newV o id) (c := c) hd (out_of_vrel hvr hpl) (by rw [rs_pl _ _ hpl]; exact fun B hB => nomatch hB)
      have hown : ∀ B, G'.own B = G1.own B := fun B => by
        rcases g4 B with e | ⟨_, e⟩
        · exact e
        · rw [rs_pl _ _ hpl] at e; cases e
      unfold WpOp
      rw [guard_wanted h hg, if_pos rfl]
      refine ⟨fun f _ => trivial, ?_⟩
      rw [semAt_wf hnd, hrun]
      have ee : Ext (G.place id (w.heap.size, 0, l)) G' w := ⟨e1.le.trans g2, fun B hB => ⟨(hown B).trans (e1.fr B hB).1, (g3 B).1.trans (e1.fr B hB).2.1, fun o => ((g3 B).2 o).trans ((e1.fr B hB).2.2 o)⟩, fun B hB hn => (hown B).trans (e1.free B hB hn)⟩
      refine hK _ G' l _ g1 World.alloc_size ee k1 ?_
      refine ⟨(g2.ob id hid).trans hob, (hown _).trans (if_pos rfl), Nat.lt_of_lt_of_le hid g2.nx, Nat.le_refl _, ?_, fun o => ((g3 _).2 o).trans (i1 o), (g3 _).1.trans t1⟩
      unfold Waits at hw ⊢
      split at hw
      · exact hw
      · obtain ⟨cc, T, q1, q2, q3⟩ := hw
        exact ⟨cc, T, q1, q2, Plain.mono (G := G1) (Plain.mono (G := G.place id (w.heap.size, 0, l)) q3 e1.le) g2⟩
      · exact hw.elim
    have cellsKey : ∀ (z : V) (c : Value) (T : TypeId), x = .cells (cellsOf z) → newV o id = .po id 0 → stor z = true → pl z = true → VRel G z c → (∀ c, o.op ≠ .defer c) →
        (execOp a.eval o).run C.P w = .ok (.value (.pointer (some ⟨w.heap.size, 0, none⟩))) (w.alloc (.cells c.cells T (0, 0))) → WpOp ro n C.P all Q o K a w := by
      intro z c T hxe hnv hs hp hv hnd hrun
      obtain ⟨c1, c2, c3, c4, c5⟩ := cells_of hv hs
      refine key (.cells c.cells T (0, 0)) _ c.cells.size hrun (fun G' h1 h2 => by rw [hnv]; exact .po (s := 0) h1 h2) hnd (fun _ _ _ => trivial) ?_
      rw [hxe]
      refine ⟨c.cells, T, World.alloc_new, rfl, c1, fun j u hu => ?_⟩
      obtain ⟨y, hy⟩ := get_of_len c1 hu
      have hpu : pl u = true := by
        by_cases ha : ∃ cs, z = .ag cs
        · obtain ⟨cs, rfl⟩ := ha
          exact pls_get (show pls cs = true from hp) hu
        · have hco : cellsOf z = [z] := by cases z <;> first | rfl | exact absurd ⟨_, rfl⟩ ha
          rw [hco] at hu
          cases j with
          | zero => simp only [List.getElem?_cons_zero, Option.some.injEq] at hu; subst hu; exact hp
          | succ j => simp at hu
      exact ⟨hpu, c3 u (List.mem_of_getElem? hu), y, hy, (c2 j u y hu hy).place hn⟩
    unfold newOb at hx
    split at hx
    · rename_i t hop
      simp only [Option.some.injEq] at hx
      subst hx
      refine key (.map #[] 0) (.map (some w.heap.size)) 0 ?_ (fun G' h1 h2 => ?_) (by rw [hop]; simp) (fun _ _ _ => trivial) World.alloc_new
      · simp only [execOp, hop, Option.map_none, Instr.makeMap, Sem.run_bind, Sem.run_pure, Result.andThen_ok, run_newObj]; rfl
      · simp only [newV, hop]; exact .mp h1 h2
    · rename_i t y hop
      split at hx
      · rename_i z hz
        cases hsp : (stor z && pl z) with
        | false => simp [hsp] at hx
        | true =>
          simp only [hsp, cond_true, Option.some.injEq] at hx
          simp only [Bool.and_eq_true] at hsp
          have hv := rd_vrel h hz (stor_good hsp.1)
          rw [down_pl z hsp.2] at hv
          exact cellsKey z (a.eval y) t hx.symm (by simp only [newV, hop]) hsp.1 hsp.2 hv (by rw [hop]; simp)
            (by simp only [execOp, hop, Instr.box, Sem.run_bind, Result.andThen_ok, newVar, newRow, run_newObj, Sem.run_pure]; rfl)
      · cases hx
    · rename_i t hop
      split at hx
      · rename_i z hz
        simp only [Option.some.injEq] at hx
        obtain ⟨i, c, h1, h2, h3, h4, h5⟩ := zeroT_ok hz G
        exact cellsKey z c t hx.symm (by simp only [newV, hop]) h5 h4 h3 (by rw [hop]; simp)
          (by simp only [execOp, hop, Instr.alloc, Sem.run_bind, run_zero h1 h2, Result.andThen_ok, newVar, newRow, run_newObj, Sem.run_pure]; rfl)
      · cases hx
    · cases hx

/-- The places that are still to come, in the order of the text. -/
def pick (l : List Item) (is : List Nat) : List Item := is.filterMap fun i => l[i]?

/-- What is known of a region's text and of its kinds. -/
structure Facts (all : Array Oper) (bs : List Nat) (L : List Item) : Prop where
  ops : ∀ (i : Nat) p, L[i]? = some p → all[i]? = some p.1
  len : L.length = all.size
  bl : bs.length = all.size
  pair : ∀ (i j : Nat) p q b, i < j → L[i]? = some p → L[j]? = some q → bs[j]? = some b → NoLp p q ∧ (bit b i = true ∨ Free2 all p q)
  bef : ∀ (i : Nat) o b, all[i]? = some o → bs[i]? = some b → (∀ j, bit b j = true → ∃ e ∈ o.after.toList, Region.binds .any e = true ∧ (e.on = j ∨ bit (bs.getD e.on 0) j = true)) ∧ ∀ e ∈ o.after.toList, Region.binds .any e = true → e.on < i

/-- The operations that are still to come. -/
structure Left (all : Array Oper) (bs : List Nat) (is : List Nat) (listed : Array Bool) : Prop where
  sorted : is.Pairwise (· < ·)
  lt : ∀ i ∈ is, i < all.size
  size : listed.size = all.size
  iff : ∀ i, i < all.size → (listed.getD i true = true ↔ i ∉ is)
  closed : ∀ i, i < all.size → i ∉ is → ∀ j, bit (bs.getD i 0) j = true → j ∉ is

theorem pick_append {L : List Item} {s r : List Nat} : pick L (s ++ r) = pick L s ++ pick L r := by simp [pick]
theorem pick_cons {L : List Item} {i : Nat} {r : List Nat} {p : Item} (h : L[i]? = some p) : pick L (i :: r) = p :: pick L r := by simp [pick, h]
theorem pick_mem {L : List Item} {is : List Nat} {p : Item} (h : p ∈ pick L is) : ∃ i ∈ is, L[i]? = some p := by simpa [pick] using h

theorem getD_flip {listed : Array Bool} {i : Nat} (h : i < listed.size) (b c : Bool) : listed.getD i b = listed.getD i c := by
  simp [Array.getD_eq_getD_getElem?, Array.getElem?_eq_getElem h]

theorem Left.unbound {bs : List Nat} {L : List Item} {is : List Nat} {listed : Array Bool} (hF : Facts all bs L) (h : Left all bs is listed) {i : Nat} (hi : i ∈ Region.ready .any all listed) :
    i ∈ is ∧ ∀ b, bs[i]? = some b → ∀ j ∈ is, bit b j = false := by
  obtain ⟨h0, o, ho, he⟩ := mem_ready.1 hi
  have hlt : i < all.size := (Array.getElem?_eq_some_iff.1 ho).1
  have him : i ∈ is := by
    by_cases hx : i ∈ is
    · exact hx
    · rw [(h.iff i hlt).2 hx] at h0; cases h0
  refine ⟨him, fun b hb j hj => ?_⟩
  cases hbit : bit b j with
  | false => rfl
  | true =>
    exfalso
    obtain ⟨h1, h2⟩ := hF.bef i o b ho hb
    obtain ⟨e, he1, he2, he3⟩ := h1 j hbit
    have hon := he e (Array.mem_toList_iff.1 he1) he2
    have hlt' := h2 e he1 he2
    have hlte : e.on < all.size := by omega
    have hnot : e.on ∉ is := (h.iff e.on hlte).1 (by rw [getD_flip (by rw [h.size]; exact hlte) true false]; exact hon)
    rcases he3 with e1 | e1
    · rw [e1] at hnot; exact hnot hj
    · exact h.closed e.on hlte hnot j e1 hj

theorem Left.next {bs : List Nat} {L : List Item} {s r : List Nat} {i : Nat} {listed : Array Bool} (hF : Facts all bs L) (h : Left all bs (s ++ i :: r) listed) (hu : ∀ b, bs[i]? = some b → ∀ j ∈ s ++ i :: r, bit b j = false) :
    Left all bs (s ++ r) (listed.setIfInBounds i true) := by
  have hsub : (s ++ r).Sublist (s ++ i :: r) := List.Sublist.append_left (List.sublist_cons_self i r) s
  have hnd : i ∉ s ++ r := by
    have := h.sorted
    rw [List.pairwise_append] at this
    obtain ⟨_, h2, h3⟩ := this
    intro hm
    rcases List.mem_append.1 hm with hm | hm
    · exact Nat.lt_irrefl i (h3 i hm i (List.mem_cons_self ..))
    · exact Nat.lt_irrefl i ((List.pairwise_cons.1 h2).1 i hm)
  have hi : i < all.size := h.lt i (by simp)
  refine ⟨h.sorted.sublist hsub, fun j hj => h.lt j (hsub.subset hj), by simp [h.size], fun j hj => ?_, fun j hj hn k hk => ?_⟩
  · by_cases e : i = j
    · subst e
      simp only [hnd, not_false_eq_true, iff_true]
      rw [getD_flip (by simp [h.size, hi]) true false]
      simp [h.size, hi]
    · rw [getD_set_ne true e, h.iff j hj]
      simp only [List.mem_append, List.mem_cons]
      constructor
      · intro hx hy; exact hx (hy.elim .inl fun z => .inr (.inr z))
      · intro hx hy; exact hx (hy.elim .inl fun z => .inr (z.resolve_left fun q => e q.symm))
  · by_cases e : i = j
    · subst e
      intro hm
      have hbi : bs[i]? = some (bs.getD i 0) := by
        have : i < bs.length := by rw [hF.bl]; exact hi
        simp [List.getElem?_eq_getElem this]
      rw [hu _ hbi k (hsub.subset hm)] at hk
      cases hk
    · have : j ∉ s ++ i :: r := by
        simp only [List.mem_append, List.mem_cons] at hn ⊢
        intro hy
        exact hn (hy.elim .inl fun z => .inr (z.resolve_left fun q => e q.symm))
      intro hm
      exact h.closed j hj this k hk (hsub.subset hm)

/-- What waits for its number's turn. -/
structure Waiting (G : Gh) (w : World) (n0 : Nat) (XS : List (Nat × Nat × Nat × Obj)) : Prop where
  at_ : ∀ e ∈ XS, NewAt G w n0 e.1 e.2.1 e.2.2.1 e.2.2.2 ∧ e.2.1 < w.heap.size
  apart : (XS.map fun e => e.2.1).Nodup

theorem Waiting.mono {n0 : Nat} {XS : List (Nat × Nat × Nat × Obj)} (h : Waiting G w n0 XS) (hk : Keeps G w w') (he : Ext G G' w) : Waiting G' w' n0 XS :=
  ⟨fun e hx => ⟨(h.at_ e hx).1.mono hk he (h.at_ e hx).2, Nat.lt_of_lt_of_le (h.at_ e hx).2 hk.size⟩, h.apart⟩

theorem any_ok (hT : SoundT C T) (hY : SoundY C Y) {bs : List Nat} {L : List Item} (hF : Facts all bs L) {n : Nat} {Q : Exit → Act → World → Prop} {N : Nat} {G0 : Gh} {w0 : World}
    (hdist : ∀ (i j : Nat) p q id x y, L[i]? = some p → L[j]? = some q → p.2.2 = some (id, x) → q.2.2 = some (id, y) → i = j)
    (hQ : ∀ w' G' lb' κ' a' XS, Rel C (C.vars f) nt G' lb' κ' w' a' m' → Tmps (C.vars f) κ' → Keeps G0 w0 w' → ExtN N G0 G' w0 → Waiting G' w' w0.heap.size XS → (∀ p ∈ L, ∀ id x, p.2.2 = some (id, x) → ∃ B l, (id, B, l, x) ∈ XS) → Q .normal a' w') :
    ∀ (fuel : Nat) (is : List Nat) (listed : Array Bool) (m : M) (G : Gh) (lb : Nat → Option Nat) (κ : Nat → Bool) (w : World) (a : Act) (XS : List (Nat × Nat × Nat × Obj)), is.length = fuel → Left all bs is listed →
      Rel C (C.vars f) nt G lb κ w a m → Todo (C.vars f) nt κ ((pick L is).map Prod.fst) → Runs C T Y f all (pick L is) m m' → (∀ p ∈ pick L is, ∀ s, p.2.1 = .la s → FreeE s m.tp ∧ FreeE s m.env) →
      Keeps G0 w0 w → ExtN N G0 G w0 → N ≤ G.nx → (∀ i ∈ is, ∀ p id x, L[i]? = some p → p.2.2 = some (id, x) → N ≤ id ∧ id < G.nx ∧ G.ob id = none) → Waiting G w w0.heap.size XS →
      (∀ i, i ∉ is → ∀ p id x, L[i]? = some p → p.2.2 = some (id, x) → ∃ B l, (id, B, l, x) ∈ XS) → wpAnyIn (WF ro) n C.P .any all Q fuel listed a w := by
  intro fuel
  induction fuel with
  | zero =>
    intro is listed m G lb κ w a XS hlen hL h ht hr hf hk he hN hp hW hd
    have : is = [] := List.length_eq_zero_iff.1 hlen
    subst this
    refine ⟨?_, hQ _ _ _ _ _ XS (h.eqv hr) ht.tmps hk he hW fun p hp id x hx => ?_⟩
    · cases hx : Region.ready .any all listed with
      | nil => rfl
      | cons i r => exact absurd (hL.unbound hF (i := i) (by rw [hx]; exact List.mem_cons_self ..)).1 (by simp)
    · obtain ⟨i, hi⟩ := List.mem_iff_getElem?.1 hp
      exact hd i (by simp) p id x hi hx
  | succ fuel ih =>
    intro is listed m G lb κ w a XS hlen hL h ht hr hf hk he hN hpend hW hdone
    have hget : ∀ i ∈ is, ∃ p, L[i]? = some p := fun i hi => by
      have : i < L.length := by rw [hF.len]; exact hL.lt i hi
      exact ⟨_, List.getElem?_eq_getElem this⟩
    refine ⟨fun h0 => ?_, fun i hi => ?_⟩
    · exfalso
      cases is with
      | nil => simp at hlen
      | cons i r =>
        have hil : i < all.size := hL.lt i (List.mem_cons_self ..)
        have : i ∈ Region.ready .any all listed := by
          refine mem_ready.2 ⟨?_, all[i], by simp [hil], fun e he hb => ?_⟩
          · cases hx : listed.getD i true with
            | false => rfl
            | true => exact absurd (List.mem_cons_self ..) ((hL.iff i hil).1 hx)
          · have hbi : bs[i]? = some (bs.getD i 0) := by
              have : i < bs.length := by rw [hF.bl]; exact hil
              simp [List.getElem?_eq_getElem this]
            have hlt := (hF.bef i all[i] _ (by simp [hil]) hbi).2 e (Array.mem_toList_iff.2 he) hb
            have : e.on ∉ i :: r := by
              intro hm
              rcases List.mem_cons.1 hm with hm | hm
              · omega
              · have := (List.pairwise_cons.1 hL.sorted).1 _ hm; omega
            rw [getD_flip (by rw [hL.size]; omega) false true]
            exact (hL.iff e.on (by omega)).2 this
        rw [h0] at this
        cases this
    · obtain ⟨him, hu⟩ := hL.unbound hF hi
      obtain ⟨s, r, rfl⟩ := List.append_of_mem him
      obtain ⟨p, hp⟩ := hget i (by simp)
      rw [pick_append, pick_cons hp] at hr ht hf
      have hilt : i < all.size := hL.lt i (by simp)
      obtain ⟨b, hb⟩ : ∃ b, bs[i]? = some b := ⟨_, List.getElem?_eq_getElem (by rw [hF.bl]; exact hilt)⟩
      have hsort := hL.sorted
      rw [List.pairwise_append] at hsort
      obtain ⟨_, hs2, hs3⟩ := hsort
      have hnot : i ∉ s ++ r := by
        intro hm
        rcases List.mem_append.1 hm with hm | hm
        · exact Nat.lt_irrefl i (hs3 i hm i (List.mem_cons_self ..))
        · exact Nat.lt_irrefl i ((List.pairwise_cons.1 hs2).1 i hm)
      have hbefore : ∀ q ∈ pick L s, Free2 all q p ∧ NoLp q p := fun q hq => by
        obtain ⟨j, hj, hq'⟩ := pick_mem hq
        have hji : j < i := hs3 j hj i (List.mem_cons_self ..)
        obtain ⟨h1, h2⟩ := hF.pair j i q p b hji hq' hp hb
        refine ⟨h2.resolve_left fun hx => ?_, h1⟩
        rw [hu b hb j (by simp [hj])] at hx
        cases hx
      have hafter : ∀ q ∈ pick L r, NoLp p q := fun q hq => by
        obtain ⟨j, hj, hq'⟩ := pick_mem hq
        have hij : i < j := (List.pairwise_cons.1 hs2).1 j hj
        obtain ⟨bj, hbj⟩ : ∃ b, bs[j]? = some b := ⟨_, List.getElem?_eq_getElem (by rw [hF.bl]; exact hL.lt j (by simp [hj]))⟩
        exact (hF.pair i j p q bj hij hp hq' hbj).1
      obtain ⟨m1, hs, hr1⟩ := bubble hr hbefore (hf p (by simp))
      have hop : all[i]? = some p.1 := hF.ops i p hp
      have ht' : Todo (C.vars f) nt κ ((pick L s).map Prod.fst ++ p.1 :: (pick L r).map Prod.fst) := by simpa using ht
      have hL' := hL.next hF hu
      have hlen' : (s ++ r).length = fuel := by simp at hlen ⊢; omega
      have htd : Todo (C.vars f) nt (takes (C.vars f) κ (uses p.1.op)) ((pick L (s ++ r)).map Prod.fst) := by rw [pick_append, List.map_append]; exact ht'.next
      have hrn : Runs C T Y f all (pick L (s ++ r)) m1 m' := by rw [pick_append]; exact hr1
      have hfn : ∀ q ∈ pick L (s ++ r), ∀ x, q.2.1 = .la x → FreeE x m1.tp ∧ FreeE x m1.env := by
        rw [pick_append]
        intro q hq x hx
        have hq' : q ∈ pick L s ++ p :: pick L r := by
          rcases List.mem_append.1 hq with hq | hq
          · exact List.mem_append_left _ hq
          · exact List.mem_append_right _ (List.mem_cons_of_mem _ hq)
        refine hs.free (hf q hq' x hx) fun hk => ?_
        rcases List.mem_append.1 hq with hq | hq
        · have := (hbefore q hq).1.1
          rw [hx, hk] at this
          simp [okPair, beq_self] at this
        · exact hafter q hq x hk hx
      have hsub : ∀ j ∈ s ++ r, j ∈ s ++ i :: r := fun j hj => by
        rcases List.mem_append.1 hj with hj | hj
        · exact List.mem_append_left _ hj
        · exact List.mem_append_right _ (List.mem_cons_of_mem _ hj)
      have hback : ∀ j, j ∉ s ++ r → j ≠ i → j ∉ s ++ i :: r := fun j hj hne hm => by
        rcases List.mem_append.1 hm with hm | hm
        · exact hj (List.mem_append_left _ hm)
        · rcases List.mem_cons.1 hm with hm | hm
          · exact hne hm
          · exact hj (List.mem_append_right _ hm)
      unfold wpOpIn
      rw [hop]
      cases hrs : p.2.2 with
      | none =>
        rw [hrs] at hs
        refine hs.sim hT hY h (ht'.ready (by simp)) (ht'.dst p.1 (by simp)) (n := n) (Q := Q) (ro := ro) ?_
        intro w1 G1 lb1 a1 h1 k1 e1
        refine ih (s ++ r) _ m1 G1 lb1 _ w1 a1 XS hlen' hL' h1 htd hrn hfn (hk.step he k1) (he.step hN hk.size e1) (Nat.le_trans hN e1.le.nx) (fun j hj q id x hq hx => ?_) (hW.mono k1 e1) (fun j hj q id x hq hx => ?_)
        · obtain ⟨q1, q2, q3⟩ := hpend j (hsub j hj) q id x hq hx
          exact ⟨q1, Nat.lt_of_lt_of_le q2 e1.le.nx, (e1.le.ob id q2).trans q3⟩
        · by_cases e : j = i
          · subst e
            rw [hp] at hq
            cases hq
            rw [hrs] at hx
            cases hx
          · exact hdone j (hback j hj e) q id x hq hx
      | some idx =>
        obtain ⟨id, x⟩ := idx
        rw [hrs] at hs
        obtain ⟨q1, q2, q3⟩ := hpend i (by simp) p id x hp hrs
        refine sim_new hs h (ht'.ready (by simp)) (ht'.dst p.1 (by simp)) q3 q2 (n := n) (Q := Q) (ro := ro) ?_
        intro w1 G1 l a1 h1 hsz e1 k1 hnew
        have he' : ExtN N G0 (G.place id (w.heap.size, 0, l)) w0 := he.place q1
        have hW' : Waiting (G.place id (w.heap.size, 0, l)) w w0.heap.size XS := ⟨fun e hx => ⟨(hW.at_ e hx).1.place q3, (hW.at_ e hx).2⟩, hW.apart⟩
        have hW1 := hW'.mono k1 e1
        refine ih (s ++ r) _ m1 G1 lb _ w1 a1 ((id, w.heap.size, l, x) :: XS) hlen' hL' h1 htd hrn hfn (hk.step he' k1) (he'.step hN hk.size e1) (Nat.le_trans hN e1.le.nx) (fun j hj q id' x' hq hx => ?_) ⟨fun e hx => ?_, ?_⟩ (fun j hj q id' x' hq hx => ?_)
        · obtain ⟨p1, p2, p3⟩ := hpend j (hsub j hj) q id' x' hq hx
          refine ⟨p1, Nat.lt_of_lt_of_le p2 e1.le.nx, (e1.le.ob id' p2).trans ?_⟩
          show (if id' = id then _ else G.ob id') = _
          rw [if_neg (fun e => by
            subst e
            have := hdist i j p q id' x x' hp hq hrs hx
            subst this
            exact hnot hj)]
          exact p3
        · rcases List.mem_cons.1 hx with rfl | hx
          · exact ⟨{ hnew with new := hk.size }, by show w.heap.size < _; omega⟩
          · exact hW1.at_ e hx
        · simp only [List.map_cons]
          refine List.nodup_cons.2 ⟨fun hm => ?_, hW.apart⟩
          obtain ⟨e, hx, e2⟩ := List.mem_map.1 hm
          have := (hW.at_ e hx).2
          omega
        · by_cases e : j = i
          · subst e
            rw [hp] at hq
            cases hq
            rw [hrs] at hx
            cases hx
            exact ⟨_, _, List.mem_cons_self ..⟩
          · obtain ⟨B, l', hm⟩ := hdone j (hback j hj e) q id' x' hq hx
            exact ⟨B, l', List.mem_cons_of_mem _ hm⟩
end
end Go.Mu
end
section
/- Regions; a range over a function. -/
set_option linter.unusedSimpArgs false
set_option linter.unusedVariables false
set_option linter.constructorNameAsVariable false
namespace Go.Mu
section
variable {C : Cfg} {vars nt : Nat} {G G' : Gh} {lb lb' : Nat → Option Nat} {κ κ' : Nat → Bool} {w w' : World} {a : Act} {m m' m1 m2 : M} {o : Oper} {v : V} {P : Program} {st st' : St} {ro : Option Nat}
variable {T : CallF} {Y : YieldF} {f : FuncId} {mv : Bool} {e : Eff} {k : Kind} {all : Array Oper}

abbrev κ0 : Nat → Bool := fun _ => false

theorem noDup_nodup : ∀ {l : List Nat}, noDup l = true → l.Nodup
  | [], _ => List.nodup_nil
  | a :: r, h => by
    simp only [noDup, Bool.and_eq_true, Bool.not_eq_true'] at h
    exact List.nodup_cons.2 ⟨by simpa using h.1, noDup_nodup h.2⟩

/-- At a region's end its temporaries are gone. -/
theorem Rel.done (h : Rel C vars nt G lb κ w a m) (ht : Tmps vars κ) : Rel C vars nt G lb κ0 w a { m with tp := [] } := by
  refine { h with tpv := fun t v hv => (by simp [getE] at hv), slot := fun t v hv => ?_ }
  have hv' : getE m.env t = some v := by simpa [slotV, getE] using hv
  have hb := h.envv t v hv'
  have hs : slotV m t = some v := by
    simp only [slotV]
    cases e : getE m.tp t with
    | none => exact hv'
    | some u => have := h.tpv t u e; rw [hb] at this; cases this
  obtain ⟨c, hc, hr⟩ := h.slot t v hs
  refine ⟨c, hc, ?_⟩
  have hk : κ t = false := by
    cases e : κ t with
    | false => rfl
    | true => have := ht t e; rw [hb] at this; cases this
  refine srel_split (P := fun v => SRel G lb κ t v c → SRel G lb κ0 t v c) (fun s o e => by subst e; exact id) (fun e => by subst e; exact id) (fun h1 h2 hr => ?_) hr
  rw [SRel.plain h1 h2] at hr ⊢
  exact ⟨hr.1, fun _ => hr.2 hk⟩

theorem todo_of {bs : List Nat} {draw : Bool} (h : regionOk vars nt bs all draw = true) : Todo vars nt κ0 all.toList := by
  simp only [regionOk, Bool.and_eq_true] at h
  refine ⟨fun o ho t ht => ?_, noDup_nodup h.1.2, fun o ho t ht => rfl, fun t ht => by cases ht⟩
  have := List.all_eq_true.1 h.1.1 o ho
  rw [ht] at this
  exact ltB_iff.1 this

theorem facts_of {bs : List Nat} {env : Env} {ks : List Kind} {rss : List (Option (Nat × Obj))} (h : regionOk vars nt bs all true = true) (hk : okAll env bs [] ks = true) (hl : ks.length = all.toList.length) (hl2 : rss.length = all.toList.length) : Facts all bs (items all.toList ks rss) := by
  simp only [regionOk, Bool.and_eq_true, Bool.not_true, Bool.false_or] at h
  obtain ⟨_, h1, h2⟩ := h
  obtain ⟨b1, b2⟩ := befOk_get h2
  refine ⟨fun i p hp => ?_, ?_, ?_, fun i j p q b hij hp hq hb => ?_, fun i o b ho hb => ?_⟩
  · rw [← Array.getElem?_toList]; exact (items_get hp).1
  · rw [items_length hl hl2]; simp
  · simpa using b1
  · obtain ⟨p1, p2, _⟩ := items_get hp
    obtain ⟨q1, q2, _⟩ := items_get hq
    have g1 := drawOk_get h1 i j p.1 q.1 b (by simpa using hij) (by simpa using p1) q1 hb
    have g2 := (okAll_get hk).2 i j p.2.1 q.2.1 b (by simpa using hij) (by simpa using p2) q2 hb
    refine ⟨g2.1, ?_⟩
    rcases g1 with g1 | g1
    · exact .inl g1
    · rcases g2.2 with g2 | g2
      · exact .inl g2
      · exact .inr ⟨g2, g1⟩
  · obtain ⟨g1, g2⟩ := b2 i b o hb (by rw [Array.getElem?_toList]; exact ho)
    exact ⟨g1, fun e he hb => by have := g2 e he hb; omega⟩

theorem pick_range : ∀ {L : List Item}, pick L (List.range L.length) = L
  | [] => rfl
  | x :: r => by
    have ih := pick_range (L := r)
    unfold pick at ih ⊢
    rw [List.length_cons, List.range_succ_eq_map]
    simp only [List.filterMap_cons, List.getElem?_cons_zero, List.filterMap_map, List.cons.injEq, true_and]
    exact ih

/-- The objects' numbers come. -/
def Gh.born (G : Gh) (id B : Nat) : Gh := { G with own := fun b => if b = B then some (.ob id) else G.own b }

theorem Rel.birth (h : Rel C vars nt G lb κ w a m) {n0 id B l : Nat} {x : Obj} (hn : NewAt G w n0 id B l x) : Rel C vars nt (G.born id B) lb κ w a { m with st := m.st.put id x } := by
  have ok := h.heap.ok
  have own : ∀ B' y, G.own B' = some y → y ≠ .fr → (G.born id B).own B' = some y := fun B' y hB hy => by
    show (if B' = B then _ else G.own B') = _
    rw [if_neg (fun e => by subst e; rw [hn.own] at hB; cases hB; exact hy rfl)]; exact hB
  have hBs : B < w.heap.size := ok.lt B _ hn.own
  refine Rel.xfer (G' := G.born id B) (L' := m.L) (st' := m.st.put id x) h ⟨fun _ _ _ h => h, Nat.le_refl _, fun _ _ => rfl⟩ (fun _ h => h) (fun y => y = .fr) (fun t e => by cases e) (fun e => by cases e) (fun B' y hB hE => ⟨own B' y hB hE, rfl, rfl⟩) ?_ h.heap.nx (fun _ _ _ _ => rfl)
    (fun s v hv => .inl ⟨hv, fun e => (by cases e), fun e => (by cases e), rfl⟩) (fun id' y hy => ?_)
  · refine ⟨ok.ic, ok.tlic, ok.tl, fun B' y hy => ?_, ok.tllt, fun B' hB' => ?_⟩
    · have hy' : (if B' = B then some (Own.ob id) else G.own B') = some y := hy
      by_cases e : B' = B
      · subst e; exact hBs
      · rw [if_neg e] at hy'; exact ok.lt B' y hy'
    · by_cases e : B' = B
      · subst e; exact ⟨hn.ic, hn.tl⟩
      · have e1 : (G.born id B).own B' = G.own B' := if_neg e
        rw [e1] at hB'
        exact ok.excl B' hB'
  · rcases St.get_put hy with ⟨rfl, rfl⟩ | ⟨h1, h2⟩
    · refine .inr (.inl ⟨B, 0, l, hn.ob, if_pos rfl, by show id' < m.st.nx; rw [← h.heap.nx]; exact hn.lt, ?_⟩)
      have hw := hn.blk
      unfold Waits at hw
      split at hw
      · exact ⟨#[], hw, rfl, fun j k v b hj => by simp at hj⟩
      · obtain ⟨cc, T, q1, q2, q3⟩ := hw
        rename_i cs
        have hl : cc.size = cs.length := by rw [← q3.len]; simp
        refine ⟨cc, T, q1, q2, by omega, ?_⟩
        have e1 : (cc.toList.drop 0).take cs.length = cc.toList := by rw [List.drop_zero, ← hl, ← Array.length_toList, List.take_length]
        rw [e1]
        have hrs : rss cs cc.toList = [] := rss_pls cs _ (pls_ofValues cs fun j u hu => (q3.cell j u hu).1)
        refine ⟨q3.len, fun j u y hu hy => ?_, fun u hu => ?_, by rw [hrs]; exact List.nodup_nil, by rw [hrs]; exact fun B hB => nomatch hB⟩
        · obtain ⟨_, _, y', hy', hr⟩ := q3.cell j u hu
          rw [hy] at hy'; cases hy'
          exact hr.own_irrel
        · obtain ⟨j, hj⟩ := List.mem_iff_getElem?.1 hu
          exact (q3.cell j u hj).2.1
      · exact hw.elim
    · rcases h.heap.obj id' y h2 with ⟨B', s, l', g1, g2, g3, g4⟩ | g
      · exact .inl ⟨h2, fun e => (by cases e), fun e => (by cases e), g3⟩
      · exact .inr (.inr g)

theorem nodup_map_inj {α β : Type} {g : α → β} : ∀ {l : List α}, (l.map g).Nodup → ∀ x ∈ l, ∀ y ∈ l, g x = g y → x = y
  | [], _, x, hx, _, _, _ => nomatch hx
  | z :: r, hn, x, hx, y, hy, e => by
    simp only [List.map_cons, List.nodup_cons] at hn
    rcases List.mem_cons.1 hx with hx1 | hx1
    · rcases List.mem_cons.1 hy with hy1 | hy1
      · rw [hx1, hy1]
      · exact absurd (List.mem_map.2 ⟨y, hy1, by rw [← hx1]; exact e.symm⟩) hn.1
    · rcases List.mem_cons.1 hy with hy1 | hy1
      · exact absurd (List.mem_map.2 ⟨x, hx1, by rw [← hy1]; exact e⟩) hn.1
      · exact nodup_map_inj hn.2 x hx1 y hy1 e

theorem births {n0 : Nat} {XS : List (Nat × Nat × Nat × Obj)} (hap : (XS.map fun e => e.2.1).Nodup) : ∀ (xs : List (Nat × Obj)) (G : Gh) (m : M), (xs.map Prod.fst).Nodup → (∀ e ∈ xs, ∃ B l, (e.1, B, l, e.2) ∈ XS ∧ NewAt G w n0 e.1 B l e.2) →
    Rel C vars nt G lb κ w a m → ∃ G', Rel C vars nt G' lb κ w a { m with st := putAll m.st xs } ∧ G'.nx = G.nx ∧ (∀ id, G'.ob id = G.ob id) ∧ (∀ B, G'.tl B = G.tl B ∧ ∀ o, G'.ic B o = G.ic B o) ∧ ∀ B, B < n0 → G'.own B = G.own B
  | [], G, m, _, _, h => ⟨G, h, rfl, fun _ => rfl, fun _ => ⟨rfl, fun _ => rfl⟩, fun _ _ => rfl⟩
  | e :: r, G, m, hn, hx, h => by
    simp only [List.map_cons, List.nodup_cons] at hn
    obtain ⟨B, l, hm, hw⟩ := hx e (List.mem_cons_self ..)
    have h1 := h.birth hw
    have hrest : ∀ e' ∈ r, ∃ B1 l1, (e'.1, B1, l1, e'.2) ∈ XS ∧ NewAt (G.born e.1 B) w n0 e'.1 B1 l1 e'.2 := fun e' he' => by
      obtain ⟨B', l', hm', hw'⟩ := hx e' (List.mem_cons_of_mem _ he')
      have hne : B' ≠ B := fun eB => by
        have := nodup_map_inj hap _ hm' _ hm eB
        simp only [Prod.mk.injEq] at this
        exact hn.1 (List.mem_map.2 ⟨e', he', this.1⟩)
      refine ⟨B', l', hm', ⟨hw'.ob, ?_, hw'.lt, hw'.new, ?_, hw'.ic, hw'.tl⟩⟩
      · show (if B' = B then _ else G.own B') = _
        rw [if_neg hne]; exact hw'.own
      · have := hw'.blk
        unfold Waits at this ⊢
        split at this
        · exact this
        · obtain ⟨cc, T, q1, q2, q3⟩ := this
          exact ⟨cc, T, q1, q2, q3.mono ⟨fun _ _ _ h => h, Nat.le_refl _, fun _ _ => rfl⟩⟩
        · exact this.elim
    obtain ⟨G', r1, r2, r3, r4, r5⟩ := births hap r (G.born e.1 B) _ hn.2 hrest h1
    refine ⟨G', r1, r2, r3, r4, fun b hb => (r5 b hb).trans ?_⟩
    show (if b = B then _ else G.own b) = _
    rw [if_neg (fun e => by subst e; exact absurd hw.new (by omega))]

theorem newsOf_mem : ∀ {rss : List (Option (Nat × Obj))} {e : Nat × Obj}, e ∈ newsOf rss → ∃ j : Nat, rss[j]? = some (some e)
  | [], e, h => by simp [newsOf] at h
  | none :: r, e, h => by
    obtain ⟨j, hj⟩ := newsOf_mem (rss := r) h
    exact ⟨j + 1, by simpa using hj⟩
  | some x :: r, e, h => by
    rcases List.mem_cons.1 h with rfl | h
    · exact ⟨0, rfl⟩
    · obtain ⟨j, hj⟩ := newsOf_mem (rss := r) h
      exact ⟨j + 1, by simpa using hj⟩
theorem newsOf_nodup : ∀ {rss : List (Option (Nat × Obj))} {b : Nat}, (∀ (j : Nat) id x, rss[j]? = some (some (id, x)) → id = b + j) → ((newsOf rss).map Prod.fst).Nodup
  | [], _, _ => List.nodup_nil
  | none :: r, b, h => newsOf_nodup (rss := r) (b := b + 1) fun j id x hj => by have := h (j + 1) id x (by simpa using hj); omega
  | some e :: r, b, h => by
    have h0 := h 0 e.1 e.2 rfl
    have hr : ∀ (j : Nat) id x, r[j]? = some (some (id, x)) → id = b + 1 + j := fun j id x hj => by have := h (j + 1) id x (by simpa using hj); omega
    simp only [newsOf, List.map_cons]
    refine List.nodup_cons.2 ⟨fun hm => ?_, newsOf_nodup hr⟩
    obtain ⟨e', he', e2⟩ := List.mem_map.1 hm
    obtain ⟨j, hj⟩ := newsOf_mem he'
    have := hr j e'.1 e'.2 hj
    omega

/-- Numbers are kept for objects that are to come. -/
def Gh.keep (G : Gh) (n : Nat) : Gh := { G with nx := G.nx + n, ob := fun id => if id < G.nx then G.ob id else none }
theorem Rel.keep (h : Rel C vars nt G lb κ w a m) (n : Nat) : Rel C vars nt (G.keep n) lb κ w a { m with st := { m.st with nx := m.st.nx + n } } := by
  have ok := h.heap.ok
  refine Rel.xfer (G' := G.keep n) (L' := m.L) h ⟨fun _ _ _ h => h, Nat.le_add_right _ _, fun id hid => if_pos hid⟩ (fun _ h => h) (fun y => False) (fun t e => e.elim) (fun e => e) (fun B y hB hE => ⟨hB, rfl, rfl⟩) ⟨ok.ic, ok.tlic, ok.tl, ok.lt, ok.tllt, ok.excl⟩ ?_ (fun _ _ _ _ => rfl)
    (fun s v hv => .inl ⟨hv, fun e => e, fun e => e, rfl⟩) (fun id y hy => ?_)
  · show G.nx + n = m.st.nx + n
    rw [h.heap.nx]
  · have hy' : m.st.get id = some y := hy
    rcases h.heap.obj id y hy' with ⟨B, s, l', g1, g2, g3, g4⟩ | g
    · exact .inl ⟨hy', fun e => e, fun e => e, Nat.lt_of_lt_of_le g3 (Nat.le_add_right _ _)⟩
    · exact .inr (.inr g)

theorem replicate_none {n i : Nat} {x : Nat × Obj} (h : (List.replicate n (none : Option (Nat × Obj)))[i]? = some (some x)) : False := by
  rw [List.getElem?_replicate] at h
  split at h <;> simp at h

theorem region_ok (hT : SoundT C T) (hY : SoundY C Y) (hmix : C.P.follows .mixedOrders = true) {id : Nat} {ops : Array Oper} {draw : Bool} (hok : regionOk (C.vars f) nt (C.befs f id) ops draw = true) {ks : List Kind}
    (he : evalOps C T Y f (bif draw then 0 else C.moves f id) ops ops.toList 0 m = some (m', ks)) (hk : (!draw || okAll m.env (C.befs f id) [] ks) = true) (htp : m.tp = [])
    (h : Rel C (C.vars f) nt G lb κ0 w a m) {n : Nat} {Q : Exit → Act → World → Prop}
    (hQ : ∀ w' G' lb' a', Rel C (C.vars f) nt G' lb' κ0 w' a' { m' with tp := [] } → Keeps G w w' → Ext G G' w → Q .normal a' w') : (Code.region id ops draw).wpIn (WF ro) n C.P Q a w := by
  have hfin : ∀ w' G' lb' κ' a', Rel C (C.vars f) nt G' lb' κ' w' a' m' → Tmps (C.vars f) κ' → Keeps G w w' → Ext G G' w → Q .normal a' w' := fun w' G' lb' κ' a' h1 h2 h3 h4 => hQ w' G' lb' a' (h1.done h2) h3 h4
  cases draw with
  | false => exact wpIn_region_list (ops_straight hT hY ops.toList 0 m ks G lb κ0 w a he h (todo_of hok) hfin)
  | true =>
    simp only [Bool.not_true, Bool.false_or] at hk
    simp only [cond_true] at he
    obtain ⟨hl, hr⟩ := evalOps_runs he
    have hl2 : (List.replicate ops.toList.length (none : Option (Nat × Obj))).length = ops.toList.length := by simp
    have hF := facts_of hok hk hl hl2
    refine wpIn_region_any hmix ?_
    have hLlen : (items ops.toList ks (List.replicate ops.toList.length none)).length = ops.size := hF.len
    have hmap : (pick (items ops.toList ks (List.replicate ops.toList.length none)) (List.range ops.size)) = items ops.toList ks (List.replicate ops.toList.length none) := by rw [← hLlen]; exact pick_range
    have hno : ∀ (i : Nat) (p : Item) (idx : Nat) (x : Obj), (items ops.toList ks (List.replicate ops.toList.length none))[i]? = some p → p.2.2 = some (idx, x) → False := fun i p idx x hp hx => by
      have := (items_get hp).2.2
      rw [hx] at this
      exact replicate_none this
    refine any_ok (m' := m') hT hY hF (N := G.nx) (G0 := G) (w0 := { w with drawn := w.drawn + 1 }) (fun i j p q idx x y hp hq hx hy => (hno i p idx x hp hx).elim) ?_ ops.size (List.range ops.size) _ m G lb κ0 { w with drawn := w.drawn + 1 } a [] (by simp) ?_ (h.tape rfl) ?_ ?_ ?_
      (.refl G _) ⟨fun _ _ _ h => h, Nat.le_refl _, fun _ _ => rfl, fun _ h => ⟨h, rfl, fun _ => rfl⟩, fun _ _ h => h⟩ (Nat.le_refl _) (fun i hi p idx x hp hx => (hno i p idx x hp hx).elim) ⟨fun e h => (by cases h), List.nodup_nil⟩ (fun i hi p idx x hp hx => (hno i p idx x hp hx).elim)
    · intro w' G' lb' κ' a' XS h1 h2 h3 h4 _ _
      exact hfin w' G' lb' κ' a' h1 h2 (Keeps.shift (w1 := { w with drawn := w.drawn + 1 }) rfl ⟨rfl, rfl⟩ h3) (Ext.shift (w1 := { w with drawn := w.drawn + 1 }) rfl ⟨⟨h4.ic, h4.nx, h4.ob⟩, h4.fr, h4.free⟩)
    · refine ⟨List.pairwise_lt_range, fun i hi => List.mem_range.1 hi, by simp, fun i hi => ?_, fun i hi hn => absurd (List.mem_range.2 hi) hn⟩
      simp [hi]
    · rw [hmap, items_fst hl hl2]
      exact todo_of hok
    · rw [hmap]; exact hr
    · rw [hmap]
      intro p hp s hs
      obtain ⟨i, hi⟩ := List.mem_iff_getElem?.1 hp
      have := (okAll_get hk).1 i p.2.1 (items_get hi).2.1
      rw [hs] at this
      exact ⟨fun t o _ e => by rw [htp] at e; simp [getE] at e, fun t o hn => freeOf_get this t o hn⟩

theorem region_new (hT : SoundT C T) (hY : SoundY C Y) (hmix : C.P.follows .mixedOrders = true) {id : Nat} {ops : Array Oper} (hok : regionOk (C.vars f) nt (C.befs f id) ops true = true) {ks : List Kind} {xs : List (Nat × Obj)}
    (he : evalOpsN C T Y f m.st.nx ops ops.toList 0 { m with st := { m.st with nx := m.st.nx + ops.size } } = some (m', ks, xs)) (hk : okAll m.env (C.befs f id) [] ks = true) (htp : m.tp = [])
    (h : Rel C (C.vars f) nt G lb κ0 w a m) {n : Nat} {Q : Exit → Act → World → Prop}
    (hQ : ∀ w' G' lb' a', Rel C (C.vars f) nt G' lb' κ0 w' a' { m' with tp := [], st := putAll m'.st xs } → Keeps G w w' → Ext G G' w → Q .normal a' w') : (Code.region id ops true).wpIn (WF ro) n C.P Q a w := by
  obtain ⟨rss, hl, hl2, rfl, hids, hr⟩ := evalOpsN_runs he
  have hF := facts_of hok hk hl hl2
  refine wpIn_region_any hmix ?_
  let L := items ops.toList ks rss
  have hLlen : L.length = ops.size := hF.len
  have hmap : pick L (List.range ops.size) = L := by rw [← hLlen]; exact pick_range
  have hitem : ∀ (i : Nat) (p : Item) (idx : Nat) (x : Obj), L[i]? = some p → p.2.2 = some (idx, x) → idx = m.st.nx + i := fun i p idx x hp hx => by
    have := (items_get hp).2.2
    rw [hx] at this
    have := hids i idx x this
    omega
  have hk0 := h.keep ops.size
  have hnx := h.heap.nx
  refine any_ok (m' := m') hT hY hF (N := G.nx) (G0 := G.keep ops.size) (w0 := { w with drawn := w.drawn + 1 }) (fun i j p q idx x y hp hq hx hy => ?_) ?_ ops.size (List.range ops.size) _ _ (G.keep ops.size) lb κ0 { w with drawn := w.drawn + 1 } a [] (by simp) ?_ (hk0.tape rfl) ?_ ?_ ?_
    (.refl _ _) ⟨fun _ _ _ h => h, Nat.le_refl _, fun _ _ => rfl, fun _ h => ⟨h, rfl, fun _ => rfl⟩, fun _ _ h => h⟩ (Nat.le_add_right _ _) (fun i hi p idx x hp hx => ?_) ⟨fun e h => (by cases h), List.nodup_nil⟩ (fun i hi p idx x hp hx => ?_)
  · have e1 := hitem i p idx x hp hx
    have e2 := hitem j q idx y hq hy
    omega
  · intro w' G' lb' κ' a' XS h1 h2 h3 h4 h5 h6
    obtain ⟨G'', r1, r2, r3, r4, r5⟩ := births (n0 := w.heap.size) h5.apart (newsOf rss) G' m' (newsOf_nodup (b := m.st.nx) fun j idx x hj => by have := hids j idx x hj; omega) (fun e he => by
      obtain ⟨j, hj⟩ := newsOf_mem he
      have hlt : j < L.length := by
        have := (List.getElem?_eq_some_iff.1 hj).1
        rw [hLlen]; rw [hl2] at this; simpa using this
      have hp : L[j]? = some L[j] := List.getElem?_eq_getElem hlt
      have h3' := (items_get hp).2.2
      rw [hj] at h3'
      simp only [Option.some.injEq] at h3'
      obtain ⟨B, l, hm⟩ := h6 _ (List.mem_of_getElem? hp) e.1 e.2 h3'.symm
      exact ⟨B, l, hm, (h5.at_ _ hm).1⟩) h1
    refine hQ w' G'' lb' a' (r1.done h2) (Keeps.shift (w1 := { w with drawn := w.drawn + 1 }) (G := G) rfl ⟨rfl, rfl⟩ ⟨h3.size, h3.old, h3.same⟩) ⟨⟨fun B o v e => ((r4 B).2 o).trans (h4.ic B o v e), ?_, fun id hid => ?_⟩, fun B hB => ?_, fun B hB hn => ?_⟩
    · rw [r2]; exact Nat.le_trans (Nat.le_add_right G.nx ops.size) h4.nx
    · rw [r3, h4.ob id hid]; exact if_pos hid
    · obtain ⟨e1, e2, e3⟩ := h4.fr B hB
      exact ⟨(r5 B (h.heap.ok.lt B _ hB)).trans e1, (r4 B).1.trans e2, fun o => ((r4 B).2 o).trans (e3 o)⟩
    · exact (r5 B hB).trans (h4.free B hB hn)
  · refine ⟨List.pairwise_lt_range, fun i hi => List.mem_range.1 hi, by simp, fun i hi => ?_, fun i hi hn => absurd (List.mem_range.2 hi) hn⟩
    simp [hi]
  · rw [hmap, items_fst hl hl2]
    exact todo_of hok
  · rw [hmap]; exact hr
  · rw [hmap]
    intro p hp s hs
    obtain ⟨i, hi⟩ := List.mem_iff_getElem?.1 hp
    have := (okAll_get hk).1 i p.2.1 (items_get hi).2.1
    rw [hs] at this
    exact ⟨fun t o _ e => by rw [htp] at e; simp [getE] at e, fun t o hn => freeOf_get this t o hn⟩
  · have e1 := hitem i p idx x hp hx
    have hi' : i < ops.size := List.mem_range.1 hi
    refine ⟨by omega, by show idx < G.nx + ops.size; omega, ?_⟩
    show (if idx < G.nx then G.ob idx else none) = none
    rw [if_neg (by omega)]
  · have : i < L.length := (List.getElem?_eq_some_iff.1 hp).1
    exact absurd (List.mem_range.2 (by omega)) hi
end
end Go.Mu
end
section
/- A range over a function. -/
set_option linter.unusedSimpArgs false
set_option linter.unusedVariables false
set_option linter.constructorNameAsVariable false
namespace Go.Mu
section
variable {C : Cfg} {vars nt : Nat} {G G' : Gh} {lb lb' : Nat → Option Nat} {κ κ' : Nat → Bool} {w w' : World} {a : Act} {m m' m1 m2 : M} {o : Oper} {v : V} {P : Program} {st st' : St} {ro : Option Nat}
variable {T : CallF} {Y : YieldF} {f : FuncId} {mv : Bool} {e : Eff} {k : Kind} {all : Array Oper}

def Gh.newMk (G : Gh) (B : Nat) : Gh := { G with own := fun b => if b = B then some .mk else G.own b }

/-- A mark. -/
theorem Rel.newMk (h : Rel C vars nt G lb κ w a m) :
    Rel C vars nt (G.newMk w.heap.size) lb κ (w.alloc (.deferred (some []))) { a with defers := { target := .collected w.heap.size, args := #[] } :: a.defers } m ∧ Keeps G w (w.alloc (.deferred (some []))) ∧ Ext G (G.newMk w.heap.size) w := by
  have ok := h.heap.ok
  have own : ∀ B y, G.own B = some y → (G.newMk w.heap.size).own B = some y := fun B y hB => by
    have := ok.lt B y hB
    show (if B = w.heap.size then _ else G.own B) = _
    rw [if_neg (by omega)]; exact hB
  have hle : GLe G (G.newMk w.heap.size) := ⟨fun _ _ _ h => h, Nat.le_refl _, fun id hid => rfl⟩
  have hr : Rel C vars nt (G.newMk w.heap.size) lb κ (w.alloc (.deferred (some []))) a m := by
    refine Rel.xfer h hle (fun _ h => h) (fun y => False) (fun t e => e.elim) (fun e => e) (fun B y hB hE => ⟨own B y hB, rfl, World.alloc_old (ok.lt B y hB)⟩) ?_ h.heap.nx (fun _ _ _ _ => rfl)
      (fun s v hv => .inl ⟨hv, fun e => e, fun e => e, rfl⟩) (fun id y hy => ?_)
    · refine ok.alloc (f := (G.newMk w.heap.size).own) (fun B y hB => ?_)
      have hB' : (if B = w.heap.size then some Own.mk else G.own B) = some y := hB
      by_cases e : B = w.heap.size
      · exact .inl e
      · rw [if_neg e] at hB'; exact .inr (.inl hB')
    · rcases h.heap.obj id y hy with ⟨B, s, l', g1, g2, g3, g4⟩ | g
      · exact .inl ⟨hy, fun e => e, fun e => e, g3⟩
      · exact .inr (.inr g)
  refine ⟨{ hr with marks := fun d hd => ?_, apart := ?_ }, ⟨by rw [World.alloc_size]; omega, fun B hB _ => World.alloc_old hB, rfl, rfl⟩, ⟨hle, fun B hB => ⟨own B _ hB, rfl, fun _ => rfl⟩, fun B hB ho => ?_⟩⟩
  · rcases List.mem_cons.1 hd with rfl | hd
    · exact ⟨_, rfl, if_pos rfl, World.alloc_new⟩
    · exact hr.marks d hd
  · simp only [List.map_cons]
    refine List.nodup_cons.2 ⟨fun hm => ?_, hr.apart⟩
    obtain ⟨d, hd, he⟩ := List.mem_map.1 hm
    obtain ⟨r, e1, e2, e3⟩ := h.marks d hd
    subst e1
    simp only at he
    have := ok.lt r _ e2
    omega
  · show (if B = w.heap.size then _ else G.own B) = _
    rw [if_neg (by omega)]; exact ho

theorem cleanE_get : ∀ {e : Env}, cleanE e = true → ∀ t s n, getE e t ≠ some (.lp s n)
  | [], _, t, s, n => by simp [getE]
  | (t', v) :: r, h, t, s, n => by
    simp only [cleanE, Bool.and_eq_true] at h
    rw [getE_cons]
    by_cases e : t' = t
    · rw [if_pos e]
      intro hv
      simp only [Option.some.injEq] at hv
      subst hv
      cases h.1
    · rw [if_neg e]
      exact cleanE_get h.2 t s n

theorem run_endLoop {B : Nat} {r : Loop} {w : World} (h : w.heap[B]? = some (.loop r)) (hb : r.state ≠ .busy) : (Instr.endLoop B).run P w = .ok r.pending (w.upd B (.loop { r with state := .exhausted })) := by
  have hb' : (r.state == .busy) = false := by cases hs : r.state <;> simp_all
  have hset : (setObj B (.loop { r with state := .exhausted })).run P w = .ok () (w.upd B (.loop { r with state := .exhausted })) := by
    simp [setObj, Sem.run, h, World.upd]
  simp only [Instr.endLoop, Instr.getLoop, Sem.run_bind, run_getObj_loop h, Result.andThen_ok, Sem.run_pure, hb', Bool.false_eq_true, if_false, hset]

/-- What is done behind the loop. -/
def pendPost (pend : Option Code) (A : Prop) (B : Code → Prop) : Prop := match pend with
  | none => A
  | some c => B c

/-- A range over a function, from its call to its end. -/
theorem range_ok (hT : SoundT C T) (h : Rel C (C.vars f) nt G lb κ0 w a m) (htp : m.tp = []) {g : Operand} {ps : Array Tmp} {assign body : Code} {first cap : List V} {hf : FuncId}
    (hok : codeOk C f nt (.rangeFunc g ps assign body) = true) (hg : rdM false m g = some (.fn (.func hf) first cap)) (hcl : cleanE m.env = true) {v : V}
    (hc : T hf (downs first ++ ([.yl m.st.nx] ++ downs cap)) (m.st.new (.loop .ready none f (downE m.env) ps.toList assign body)) = some (v, st)) {stt : LoopState} {pend : Option Code} {fid : FuncId} {env : Env} {ps' : List Nat} {as' bd' : Code}
    (hget : st.get m.st.nx = some (.loop stt pend fid env ps' as' bd')) (hbusy : stt ≠ .busy) {n : Nat} {Q : Exit → Act → World → Prop}
    (hQ : ∀ w' G' lb' a', Rel C (C.vars f) nt G' lb' κ0 w' a' { m with st := st.put m.st.nx (.loop .exhausted pend fid env ps' as' bd') } → Keeps G w w' → Ext G G' w →
      pendPost pend (Q .normal a' w') (fun c => c.wpIn (WF none) n C.P Q a' w')) :
    (Code.rangeFunc g ps assign body).wpIn (WF none) n C.P Q a w := by
  simp only [codeOk, Bool.and_eq_true] at hok
  obtain ⟨⟨⟨⟨n1, n2⟩, hps⟩, c1⟩, c2⟩ := hok
  refine wpIn_rangeFunc fun fn _ => ?_
  obtain ⟨r1, k1, e1⟩ := h.newMk
  let W1 : World := w.alloc (.deferred (some []))
  let G1 : Gh := G.newMk w.heap.size
  let lp : Loop := { state := .ready, pending := none, fn, tmps := a.tmps, params := ps, assign, body, defers := w.heap.size }
  have hsz : a.tmps.size = nt := h.size
  have hle2 : GLe (G.newMk w.heap.size) ((G.newMk w.heap.size).newOb (w.alloc (.deferred (some []))).heap.size 0 []) := ⟨fun _ _ _ h => h, Nat.le_succ _, fun id hid => if_neg (by omega)⟩
  obtain ⟨r2, k2, e2⟩ := r1.newOb (κ' := κ0) (fun _ h => h) (l := []) (fun B hB => nomatch hB) (ob := .loop lp) (x := .loop .ready none f (downE m.env) ps.toList assign body) (sz := 0) (by
    refine ⟨lp, World.alloc_new, rfl, rfl, rfl, rfl, rfl, by show codeOk C f a.tmps.size assign = true; rw [hsz]; exact c1, by show codeOk C f a.tmps.size body = true; rw [hsz]; exact c2, n1, n2, fun t ht => ?_, fun t u hu => ?_⟩
    · have := List.all_eq_true.1 hps t ht
      simp only [Bool.and_eq_true] at this
      show t < a.tmps.size ∧ _
      rw [hsz]
      exact ⟨ltB_iff.1 this.1, this.2⟩
    · rw [getE_downE] at hu
      cases hx : getE m.env t with
      | none => simp [hx] at hu
      | some x =>
        simp only [hx, Option.map_some, Option.some.injEq] at hu
        subst hu
        obtain ⟨c, hc, hr⟩ := r1.slot t x (by simp [slotV, htp, getE, hx])
        refine ⟨c, ⟨hc, h.envv t x hx⟩, ?_⟩
        refine srel_split (P := fun x' => x = x' → _) ?_ ?_ ?_ rfl (v := x)
        · intro s n e _; subst e; exact absurd hx (cleanE_get hcl t s n)
        · intro e _; subst e; exact .inl rfl
        · intro g1 g2 _
          rw [SRel.plain g1 g2] at hr
          exact .inr ⟨pl_down x, hr.1.mono_pl hle2 (pl_down x)⟩)
  have hnx : (G.newMk w.heap.size).nx = m.st.nx := r1.heap.nx
  let G2 : Gh := (G.newMk w.heap.size).newOb (w.alloc (.deferred (some []))).heap.size 0 []
  let W2 : World := (w.alloc (.deferred (some []))).alloc (.loop lp)
  let l : Nat := (w.alloc (.deferred (some []))).heap.size
  have hob : G2.ob m.st.nx = some (l, 0, 0) := if_pos hnx.symm
  have hlt : m.st.nx < G2.nx := by show m.st.nx < (G.newMk w.heap.size).nx + 1; omega
  -- the function's value
  obtain ⟨first', cap', ev, l1, l2, q1, q2⟩ := rd_fn r2 (m := { m with st := m.st.new _ }) (by
    have : rdM false { m with st := m.st.new (.loop .ready none f (downE m.env) ps.toList assign body) } g = rdM false m g := by cases g <;> rfl
    exact this.trans hg)
  obtain ⟨⟨fnc, f1, f2, f3⟩, hs⟩ := hT hf _ _ _ _ hc
  let yv : Value := .func (.yield l) #[] #[]
  have ev' : a.eval g = .func (.func hf) first'.toArray cap'.toArray := by
    rw [← ev]
    cases g <;> rfl
  have hres : (resolve a.eval (rangeCall g l) 0).run C.P W2 = .ok { target := .fn (.func hf) cap'.toArray, args := first'.toArray ++ #[yv] } W2 := by
    have em : (#[Operand.const yv]).map a.eval = #[yv] := by simp [Act.eval]
    simp only [resolve, rangeCall, ev', Deferred.ofValue]
    rw [em]
    rfl
  have hinv : (invoke (.fn (.func hf) cap'.toArray) (first'.toArray ++ #[yv])).run C.P W2 = .ok (.enter hf (first' ++ ([yv] ++ cap')).toArray) W2 := by
    have e1 : (first'.toArray ++ #[yv]) ++ cap'.toArray = (first' ++ ([yv] ++ cap')).toArray := by
      apply Array.ext'
      simp
    simp only [invoke, callFunc_enter f1 f2 f3, e1]
  have hgiv : Given (G2.hand fun _ => none) (downs first ++ ([.yl m.st.nx] ++ downs cap)) (first' ++ ([yv] ++ cap')) := by
    have hpl : ∀ {u : V} {x : Value} {k : Nat}, pl u = true → VRel G2 u x → Held (G2.hand fun _ => none) (.sv k) u x := fun p r => ⟨r.own_irrel, by rw [rs_pl _ _ p]; exact List.nodup_nil, by rw [rs_pl _ _ p]; exact fun B hB => nomatch hB⟩
    have hall : ∀ (j : Nat) u x, (downs first ++ ([.yl m.st.nx] ++ downs cap))[j]? = some u → (first' ++ ([yv] ++ cap'))[j]? = some x → pl u = true ∧ VRel G2 u x := by
      intro j u x hu hx
      by_cases e1 : j < (downs first).length
      · rw [List.getElem?_append_left e1] at hu
        rw [List.getElem?_append_left (by omega)] at hx
        exact ⟨pls_get (pls_downs first) hu, q1 j u x hu hx⟩
      · rw [List.getElem?_append_right (by omega)] at hu
        rw [List.getElem?_append_right (by omega), l1] at hx
        cases hj : j - (downs first).length with
        | zero =>
          rw [hj] at hu hx
          simp only [List.cons_append, List.nil_append, List.getElem?_cons_zero, Option.some.injEq] at hu hx
          subst hu hx
          exact ⟨rfl, .yl hlt hob⟩
        | succ i =>
          rw [hj] at hu hx
          simp only [List.cons_append, List.nil_append, List.getElem?_cons_succ] at hu hx
          exact ⟨pls_get (pls_downs cap) hu, q2 i u x hu hx⟩
    have hlen : (first' ++ ([yv] ++ cap')).length = (downs first ++ ([V.yl m.st.nx] ++ downs cap)).length := by simp [l1, l2]
    refine ⟨hlen, fun j u x hu hx => hpl (hall j u x hu hx).1 (hall j u x hu hx).2, fun u hu => ?_⟩
    obtain ⟨j, hj⟩ := List.mem_iff_getElem?.1 hu
    obtain ⟨x, hx⟩ := get_of_len hlen hj
    exact (hall j u x hj hx).2.isGood
  have hcall := hs (G2.hand fun _ => none) W2 _ r2.heap.hand hgiv (n - 1)
  refine ⟨l, [{ target := .collected w.heap.size, args := #[] }], W2, _, W2, hf, _, W2, ?_, hres, fun _ _ => trivial, hinv, fun e => (by cases e), ?_⟩
  · simp only [Instr.enterLoop, Sem.run_bind, run_newObj, Result.andThen_ok, Sem.run_pure]
    rfl
  · have hcall' : CallsIn (WF none) (n - 1) C.P hf (first' ++ ([yv] ++ cap')).toArray W2 (fun e w' => ∃ c G', e = .returned c ∧ Ret C (G2.hand fun _ => none) W2 v st c G' w') := hcall
    refine hcall'.mono fun e w3 he => ?_
    obtain ⟨cv, G3, rfl, hret⟩ := he
    have r3 := r2.after (κ' := κ0) (fun _ h => h) (fun B j e => by cases e) hret
    -- the record
    rcases r3.heap.obj m.st.nx _ hget with ⟨B, s, lim, o1, o2, o3, r, o4, o5, o6, o7, o8, o9, o10, o11, o12, o13, o14, o15⟩ | e
    · have hB : (G2.back (fun _ => none) G3).ob m.st.nx = some (l, 0, 0) := (hret.gle.ob _ hlt).trans hob
      have e4 := o1.symm.trans hB
      simp only [Option.some.injEq, Prod.mk.injEq] at e4
      obtain ⟨rfl, rfl, rfl⟩ := e4
      have hend := run_endLoop (P := C.P) o4 (by rw [o5]; exact hbusy)
      obtain ⟨r4, k4, e5⟩ := r3.updOb (κ' := κ0) (fun _ h => h) (l := []) (fun B hB => nomatch hB) o1 o2 o3 (ob := .loop { r with state := .exhausted }) (x := .loop .exhausted pend fid env ps' as' bd')
        ⟨{ r with state := .exhausted }, World.upd_same (lt_of_block o4), rfl, o6, o7, o8, o9, o10, o11, o12, o13, o14, fun t u hu => by
          obtain ⟨c, g1, g2⟩ := o15 t u hu
          exact ⟨c, g1, g2.elim .inl fun ⟨p, q⟩ => .inr ⟨p, q.give⟩⟩⟩
      have kk : Keeps G w (w3.upd l (.loop { r with state := .exhausted })) := ((k1.trans e1 k2).trans (e1.trans k1.size e2) hret.keepsB).trans ((e1.trans k1.size e2).trans (Nat.le_trans k1.size k2.size) hret.extB) k4
      have ee := ((e1.trans k1.size e2).trans (Nat.le_trans k1.size k2.size) hret.extB).trans (Nat.le_trans (Nat.le_trans k1.size k2.size) hret.keepsB.size) e5
      have fin := hQ _ _ _ _ r4 kk ee
      refine ⟨pend, w3.upd l (.loop { r with state := .exhausted }), by rw [hend, o6], ?_⟩
      cases pend <;> exact fin
    · cases e
end
end Go.Mu
end
section
/- Code does what the evaluator says. -/
set_option linter.unusedSimpArgs false
set_option linter.unusedVariables false
set_option linter.constructorNameAsVariable false
namespace Go.Mu
section
variable {C : Cfg} {vars nt : Nat} {G G' : Gh} {lb lb' : Nat → Option Nat} {κ κ' : Nat → Bool} {w w' : World} {a : Act} {m m' m1 m2 : M} {o : Oper} {v : V} {P : Program} {st st' : St} {ro : Option Nat}
variable {T : CallF} {Y : YieldF} {f : FuncId} {mv : Bool} {e : Eff} {k : Kind} {all : Array Oper}

def exOf : Ex → Exit
  | .normal => .normal
  | .exit id => .exit id
  | .ret => .ret

/-- A loop, its rounds counted. -/
theorem wpIn_loop_ind {F : Fence} {n : Nat} {P : Program} {Q : Exit → Act → World → Prop} {c : Code} (R : Nat → Act → World → Prop)
    (round : ∀ j a w, R j a w → c.wpIn F n P (Exit.then (fun a' w' => ∃ i, i < j ∧ R i a' w') Q) a w) {j : Nat} {a : Act} {w : World} (h0 : R j a w) : (Code.loop c).wpIn F n P Q a w := by
  intro b k cs hro hb hr
  have key : ∀ j a w, R j a w → ∃ e a' w', Q e a' w' ∧ ArrivesIn (Machine.fenced P F) P (lone (b.atR a (.code c :: .inLoop c :: k)) cs w) b k cs e a' w' := by
    intro j
    induction j using Nat.strongRecOn with
    | _ j ih =>
      intro a w hI
      obtain ⟨e, a₁, w₁, hq, harr⟩ := round j a w hI b (.inLoop c :: k) cs hro hb hr
      cases e with
      | normal =>
        obtain ⟨i, hlt, hI₁⟩ := hq
        obtain ⟨e₂, a₂, w₂, hq₂, harr₂⟩ := ih i hlt a₁ w₁ hI₁
        exact ⟨e₂, a₂, w₂, hq₂, .of_steps (StepsIn.trans harr (.one (fenced_calm hb hr rfl) stepR_inLoop)) harr₂⟩
      | exit id => exact ⟨_, a₁, w₁, hq, .pass (x := .inLoop c) rfl (fun _ _ => .inl (by simp)) harr⟩
      | goto l => exact ⟨_, a₁, w₁, hq, .pass (x := .inLoop c) rfl (fun _ _ => .inl (by simp)) harr⟩
      | ret => exact ⟨_, a₁, w₁, hq, .pass (x := .inLoop c) rfl (fun _ _ => .inl (by simp)) harr⟩
      | panic ch => exact ⟨_, a₁, w₁, hq, .pass (x := .inLoop c) rfl (fun _ _ => .inl (by simp)) harr⟩
      | outgrown => exact ⟨_, a₁, w₁, hq, .pass (x := .inLoop c) rfl (fun _ _ => .inl (by simp)) harr⟩
  obtain ⟨e, a', w', hq, harr⟩ := key j a w h0
  exact ⟨e, a', w', hq, .of_steps (.one (fenced_calm hb hr rfl) stepR_loop) harr⟩

/-- What a piece of code does. -/
def CodeDoes (C : Cfg) (f : FuncId) (nt : Nat) (ro : Option Nat) (c : Code) (m : M) (ex : Ex) (m' : M) : Prop :=
  m'.tp = [] ∧ ∀ (G : Gh) (lb : Nat → Option Nat) (w : World) (a : Act), Rel C (C.vars f) nt G lb κ0 w a m → ∀ (n : Nat) (Q : Exit → Act → World → Prop),
    (∀ w' G' lb' a', Rel C (C.vars f) nt G' lb' κ0 w' a' m' → Keeps G w w' → Ext G G' w → Q (exOf ex) a' w') → c.wpIn (WF ro) n C.P Q a w

theorem CodeDoes.seq {c d : Code} {ex : Ex} (h1 : CodeDoes C f nt ro c m .normal m1) (h2 : CodeDoes C f nt ro d m1 ex m2) : CodeDoes C f nt ro (.seq c d) m ex m2 := by
  refine ⟨h2.1, fun G lb w a h n Q hQ => wpIn_seq (h1.2 G lb w a h n _ fun w1 G1 lb1 a1 r1 k1 e1 => ?_)⟩
  exact h2.2 G1 lb1 w1 a1 r1 n Q fun w2 G2 lb2 a2 r2 k2 e2 => hQ w2 G2 lb2 a2 r2 (k1.trans e1 k2) (e1.trans k1.size e2)
theorem CodeDoes.seq_out {c d : Code} {ex : Ex} (h1 : CodeDoes C f nt ro c m ex m1) (hex : ex ≠ .normal) : CodeDoes C f nt ro (.seq c d) m ex m1 := by
  refine ⟨h1.1, fun G lb w a h n Q hQ => wpIn_seq (h1.2 G lb w a h n _ fun w1 G1 lb1 a1 r1 k1 e1 => ?_)⟩
  have := hQ w1 G1 lb1 a1 r1 k1 e1
  cases ex with
  | normal => exact absurd rfl hex
  | exit id => exact this
  | ret => exact this

theorem evalCode_loop_ne {fuel : Nat} {c : Code} {ex : Ex} (h : evalCode C T Y f fuel (.loop c) m = some (ex, m')) : ex ≠ .normal := by
  induction fuel generalizing m with
  | zero => simp [evalCode] at h
  | succ n ih =>
    simp only [evalCode] at h
    split at h
    · exact ih h
    · rename_i r hr
      intro e
      subst e
      exact hr _ h

theorem code_ok (hT : SoundT C T) (hY : SoundY C Y) (hmix : C.P.follows .mixedOrders = true) : ∀ (fuel : Nat) (c : Code) (m : M) (ex : Ex) (m' : M),
    evalCode C T Y f fuel c m = some (ex, m') → codeOk C f nt c = true → (ro = none ∨ noRange c = true) → m.tp = [] → CodeDoes C f nt ro c m ex m' := by
  intro fuel
  induction fuel using Nat.strongRecOn with
  | _ fuel ih =>
  intro c m ex m' he hok hro htp
  cases fuel with
  | zero => simp [evalCode] at he
  | succ n =>
    have ih' := ih n (Nat.lt_succ_self n)
    cases c with
    | skip =>
      simp only [evalCode, Option.some.injEq, Prod.mk.injEq] at he
      obtain ⟨rfl, rfl⟩ := he
      exact ⟨htp, fun G lb w a h n Q hQ => wpIn_skip (hQ w G lb a h (.refl G w) (.refl G w))⟩
    | region id ops draw =>
      simp only [evalCode] at he
      cases hnw : C.news f id with
      | true =>
        simp only [hnw, cond_true] at he
        cases draw with
        | false => simp at he
        | true =>
          simp only [cond_true] at he
          split at he
          · rename_i m1 ks xs hev
            cases hk : okAll m.env (C.befs f id) [] ks with
            | false => simp [hk] at he
            | true =>
              simp only [hk, cond_true, Option.some.injEq, Prod.mk.injEq] at he
              obtain ⟨rfl, rfl⟩ := he
              exact ⟨rfl, fun G lb w a h n Q hQ => region_new hT hY hmix hok hev hk htp h hQ⟩
          · cases he
      | false =>
      simp only [hnw, cond_false] at he
      split at he
      · rename_i m1 ks hev
        cases hk : (!draw || okAll m.env (C.befs f id) [] ks) with
        | false => simp [hk] at he
        | true =>
          simp only [hk, cond_true, Option.some.injEq, Prod.mk.injEq] at he
          obtain ⟨rfl, rfl⟩ := he
          exact ⟨rfl, fun G lb w a h n Q hQ => region_ok hT hY hmix hok hev hk htp h hQ⟩
      · cases he
    | seq x y =>
      simp only [codeOk, Bool.and_eq_true] at hok
      have hx : ro = none ∨ noRange x = true := hro.imp id fun h => by simp only [noRange, Bool.and_eq_true] at h; exact h.1
      have hy : ro = none ∨ noRange y = true := hro.imp id fun h => by simp only [noRange, Bool.and_eq_true] at h; exact h.2
      simp only [evalCode] at he
      split at he
      · rename_i m1 hev
        have h1 := ih' x m .normal m1 hev hok.1 hx htp
        exact h1.seq (ih' y m1 ex m' he hok.2 hy h1.1)
      · rename_i r hr
        have hne : ex ≠ .normal := fun e => by subst e; exact hr _ he
        exact (ih' x m ex m' he hok.1 hx htp).seq_out hne
    | cond g x y =>
      simp only [codeOk, Bool.and_eq_true] at hok
      have hx : ro = none ∨ noRange x = true := hro.imp id fun h => by simp only [noRange, Bool.and_eq_true] at h; exact h.1
      have hy : ro = none ∨ noRange y = true := hro.imp id fun h => by simp only [noRange, Bool.and_eq_true] at h; exact h.2
      simp only [evalCode] at he
      split at he
      · rename_i hg
        have h1 := ih' x m ex m' he hok.1 hx htp
        exact ⟨h1.1, fun G lb w a h n Q hQ => wpIn_cond_true (rd_b h hg) (h1.2 G lb w a h n Q hQ)⟩
      · rename_i hg
        have h1 := ih' y m ex m' he hok.2 hy htp
        exact ⟨h1.1, fun G lb w a h n Q hQ => wpIn_cond_false (rd_b h hg) (h1.2 G lb w a h n Q hQ)⟩
      · cases he
    | block bid x =>
      simp only [codeOk] at hok
      have hx : ro = none ∨ noRange x = true := hro.imp id fun h => by simpa only [noRange] using h
      simp only [evalCode] at he
      split at he
      · rename_i id' m1 hev
        have h1 := ih' x m (.exit id') m1 hev hok hx htp
        cases hb : Nat.beq id' bid with
        | true =>
          simp only [hb, cond_true, Option.some.injEq, Prod.mk.injEq] at he
          obtain ⟨rfl, rfl⟩ := he
          have := beq_true hb
          subst this
          refine ⟨h1.1, fun G lb w a h n Q hQ => wpIn_block (h1.2 G lb w a h n _ fun w1 G1 lb1 a1 r1 k1 e1 => ?_)⟩
          have := hQ w1 G1 lb1 a1 r1 k1 e1
          simpa only [exOf, Exit.inBlock, if_true] using this
        | false =>
          simp only [hb, cond_false, Option.some.injEq, Prod.mk.injEq] at he
          obtain ⟨rfl, rfl⟩ := he
          have hne := beq_false hb
          refine ⟨h1.1, fun G lb w a h n Q hQ => wpIn_block (h1.2 G lb w a h n _ fun w1 G1 lb1 a1 r1 k1 e1 => ?_)⟩
          have := hQ w1 G1 lb1 a1 r1 k1 e1
          simpa only [exOf, Exit.inBlock, if_neg hne] using this
      · rename_i r hr
        have h1 := ih' x m ex m' he hok hx htp
        refine ⟨h1.1, fun G lb w a h n Q hQ => wpIn_block (h1.2 G lb w a h n _ fun w1 G1 lb1 a1 r1 k1 e1 => ?_)⟩
        have := hQ w1 G1 lb1 a1 r1 k1 e1
        cases ex with
        | normal => exact this
        | ret => exact this
        | exit id' => exact absurd he (hr id' m')
    | loop x =>
      simp only [codeOk] at hok
      have hx : ro = none ∨ noRange x = true := hro.imp id fun h => by simpa only [noRange] using h
      have hne := evalCode_loop_ne he
      -- the frame at the end
      have hend : ∀ (j : Nat) (m : M), j ≤ n + 1 → evalCode C T Y f j (.loop x) m = some (ex, m') → m.tp = [] → m'.tp = [] := by
        intro j
        induction j with
        | zero => intro m _ h; simp [evalCode] at h
        | succ j ihj =>
          intro m hj h htp
          simp only [evalCode] at h
          split at h
          · rename_i m1 hev
            exact ihj m1 (by omega) h (ih j (by omega) x m .normal m1 hev hok hx htp).1
          · exact (ih j (by omega) x m ex m' h hok hx htp).1
      refine ⟨hend (n + 1) m (Nat.le_refl _) he htp, fun G lb w a h N Q hQ => ?_⟩
      refine wpIn_loop_ind (j := n + 1) (fun j a1 w1 => j ≤ n + 1 ∧ ∃ m1 G1 lb1, evalCode C T Y f j (.loop x) m1 = some (ex, m') ∧ m1.tp = [] ∧ Rel C (C.vars f) nt G1 lb1 κ0 w1 a1 m1 ∧ Keeps G w w1 ∧ Ext G G1 w) ?_
        ⟨Nat.le_refl _, m, G, lb, he, htp, h, .refl G w, .refl G w⟩
      rintro j a1 w1 ⟨hj, m1, G1, lb1, he1, htp1, r1, k1, e1⟩
      cases j with
      | zero => simp [evalCode] at he1
      | succ j =>
        simp only [evalCode] at he1
        split at he1
        · rename_i m2 hev
          have hd := ih j (by omega) x m1 .normal m2 hev hok hx htp1
          exact hd.2 G1 lb1 w1 a1 r1 N _ fun w2 G2 lb2 a2 r2 k2 e2 => ⟨j, Nat.lt_succ_self j, by omega, m2, G2, lb2, he1, hd.1, r2, k1.trans e1 k2, e1.trans k1.size e2⟩
        · have hd := ih j (by omega) x m1 ex m' he1 hok hx htp1
          refine hd.2 G1 lb1 w1 a1 r1 N _ fun w2 G2 lb2 a2 r2 k2 e2 => ?_
          have := hQ w2 G2 lb2 a2 r2 (k1.trans e1 k2) (e1.trans k1.size e2)
          cases ex with
          | normal => exact absurd rfl hne
          | exit id => exact this
          | ret => exact this
    | exit id =>
      simp only [evalCode, Option.some.injEq, Prod.mk.injEq] at he
      obtain ⟨rfl, rfl⟩ := he
      exact ⟨htp, fun G lb w a h n Q hQ => wpIn_exit (hQ w G lb a h (.refl G w) (.refl G w))⟩
    | ret =>
      simp only [evalCode, Option.some.injEq, Prod.mk.injEq] at he
      obtain ⟨rfl, rfl⟩ := he
      exact ⟨htp, fun G lb w a h n Q hQ => wpIn_ret (hQ w G lb a h (.refl G w) (.refl G w))⟩
    | rangeFunc g ps as bd =>
      have hr0 : ro = none := hro.resolve_right (by simp [noRange])
      subst hr0
      simp only [evalCode] at he
      split at he
      · rename_i gv hL hg
        cases hcl : cleanE m.env with
        | false => simp [hcl] at he
        | true =>
          simp only [hcl, Bool.not_true, cond_false] at he
          split at he
          · rename_i u st hc
            unfold callV at hc
            split at hc
            · rename_i hf first cap
              split at he
              · rename_i stt pend fid env ps' as' bd' hget
                cases hb : busyS stt with
                | true => simp [hb] at he
                | false =>
                  simp only [hb, cond_false] at he
                  have hb' : stt ≠ .busy := fun e => by subst e; cases hb
                  split at he
                  · rename_i ex' hj
                    simp only [Option.some.injEq, Prod.mk.injEq] at he
                    obtain ⟨rfl, rfl⟩ := he
                    refine ⟨htp, fun G lb w a h n Q hQ => range_ok hT h htp hok hg hcl hc hget hb' fun w' G' lb' a' r k e => ?_⟩
                    have q := hQ w' G' lb' a' r k e
                    unfold jumpOf at hj
                    split at hj
                    · cases hj; exact q
                    · cases hj; exact wpIn_ret q
                    · cases hj; exact wpIn_exit q
                    · cases hj
                  · cases he
              · cases he
            · cases hc
          · cases he
      · cases he
    | _ => simp [evalCode] at he
end
end Go.Mu
end
section
/- How a function leaves: its marks, its results. -/
set_option linter.unusedSimpArgs false
set_option linter.unusedVariables false
set_option linter.constructorNameAsVariable false
namespace Go.Mu
section
variable {C : Cfg} {vars nt : Nat} {G G' : Gh} {lb lb' : Nat → Option Nat} {κ κ' : Nat → Bool} {w w' : World} {a : Act} {m m' m1 m2 : M} {o : Oper} {v : V} {P : Program} {st st' : St} {ro : Option Nat}
variable {T : CallF} {Y : YieldF} {f : FuncId} {mv : Bool} {e : Eff} {k : Kind} {all : Array Oper}

def resOf (tmps : Array Value) : ResultVar → Sem Value
  | .tmp t => pure (tmps.getD t undef)
  | .cell a t => do loadVar t (← asAddr (tmps.getD a undef))

theorem res_one (h : Rel C vars nt G lb κ0 w a m) (htp : m.tp = []) {r : ResultVar} (hv : resultV C.P m r = some v) :
    ∃ c, (resOf a.tmps r).run C.P w = .ok c w ∧ VRel G v c ∧ (rs v c).Nodup ∧ ∀ B ∈ rs v c, G.own B = some (.sv (slotOf r)) := by
  have hrd : ∀ t u, getE m.env t = some u → rdM false m (.tmp t) = some (down u) := fun t u hu => by simp [rdM, htp, getE, hu]
  cases r with
  | tmp t =>
    simp only [resultV] at hv
    split at hv
    · rename_i u hu
      cases hg : good u with
      | false => simp [hg] at hv
      | true =>
        simp only [hg, cond_true, Option.some.injEq] at hv
        subst hv
        obtain ⟨c, hc, hr⟩ := h.slot t u (by simp [slotV, htp, getE, hu])
        rw [SRel.plain (fun s o e => by subst e; cases hg) (fun e => by subst e; cases hg)] at hr
        have hh := hr.2 rfl
        refine ⟨c, ?_, hh.rel, hh.nodup, hh.own⟩
        simp only [resOf, Sem.run_pure, Array.getD_eq_getD_getElem?, hc, Option.getD_some]
    · cases hv
  | cell x t =>
    simp only [resultV] at hv
    split at hv
    · rename_i s hx
      split at hv
      · rename_i u hu
        split at hv
        · rename_i y hy
          simp only [Option.some.injEq] at hv
          subst hv
          obtain ⟨B, h1, h2⟩ := rd_lp h (hrd x _ hx)
          obtain ⟨B', cc, T, g1, g2, g3, g4⟩ := h.loc s u hu
          rw [h1] at g1; cases g1
          have hc : isAg u = true ∨ isCell u = true := by
            by_cases ha : ∃ cs, u = .ag cs
            · obtain ⟨cs, rfl⟩ := ha; exact .inl rfl
            · have hco : cellsOf u = [u] := by cases u <;> first | rfl | exact absurd ⟨_, rfl⟩ ha
              exact .inr (g4.cell u (by rw [hco]; simp))
          obtain ⟨c, k1, k2, k3⟩ := run_loadVar (P := C.P) (w := w) (B := B) (s := 0) g4.len g4.cell g4.rel (fun j v hj => by rw [World.cell?_block g3, Nat.zero_add, ← Array.getElem?_toList]; exact hj) (locPart_part hy hc)
          rw [Nat.zero_add] at k1
          have ev : a.tmps.getD x undef = .pointer (some ⟨B, 0, none⟩) := h2
          refine ⟨c, ?_, k2.down, by rw [rs_pl _ _ (pl_down y)]; exact List.nodup_nil, by rw [rs_pl _ _ (pl_down y)]; exact fun B hB => nomatch hB⟩
          simp only [resOf, ev, asAddr, Sem.run_bind, Sem.run_pure, Result.andThen_ok, k1]
        · cases hv
      · cases hv
    · rename_i id off hx
      split at hv
      · rename_i cs hg
        split at hv
        · rename_i y hy
          simp only [Option.some.injEq] at hv
          subst hv
          obtain ⟨B, s, l, h1, h2, h3⟩ := rd_po h (hrd x _ hx)
          obtain ⟨cc, T, g1, g2, g3, g4, g5, g6⟩ := obj_cells h hg h2
          obtain ⟨c, k1, k2, k3⟩ := run_loadVar (P := C.P) (w := w) (B := B) (s := s) g4.len g4.cell g4.rel (fun j v hj => win_cell g1 hj) hy
          have ev : a.tmps.getD x undef = .pointer (some ⟨B, s + off, none⟩) := h3
          refine ⟨c, ?_, k2.down, by rw [rs_pl _ _ (pl_down y)]; exact List.nodup_nil, by rw [rs_pl _ _ (pl_down y)]; exact fun B hB => nomatch hB⟩
          simp only [resOf, ev, asAddr, Sem.run_bind, Sem.run_pure, Result.andThen_ok, k1]
        · cases hv
      · cases hv
    · cases hv

theorem res_all (h : Rel C vars nt G lb κ0 w a m) (htp : m.tp = []) : ∀ {l : List ResultVar} {vs : List V}, resultsV C.P m l = some vs → (l.map slotOf).Nodup →
    ∃ cs : List Value, (l.mapM (resOf a.tmps)).run C.P w = .ok cs w ∧ cs.length = vs.length ∧ (∀ (j : Nat) v c, vs[j]? = some v → cs[j]? = some c → VRel G v c) ∧ (rss vs cs).Nodup ∧ ∀ B ∈ rss vs cs, ∃ r ∈ l, G.own B = some (.sv (slotOf r))
  | [], vs, hv, _ => by
    simp only [resultsV, Option.some.injEq] at hv
    subst hv
    exact ⟨[], rfl, rfl, fun j v c h => by simp at h, List.nodup_nil, fun B hB => nomatch hB⟩
  | r :: l, vs, hv, hn => by
    simp only [resultsV] at hv
    split at hv
    · rename_i v vs' h1 h2
      simp only [Option.some.injEq] at hv
      subst hv
      simp only [List.map_cons, List.nodup_cons] at hn
      obtain ⟨c, k1, k2, k3, k4⟩ := res_one h htp h1
      obtain ⟨cs, q1, q2, q3, q4, q5⟩ := res_all h htp h2 hn.2
      refine ⟨c :: cs, ?_, by simp [q2], fun j u x hu hx => ?_, ?_, fun B hB => ?_⟩
      · simp only [List.mapM_cons, Sem.run_bind, k1, Result.andThen_ok, q1, Sem.run_pure]
      · cases j with
        | zero => simp only [List.getElem?_cons_zero, Option.some.injEq] at hu hx; subst hu hx; exact k2
        | succ j => exact q3 j u x (by simpa using hu) (by simpa using hx)
      · simp only [rss]
        refine List.nodup_append.2 ⟨k3, q4, fun x hx y hy e => ?_⟩
        subst e
        obtain ⟨r', hr', ho⟩ := q5 x hy
        rw [k4 x hx] at ho
        simp only [Option.some.injEq, Own.sv.injEq] at ho
        exact hn.1 (by rw [ho]; exact List.mem_map.2 ⟨r', hr', rfl⟩)
      · simp only [rss, List.mem_append] at hB
        rcases hB with hB | hB
        · exact ⟨r, List.mem_cons_self .., k4 B hB⟩
        · obtain ⟨r', hr', ho⟩ := q5 B hB
          exact ⟨r', List.mem_cons_of_mem _ hr', ho⟩
    · cases hv

/-- The value that a function hands back. -/
def retV : List V → V
  | [v] => v
  | vs => .tu vs

theorem run_results {fn : Func} {vs : List V} (h : Rel C vars nt G lb κ0 w a m) (htp : m.tp = []) (hv : resultsV C.P m fn.results.toList = some vs) (hn : noDup (fn.results.toList.map slotOf) = true) :
    ∃ c, (results fn a.tmps).run C.P w = .ok c w ∧ VRel G (retV vs) c ∧ (rs (retV vs) c).Nodup ∧ ∀ B ∈ rs (retV vs) c, ∃ t, G.own B = some (.sv t) := by
  obtain ⟨cs, q1, q2, q3, q4, q5⟩ := res_all h htp hv (noDup_nodup hn)
  have hrun : (results fn a.tmps).run C.P w = .ok (if h : cs.toArray.size = 1 then cs.toArray[0] else .tuple cs.toArray) w := by
    have e : results fn a.tmps = (do let vs ← fn.results.mapM (resOf a.tmps); pure (if h : vs.size = 1 then vs[0] else .tuple vs)) := rfl
    rw [e, Array.mapM_eq_mapM_toList]
    simp only [Sem.run_bind, Sem.run_map, q1, Result.andThen_ok, Sem.run_pure]
  rw [hrun]
  by_cases h1 : ∃ v, vs = [v]
  · obtain ⟨v, rfl⟩ := h1
    obtain ⟨c, rfl⟩ : ∃ c, cs = [c] := by
      cases cs with
      | nil => simp at q2
      | cons c r => cases r with
        | nil => exact ⟨c, rfl⟩
        | cons _ _ => simp at q2
    have hr := q3 0 v c rfl rfl
    have e : rss [v] [c] = rs v c := by simp [rss]
    rw [e] at q4 q5
    exact ⟨c, rfl, hr, q4, fun B hB => by obtain ⟨r, _, ho⟩ := q5 B hB; exact ⟨_, ho⟩⟩
  · have hret : retV vs = .tu vs := by
      unfold retV
      split
      · exact absurd ⟨_, rfl⟩ h1
      · rfl
    have hsz : ¬ cs.toArray.size = 1 := fun e => by
      have : vs.length = 1 := by rw [← q2]; simpa using e
      match vs, this with
      | [v], _ => exact h1 ⟨v, rfl⟩
    rw [hret, dif_neg hsz]
    refine ⟨.tuple cs.toArray, rfl, .tu q2 q3, by simpa [rs] using q4, fun B hB => ?_⟩
    obtain ⟨r, _, ho⟩ := q5 B (by simpa [rs] using hB)
    exact ⟨_, ho⟩

/-- A mark is taken in. -/
theorem run_take {r : Nat} (h : w.heap[r]? = some (.deferred (some []))) : (Instr.takeDeferred r).run P w = .ok [] (w.upd r (.deferred none)) := by
  have h1 : (getObj r).run P w = .ok (.deferred (some [])) w := by simp [getObj, Sem.run, h]
  have h2 : (setObj r (.deferred none)).run P w = .ok () (w.upd r (.deferred none)) := by simp [setObj, Sem.run, h, World.upd]
  simp only [Instr.takeDeferred, Sem.run_bind, h1, Result.andThen_ok, h2, Sem.run_pure]

def Gh.dropB (G : Gh) (r : Nat) : Gh := { G with own := fun b => if b = r then none else G.own b }

theorem Rel.take (h : Rel C vars nt G lb κ w a m) {r : Nat} {ds : List Deferred} (hd : a.defers = { target := .collected r, args := #[] } :: ds) :
    w.heap[r]? = some (.deferred (some [])) ∧ Rel C vars nt (G.dropB r) lb κ (w.upd r (.deferred none)) { a with defers := ds } m ∧ Keeps G w (w.upd r (.deferred none)) ∧ Ext G (G.dropB r) w := by
  obtain ⟨r', e1, e2, e3⟩ := h.marks _ (by rw [hd]; exact List.mem_cons_self ..)
  cases e1
  have ok := h.heap.ok
  have hap := h.apart
  rw [hd] at hap
  simp only [List.map_cons, List.nodup_cons] at hap
  have own : ∀ B y, G.own B = some y → y ≠ .mk → (G.dropB r).own B = some y := fun B y hB hy => by
    show (if B = r then none else G.own B) = _
    rw [if_neg (fun e => by subst e; rw [e2] at hB; cases hB; exact hy rfl)]; exact hB
  have hne : ∀ B y, G.own B = some y → y ≠ .mk → B ≠ r := fun B y hB hy e => by subst e; rw [e2] at hB; cases hB; exact hy rfl
  refine ⟨e3, ?_, ⟨by rw [World.upd_size]; exact Nat.le_refl _, fun B hB ho => World.upd_other fun e => ?_, rfl, rfl⟩, ⟨⟨fun _ _ _ h => h, Nat.le_refl _, fun _ _ => rfl⟩, fun B hB => ⟨own B _ hB (by simp), rfl, fun _ => rfl⟩, fun B hB hn => ?_⟩⟩
  · have hsub : ∀ d ∈ ds, d ∈ a.defers := fun d hm => by rw [hd]; exact List.mem_cons_of_mem _ hm
    have h0 : Rel C vars nt G lb κ w { a with defers := ds } m := { size := h.size, tpv := h.tpv, envv := h.envv, slot := h.slot, loc := h.loc, heap := h.heap, marks := fun d hm => h.marks d (hsub d hm), apart := hap.2 }
    have hmarks : ∀ d ∈ ds, ∃ q, d = { target := .collected q, args := #[] } ∧ (G.dropB r).own q = some .mk ∧ (w.upd r (.deferred none)).heap[q]? = some (.deferred (some [])) := fun d hm => by
      obtain ⟨q, g1, g2, g3⟩ := h.marks d (hsub d hm)
      have hq : q ≠ r := fun e => by
        subst e
        exact hap.1 (List.mem_map.2 ⟨d, hm, by rw [g1]⟩)
      refine ⟨q, g1, ?_, ?_⟩
      · show (if q = r then none else G.own q) = _
        rw [if_neg hq]; exact g2
      · rw [World.upd_other hq]; exact g3
    -- the other way round: no marks, then the marks
    have h1 : Rel C vars nt G lb κ w { a with defers := [] } m := { size := h.size, tpv := h.tpv, envv := h.envv, slot := h.slot, loc := h.loc, heap := h.heap, marks := (fun d hm => by cases hm), apart := List.nodup_nil }
    have hslot : ∀ t v, slotV m t = some v → ∃ c, a.tmps[t]? = some c ∧ SRel (G.dropB r) lb κ t v c := fun t v hv => by
      obtain ⟨c, hc, hr⟩ := h.slot t v hv
      refine ⟨c, hc, srel_split (P := fun v => SRel G lb κ t v c → SRel (G.dropB r) lb κ t v c) (fun s o e => by subst e; exact id) (fun e => by subst e; exact id) (fun h1 h2 hr => ?_) hr⟩
      rw [SRel.plain h1 h2] at hr ⊢
      exact ⟨hr.1.own_irrel, fun e => (hr.2 e).own_irrel fun B hB => own B _ hB (by simp)⟩
    have okd : WOk (G.dropB r) (w.upd r (.deferred none)) := ok.upd (ok.excl r (.inr (.inr e2))) (f := (G.dropB r).own) (fun B x hx => by
      have hx' : (if B = r then none else G.own B) = some x := hx
      split at hx'
      · cases hx'
      · exact .inl hx')
    refine { size := h.size, tpv := h.tpv, envv := h.envv, slot := hslot, loc := fun s u hu => ?_, heap := ⟨h.heap.nx, fun id x hx => ?_, okd⟩, marks := hmarks, apart := hap.2 }
    · obtain ⟨B, cc, T, g1, g2, g3, g4⟩ := h.loc s u hu
      exact ⟨B, cc, T, g1, own B _ g2 (by simp), by rw [World.upd_other (hne B _ g2 (by simp))]; exact g3, g4.own_irrel fun B hB => own B _ hB (by simp)⟩
    · rcases h.heap.obj id x hx with ⟨B, s, l, g1, g2, g3, g4⟩ | g
      · exact .inl ⟨B, s, l, g1, own B _ g2 (by simp), g3, (g4.xfer (G' := G) (w' := w.upd r (.deferred none)) (.refl G) (World.upd_other (hne B _ g2 (by simp))) fun B hB => ⟨hB, rfl⟩).own_irrel fun B hB => own B _ hB (by simp)⟩
      · exact .inr g
  · subst e
    rw [e2] at ho
    rcases ho with e | e <;> cases e
  · show (if B = r then none else G.own B) = _
    rw [hn]; simp

/-- A frame leaves. -/
theorem leaves_ok {fn : Func} {vs : List V} (htp : m.tp = []) (hv : resultsV C.P m fn.results.toList = some vs) (hn : noDup (fn.results.toList.map slotOf) = true) {n : Nat} {R : Ending → World → Prop} :
    ∀ (ds : List Deferred) (G : Gh) (w : World) (a : Act), a.defers = ds → Rel C vars nt G lb κ0 w a m →
      (∀ c G' w', HRel C G' w' m.st → VRel G' (retV vs) c → (rs (retV vs) c).Nodup → (∀ B ∈ rs (retV vs) c, ∃ t, G'.own B = some (.sv t)) → Keeps G w w' → Ext G G' w → R (.returned c) w') →
      LeavesInM Fence.wide n C.P fn a.tmps R ds .returning w
  | [], G, w, a, hd, h, hR => by
    obtain ⟨c, k1, k2, k3, k4⟩ := run_results h htp hv hn
    exact ⟨c, k1, hR c G w h.heap k2 k3 k4 (.refl G w) (.refl G w)⟩
  | d :: ds, G, w, a, hd, h, hR => by
    obtain ⟨r, e1, _, _⟩ := h.marks d (by rw [hd]; exact List.mem_cons_self ..)
    subst e1
    obtain ⟨q1, q2, q3, q4⟩ := h.take hd
    refine ⟨by simp, .inl ⟨r, _, rfl, run_take q1, ?_⟩⟩
    exact leaves_ok htp hv hn ds (G.dropB r) _ { a with defers := ds } rfl q2 fun c G' w' g1 g2 g3 g4 g5 g6 => hR c G' w' g1 g2 g3 g4 (q3.trans q4 g5) (q4.trans q3.size g6)
end
end Go.Mu
end
section
/- Functions, rounds, and the whole run. -/
set_option linter.unusedSimpArgs false
set_option linter.unusedVariables false
set_option linter.constructorNameAsVariable false
namespace Go.Mu
section
variable {C : Cfg} {vars nt : Nat} {G G' : Gh} {lb lb' : Nat → Option Nat} {κ κ' : Nat → Bool} {w w' : World} {a : Act} {m m' m1 m2 : M} {o : Oper} {v : V} {P : Program} {st st' : St} {ro : Option Nat}
variable {T : CallF} {Y : YieldF} {f : FuncId} {mv : Bool} {e : Eff} {k : Kind} {all : Array Oper}

theorem getE_bindArgs : ∀ {l : List V} {i t : Nat}, getE (bindArgs l i) t = if i ≤ t then l[t - i]? else none
  | [], i, t => by simp [bindArgs, getE]
  | v :: r, i, t => by
    rw [bindArgs, getE_cons, getE_bindArgs]
    by_cases e : i = t
    · subst e; simp
    · rw [if_neg e]
      by_cases h : i ≤ t
      · rw [if_pos (by omega), if_pos h, show t - i = (t - (i + 1)) + 1 by omega, List.getElem?_cons_succ]
      · rw [if_neg (by omega), if_neg h]

theorem evalFn_ok (hT : SoundT C T) (hY : SoundY C Y) (hmix : C.P.follows .mixedOrders = true) (hfn : ∀ f fn, C.P.funcs[f]? = some fn → funcOk C f fn = true) (n : Nat) : SoundT C (evalFn C T Y n) := by
  intro f args st v st' he
  unfold evalFn at he
  cases hf : C.P.funcs[f]? with
  | none => simp [hf] at he
  | some fn =>
    simp only [hf] at he
    cases hb : fn.body with
    | none => simp [hb] at he
    | some c =>
      simp only [hb] at he
      have hok := hfn f fn hf
      simp only [funcOk, hb, Bool.and_eq_true, Bool.not_eq_true'] at hok
      obtain ⟨⟨⟨⟨hcode, hres⟩, hname⟩, hle⟩, hbits⟩ := hok
      refine ⟨⟨fn, rfl, hname, by rw [hb]; rfl⟩, ?_⟩
      cases hlen : Nat.beq args.length (fn.params.size + fn.nfree) with
      | false => simp [hlen] at he
      | true =>
        simp only [hlen, Bool.not_true, cond_false] at he
        have hlen' := beq_true hlen
        have hle' : fn.params.size + fn.nfree ≤ fn.ntmps := Nat.le_of_ble_eq_true hle
        split at he
        · rename_i ex m hev
          have hd := code_ok (nt := fn.ntmps) (ro := none) hT hY hmix n c _ ex m hev hcode (.inl rfl) rfl
          intro G w cs hh hg N
          have hcl : cs.length = args.length := hg.len
          have hbit : ∀ t, t < args.length → bit (C.vars f) t = true := fun t ht => List.all_eq_true.1 hbits t (List.mem_range.2 (by omega))
          have h0 : Rel C (C.vars f) fn.ntmps G (fun _ => none) κ0 w { tmps := cs.toArray ++ Array.replicate (fn.ntmps - cs.toArray.size) undef, defers := [] } { env := bindArgs args 0, tp := [], L := [], st := st } := by
            refine { size := ?_, tpv := fun t u hu => (by simp [getE] at hu), envv := fun t u hu => ?_, slot := fun t u hu => ?_, loc := fun s u hu => (by simp [getE] at hu), heap := hh, marks := (fun d hm => by cases hm), apart := List.nodup_nil }
            · simp; omega
            · rw [getE_bindArgs, if_pos (Nat.zero_le _), Nat.sub_zero] at hu
              exact hbit t (List.getElem?_eq_some_iff.1 hu).1
            · have hu' : args[t]? = some u := by
                have : getE (bindArgs args 0) t = some u := by simpa [slotV, getE] using hu
                rwa [getE_bindArgs, if_pos (Nat.zero_le _), Nat.sub_zero] at this
              obtain ⟨x, hx⟩ := get_of_len hcl hu'
              have hlt : t < cs.length := (List.getElem?_eq_some_iff.1 hx).1
              refine ⟨x, ?_, ?_⟩
              · rw [Array.getElem?_append_left (by simpa using hlt)]
                simpa using hx
              · have hgu := hg.good u (List.mem_of_getElem? hu')
                rw [SRel.plain (fun s o e => by subst e; cases hgu) (fun e => by subst e; cases hgu)]
                have := hg.held t u x hu' hx
                exact ⟨this.rel.down, fun _ => this⟩
          -- how it leaves
          have fin : ∀ vs, resultsV C.P m fn.results.toList = some vs → v = retV vs → st' = m.st → ∀ w1 G1 lb1 a1, Rel C (C.vars f) fn.ntmps G1 lb1 κ0 w1 a1 m → Keeps G w w1 → Ext G G1 w →
              LeavesInM Fence.wide N C.P fn a1.tmps (fun e w' => ∃ c G', e = .returned c ∧ Ret C G w v st' c G' w') a1.defers .returning w1 := by
            intro vs hvs hv hst w1 G1 lb1 a1 r1 k1 e1
            subst hv hst
            refine leaves_ok hd.1 hvs hres a1.defers G1 w1 a1 rfl r1 fun cv G2 w2 g1 g2 g3 g4 g5 g6 => ?_
            have ok := g1.ok
            have own : ∀ B y, G2.own B = some y → (∀ t, y ≠ .sv t) → (if B ∈ rs (retV vs) cv then none else G2.own B) = some y := fun B y hB hy => by
              rw [if_neg (fun hm => by obtain ⟨t, ht⟩ := g4 B hm; rw [ht] at hB; cases hB; exact hy t rfl)]; exact hB
            have key : ∀ B y, (if B ∈ rs (retV vs) cv then none else G2.own B) = some y → G2.own B = some y := fun B y hy => by
              split at hy
              · cases hy
              · exact hy
            refine ⟨cv, { G2 with own := fun B => if B ∈ rs (retV vs) cv then none else G2.own B }, rfl, ⟨⟨g1.nx, fun id x hx => ?_, ?_⟩, g2.own_irrel, g3, fun B hB => ⟨if_pos hB, ?_, fun hlt hn => ?_⟩, g2.isGood, k1.trans e1 g5, ?_⟩⟩
            · rcases g1.obj id x hx with ⟨B, s, l, q1, q2, q3, q4⟩ | q
              · exact .inl ⟨B, s, l, q1, own B _ q2 (by simp), q3, q4.own_irrel fun B hB => own B _ hB (by simp)⟩
              · exact .inr q
            · refine ⟨ok.ic, ok.tlic, ok.tl, fun B y hy => ok.lt B y (key B y hy), ok.tllt, fun B hB => ok.excl B ?_⟩
              rcases hB with ⟨id, e⟩ | ⟨s, e⟩ | e
              · exact .inl ⟨id, key B _ e⟩
              · exact .inr (.inl ⟨s, key B _ e⟩)
              · exact .inr (.inr (key B _ e))
            · obtain ⟨t, ht⟩ := g4 B hB
              exact ok.lt B _ ht
            · obtain ⟨t, ht⟩ := g4 B hB
              have := g6.free B (Nat.lt_of_lt_of_le hlt k1.size) (e1.free B hlt hn)
              rw [this] at ht
              cases ht
            · have ee := e1.trans k1.size g6
              refine ⟨⟨ee.le.ic, ee.le.nx, ee.le.ob⟩, fun B hB => ⟨own B _ (ee.fr B hB).1 (by simp), (ee.fr B hB).2.1, (ee.fr B hB).2.2⟩, fun B hB hn => ?_⟩
              show (if B ∈ rs (retV vs) cv then none else G2.own B) = none
              rw [ee.free B hB hn]; simp
          have fin2 : ∀ vs, resultsV C.P m fn.results.toList = some vs → v = retV vs → st' = m.st → ex = .normal ∨ ex = .ret →
              CallsIn Fence.wide N C.P f cs.toArray w (fun e w' => ∃ c G', e = .returned c ∧ Ret C G w v st' c G' w') := by
            intro vs hvs hv hst hex
            refine callsIn_of_wp_marks hf hb trivial ?_
            refine hd.2 G _ w _ h0 N _ fun w1 G1 lb1 a1 r1 k1 e1 => ?_
            have := fin vs hvs hv hst w1 G1 lb1 a1 r1 k1 e1
            rcases hex with rfl | rfl <;> exact this
          have fin3 : ∀ (hex : ex = .normal ∨ ex = .ret), (match resultsV C.P m fn.results.toList with
              | some [v] => some (v, m.st)
              | some vs => some (.tu vs, m.st)
              | none => none) = some (v, st') → CallsIn Fence.wide N C.P f cs.toArray w (fun e w' => ∃ c G', e = .returned c ∧ Ret C G w v st' c G' w') := by
            intro hex he
            split at he
            · rename_i u hu
              simp only [Option.some.injEq, Prod.mk.injEq] at he
              exact fin2 _ hu he.1.symm he.2.symm hex
            · rename_i vs hne hu
              simp only [Option.some.injEq, Prod.mk.injEq] at he
              refine fin2 _ hu ?_ he.2.symm hex
              rw [← he.1]
              unfold retV
              split
              · rename_i u; exact absurd rfl (hne u)
              · rfl
            · cases he
          cases ex with
          | normal => exact fin3 (.inl rfl) he
          | ret => exact fin3 (.inr rfl) he
          | exit id => simp at he
        · cases he
end
end Go.Mu
end
section
/- A round of a range over a function; the whole run. -/
set_option linter.unusedSimpArgs false
set_option linter.unusedVariables false
set_option linter.constructorNameAsVariable false
namespace Go.Mu
section
variable {C : Cfg} {vars nt : Nat} {G G' : Gh} {lb lb' : Nat → Option Nat} {κ κ' : Nat → Bool} {w w' : World} {a : Act} {m m' m1 m2 : M} {o : Oper} {v : V} {P : Program} {st st' : St} {ro : Option Nat}
variable {T : CallF} {Y : YieldF} {f : FuncId} {mv : Bool} {e : Eff} {k : Kind} {all : Array Oper}

/-- What is known of a round's slots. -/
def Slots (vars : Nat) (G : Gh) (env : Env) (tmps : Array Value) : Prop := ∀ t v, getE env t = some v → ∃ c, (tmps[t]? = some c ∧ bit vars t = true) ∧ (v = .u ∨ (pl v = true ∧ VRel G v c))

theorem slots_set : ∀ (ps : List Nat) (args : List V) (cs : List Value) (env : Env) (tmps : Array Value), cs.length = args.length → Slots vars G env tmps → (∀ t ∈ ps, t < tmps.size ∧ bit vars t = true) →
    (∀ (j : Nat) v c, args[j]? = some v → cs[j]? = some c → pl v = true ∧ VRel G v c) → Slots vars G (setAll env ps args) ((ps.zip cs).foldl (fun tmps (p : Nat × Value) => tmps.setIfInBounds p.1 p.2) tmps) ∧ ((ps.zip cs).foldl (fun tmps (p : Nat × Value) => tmps.setIfInBounds p.1 p.2) tmps).size = tmps.size
  | [], args, cs, env, tmps, _, h, _, _ => by cases args <;> exact ⟨h, rfl⟩
  | t :: ps, [], cs, env, tmps, hl, h, _, _ => by
    have : cs = [] := List.length_eq_zero_iff.1 hl
    subst this
    exact ⟨h, rfl⟩
  | t :: ps, v :: vs, [], env, tmps, hl, h, _, _ => by simp at hl
  | t :: ps, v :: vs, c :: cs, env, tmps, hl, h, hp, hv => by
    have h1 := hp t (List.mem_cons_self ..)
    have hs : Slots vars G (setE env t v) (tmps.setIfInBounds t c) := by
      intro s u hu
      rw [getE_setE] at hu
      by_cases e : t = s
      · subst e
        rw [if_pos rfl] at hu
        simp only [Option.some.injEq] at hu
        subst hu
        obtain ⟨p, q⟩ := hv 0 v c rfl rfl
        exact ⟨c, ⟨by simp [h1.1], h1.2⟩, .inr ⟨p, q⟩⟩
      · rw [if_neg e] at hu
        obtain ⟨x, ⟨hx, hb⟩, g⟩ := h s u hu
        exact ⟨x, ⟨by rw [Array.getElem?_setIfInBounds_ne e]; exact hx, hb⟩, g⟩
    obtain ⟨q1, q2⟩ := slots_set ps vs cs (setE env t v) (tmps.setIfInBounds t c) (by simpa using hl) hs (fun s hs => by have := hp s (List.mem_cons_of_mem _ hs); simpa using this)
      (fun j u x hu hx => hv (j + 1) u x (by simpa using hu) (by simpa using hx))
    exact ⟨q1, by simpa using q2⟩

theorem run_begin {B : Nat} {r : Loop} (h : w.heap[B]? = some (.loop r)) (hs : r.state = .ready) : (Instr.beginRound B).run P w = .ok () (w.upd B (.loop { r with state := .busy })) := by
  have h2 : (setObj B (.loop { r with state := .busy })).run P w = .ok () (w.upd B (.loop { r with state := .busy })) := by simp [setObj, Sem.run, h, World.upd]
  simp only [Instr.beginRound, Instr.getLoop, Sem.run_bind, run_getObj_loop h, Result.andThen_ok, Sem.run_pure, h2, hs]

theorem run_endRound {B : Nat} {r : Loop} {j : Option Code} (h : w.heap[B]? = some (.loop r)) : (Instr.endRound B j).run P w = .ok (.bool j.isNone) (w.upd B (.loop { r with state := if j.isNone then .ready else .done, pending := j })) := by
  have h2 : (setObj B (.loop { r with state := if j.isNone then .ready else .done, pending := j })).run P w = .ok () (w.upd B (.loop { r with state := if j.isNone then .ready else .done, pending := j })) := by simp [setObj, Sem.run, h, World.upd]
  simp only [Instr.endRound, Instr.getLoop, Sem.run_bind, run_getObj_loop h, Result.andThen_ok, Sem.run_pure, h2]

/-- A loop's record, found. -/
theorem obj_loop (h : HRel C G w st) {l : Nat} {stt : LoopState} {pend : Option Code} {fid : FuncId} {env : Env} {ps : List Nat} {as bd : Code} (hg : st.get l = some (.loop stt pend fid env ps as bd)) {B s t : Nat} (hob : G.ob l = some (B, s, t)) :
    l < st.nx ∧ G.own B = some (.ob l) ∧ ∃ lp : Loop, w.heap[B]? = some (.loop lp) ∧ lp.state = stt ∧ lp.pending = pend ∧ lp.params = ps.toArray ∧ lp.assign = as ∧ lp.body = bd ∧
      codeOk C fid lp.tmps.size as = true ∧ codeOk C fid lp.tmps.size bd = true ∧ noRange as = true ∧ noRange bd = true ∧ (∀ t ∈ ps, t < lp.tmps.size ∧ bit (C.vars fid) t = true) ∧ Slots (C.vars fid) G env lp.tmps := by
  rcases h.obj l _ hg with ⟨B', s', l', g1, g2, g3, g4⟩ | g
  · rw [hob] at g1
    cases g1
    exact ⟨g3, g2, g4⟩
  · cases g

theorem Rel.updLoop (h : Rel C vars nt G lb κ w a m) {l : Nat} {stt stt' : LoopState} {pend pend' : Option Code} {fid : FuncId} {env : Env} {ps : List Nat} {as bd : Code} (hg : m.st.get l = some (.loop stt pend fid env ps as bd)) {B s t : Nat} (hob : G.ob l = some (B, s, t))
    {lp : Loop} (hlp : w.heap[B]? = some (.loop lp)) :
    ∃ G', Rel C vars nt G' lb κ (w.upd B (.loop { lp with state := stt', pending := pend' })) a { m with st := m.st.put l (.loop stt' pend' fid env ps as bd) } ∧ Keeps G w (w.upd B (.loop { lp with state := stt', pending := pend' })) ∧ Ext G G' w ∧ G'.ob l = some (B, s, t) := by
  obtain ⟨h1, h2, lp', g1, g2, g3, g4, g5, g6, g7, g8, g9, g10, g11, g12⟩ := obj_loop h.heap hg hob
  rw [hlp] at g1
  cases g1
  obtain ⟨r1, k1, e1⟩ := h.updOb (κ' := κ) (fun _ h => h) (l := []) (fun B hB => nomatch hB) hob h2 h1 (ob := .loop { lp with state := stt', pending := pend' }) (x := .loop stt' pend' fid env ps as bd)
    ⟨{ lp with state := stt', pending := pend' }, World.upd_same (lt_of_block hlp), rfl, rfl, g4, g5, g6, g7, g8, g9, g10, g11, fun t u hu => by
      obtain ⟨c, q1, q2⟩ := g12 t u hu
      exact ⟨c, q1, q2.elim .inl fun ⟨p, q⟩ => .inr ⟨p, q.give⟩⟩⟩
  exact ⟨_, r1, k1, e1, hob⟩

theorem evalRound_ok (hT : SoundT C T) (hY : SoundY C Y) (hmix : C.P.follows .mixedOrders = true) (n : Nat) : SoundY C (evalRound C T Y n) := by
  intro l args st v st' he G w cs B s t hh hg hob
  unfold evalRound at he
  split at he
  · rename_i p0 f env ps assign body hget
    cases hc : (Nat.beq ps.length args.length && pls args) with
    | false => simp [hc] at he
    | true =>
      simp only [hc, cond_true] at he
      simp only [Bool.and_eq_true] at hc
      have hlen := beq_true hc.1
      have hpl := hc.2
      obtain ⟨hlt, hown, lp, b1, b2, b3, b4, b5, b6, b7, b8, b9, b10, b11, b12⟩ := obj_loop hh hget hob
      have hcl : cs.length = args.length := hg.len
      refine ⟨lp, b1, by rw [b4]; simp; omega, fun N => ?_⟩
      split at he
      · rename_i m1 hev1
        split at he
        · rename_i p1 f1 env1 ps1 as1 bd1 hget1
          split at he
          · rename_i ex m2 hev2
            split at he
            · rename_i s2 p2 f2 env2 ps2 as2 bd2 hget2
              -- the round's frame
              obtain ⟨q1, q2⟩ := slots_set (vars := C.vars f) (G := G) ps args cs env lp.tmps hcl b12 b11 (fun j u x hu hx => ⟨pls_get hpl hu, (hg.held j u x hu hx).rel⟩)
              let tmps := (ps.zip cs).foldl (fun tmps (p : Nat × Value) => tmps.setIfInBounds p.1 p.2) lp.tmps
              have etm : (lp.params.zip cs.toArray).foldl (fun tmps (t, a) => tmps.setIfInBounds t a) lp.tmps = tmps := by
                rw [b4, ← Array.foldl_toList]
                simp only [Array.toList_zip]
                rfl
              rw [etm]
              have h0 : Rel C (C.vars f) lp.tmps.size G (fun _ => none) κ0 w { tmps := tmps, defers := [] } { env := setAll env ps args, tp := [], L := [], st := st } := by
                refine { size := q2, tpv := fun t u hu => (by simp [getE] at hu), envv := fun t u hu => ?_, slot := fun t u hu => ?_, loc := fun s u hu => (by simp [getE] at hu), heap := hh, marks := (fun d hm => by cases hm), apart := List.nodup_nil }
                · obtain ⟨_, ⟨_, hb⟩, _⟩ := q1 t u hu
                  exact hb
                · have hu' : getE (setAll env ps args) t = some u := by simpa [slotV, getE] using hu
                  obtain ⟨c, ⟨hc, hb⟩, hr⟩ := q1 t u hu'
                  refine ⟨c, hc, ?_⟩
                  rcases hr with rfl | ⟨hp, hr⟩
                  · trivial
                  · have hgu := hr.isGood
                    rw [SRel.plain (fun s o e => by subst e; cases hgu) (fun e => by subst e; cases hgu)]
                    exact ⟨hr.down, fun _ => ⟨hr, by rw [rs_pl _ _ hp]; exact List.nodup_nil, by rw [rs_pl _ _ hp]; exact fun B hB => nomatch hB⟩⟩
              have d1 := code_ok (nt := lp.tmps.size) (ro := some B) hT hY hmix n assign _ .normal m1 hev1 b7 (.inr b9) rfl
              have d2 := code_ok (nt := lp.tmps.size) (ro := some B) hT hY hmix n body _ ex m2 hev2 b8 (.inr b10) d1.1
              have hend : ∀ w2 G2 lb2 a2, Rel C (C.vars f) lp.tmps.size G2 lb2 κ0 w2 a2 m2 → Keeps G w w2 → Ext G G2 w → ∀ (j : Option Code) (stt : LoopState), stt = (if j.isNone then .ready else .done) →
                  v = .b j.isNone → st' = m2.st.put l (.loop stt j f2 env2 ps2 as2 bd2) →
                  ∃ c w3, (Instr.endRound B j).run C.P w2 = .ok c w3 ∧ ∃ c' G', Ending.returned c = .returned c' ∧ Ret C G w v st' c' G' w3 := by
                intro w2 G2 lb2 a2 r2 k2 e2 j stt hstt hv hst
                subst hv hst hstt
                have hob2 : G2.ob l = some (B, s, t) := (e2.le.ob l (by rw [hh.nx]; exact hlt)).trans hob
                obtain ⟨_, _, lp2, c1, _⟩ := obj_loop r2.heap hget2 hob2
                obtain ⟨G3, r3, k3, e3, _⟩ := r2.updLoop (stt' := if j.isNone then .ready else .done) (pend' := j) hget2 hob2 c1
                refine ⟨_, _, run_endRound c1, .bool j.isNone, G3, rfl, ⟨r3.heap, .b _, by rw [rs_pl _ _ rfl]; exact List.nodup_nil, by rw [rs_pl _ _ rfl]; exact fun B hB => (by cases hB), rfl, k2.trans e2 k3, e2.trans k2.size e3⟩⟩
              rw [b5, b6]
              refine roundIn_of_wpIn (F := Fence.wide) trivial ?_
              refine d1.2 G _ w _ h0 N _ fun w1 G1 lb1 a1 r1 k1 e1 => ?_
              have hob1 : G1.ob l = some (B, s, t) := (e1.le.ob l (by rw [hh.nx]; exact hlt)).trans hob
              obtain ⟨_, _, lp1, c1, c2, c3, _⟩ := obj_loop r1.heap hget1 hob1
              obtain ⟨G1', r1', k1', e1', _⟩ := r1.updLoop (stt' := .busy) (pend' := p1) hget1 hob1 c1
              have ebusy : Go.Obj.loop { lp1 with state := .busy, pending := p1 } = Go.Obj.loop { lp1 with state := .busy } := by rw [← c3]
              rw [ebusy] at r1' k1'
              refine ⟨w1.upd B (.loop { lp1 with state := .busy }), run_begin c1 c2, ?_⟩
              refine d2.2 G1' _ _ _ r1' N _ fun w2 G2 lb2 a2 r2 k2 e2 => ?_
              have kk : Keeps G w w2 := (k1.trans e1 k1').trans (e1.trans k1.size e1') k2
              have ee : Ext G G2 w := (e1.trans k1.size e1').trans (Nat.le_trans k1.size k1'.size) e2
              have fin := hend w2 G2 lb2 a2 r2 kk ee
              cases ex with
              | normal =>
                simp only [Option.some.injEq, Prod.mk.injEq] at he
                exact fin none .ready rfl he.1.symm he.2.symm
              | ret =>
                simp only [Option.some.injEq, Prod.mk.injEq] at he
                exact fin (some .ret) .done rfl he.1.symm he.2.symm
              | exit id =>
                simp only [Option.some.injEq, Prod.mk.injEq] at he
                exact fin (some (.exit id)) .done rfl he.1.symm he.2.symm
            · cases he
          · cases he
        · cases he
      · cases he
  · cases he

/-- Functions of which something is known by itself. -/
def SoundS (C : Cfg) (S : FuncId → Option (List V → St → Option (V × St))) : Prop := ∀ f g, S f = some g → ∀ args st v st', g args st = some (v, st') →
  (∃ fn, C.P.funcs[f]? = some fn ∧ (fn.name == "runtime.NumGoroutine") = false ∧ fn.body.isNone = false) ∧
  ∀ (G : Gh) (w : World) (cs : List Value), HRel C G w st → Given G args cs → ∀ n, CallsIn Fence.wide n C.P f cs.toArray w (fun e w' => ∃ c G', e = .returned c ∧ Ret C G w v st' c G' w')

/-- THE WHOLE RUN. -/
theorem run_ok (hmix : C.P.follows .mixedOrders = true) (hfn : ∀ f fn, C.P.funcs[f]? = some fn → funcOk C f fn = true) {S : FuncId → Option (List V → St → Option (V × St))} (hS : SoundS C S) :
    ∀ n, SoundT C (runF C S n) ∧ SoundY C (runY C S n)
  | 0 => ⟨fun f args st v st' h => by simp [runF] at h, fun l args st v st' h => by simp [runY] at h⟩
  | n + 1 => by
    obtain ⟨h1, h2⟩ := run_ok hmix hfn hS n
    constructor
    · intro f args st v st' h
      simp only [runF] at h
      split at h
      · rename_i g hg
        exact hS f g hg args st v st' h
      · exact evalFn_ok h1 h2 hmix hfn n f args st v st' h
    · intro l args st v st' h
      simp only [runY] at h
      exact evalRound_ok h1 h2 hmix n l args st v st' h
end
end Go.Mu
end
section
/- The evaluator again, cut so that the kernel runs it fast; it is the same. -/
set_option linter.unusedSimpArgs false
set_option linter.unusedVariables false
set_option linter.constructorNameAsVariable false
namespace Go.Mu
def o_move (C : Cfg) (T : CallF) (Y : YieldF) (rd : Operand → Option V) (lo : Nat → Option V) (st : St) (f : FuncId) (mv : Bool) (o : Oper) (x : Operand) : Option (V × Eff) :=
  let P := C.P
   match rd x with
    | some .u => none
    | some v => some (v, .no)
    | none => none
def o_pick (C : Cfg) (T : CallF) (Y : YieldF) (rd : Operand → Option V) (lo : Nat → Option V) (st : St) (f : FuncId) (mv : Bool) (o : Oper) (c : Operand) (a : Operand) (b : Operand) : Option (V × Eff) :=
  let P := C.P
   match rd c with
    | some (.b true) => (rd a).map (·, .no)
    | some (.b false) => (rd b).map (·, .no)
    | _ => none
def o_alloc (C : Cfg) (T : CallF) (Y : YieldF) (rd : Operand → Option V) (lo : Nat → Option V) (st : St) (f : FuncId) (mv : Bool) (o : Oper) (e : TypeId) : Option (V × Eff) :=
  let P := C.P
   match zeroT P e, o.dst with
    | some z, some d => bif bit (C.locals f) d then some (.lp d 0, .la d z) else some (.po st.nx 0, .hw (st.new (.cells (cellsOf z))))
    | _, _ => none
def o_box (C : Cfg) (T : CallF) (Y : YieldF) (rd : Operand → Option V) (lo : Nat → Option V) (st : St) (f : FuncId) (mv : Bool) (o : Oper) (x : Operand) : Option (V × Eff) :=
  let P := C.P
   match rd x, o.dst with
    | some v, some d => bif stor v then (bif bit (C.locals f) d then some (.lp d 0, .la d v) else some (.po st.nx 0, .hw (st.new (.cells (cellsOf v))))) else none
    | _, _ => none
def o_build (C : Cfg) (T : CallF) (Y : YieldF) (rd : Operand → Option V) (lo : Nat → Option V) (st : St) (f : FuncId) (mv : Bool) (o : Oper) (t : TypeId) (parts : Array (Nat × Operand)) : Option (V × Eff) :=
  let P := C.P
   match P.underlying t, zeroT P t with
    | some (.struct fs), some (.ag z) => match placesL P fs.toList with
      | some pls => match putG (fun i => pls[i]?) rd parts.toList z with
        | some cs => some (.ag cs, .no)
        | none => none
      | none => none
    | some (.array _ e), some (.ag z) => bif hasT P e then (match putG (fun i => some (i * sizeT P e, sizeT P e)) rd parts.toList z with
      | some cs => some (.ag cs, .no)
      | none => none) else none
    | _, _ => none
def o_buildSlice (C : Cfg) (T : CallF) (Y : YieldF) (rd : Operand → Option V) (lo : Nat → Option V) (st : St) (f : FuncId) (mv : Bool) (o : Oper) (t : TypeId) (len : Nat) (parts : Array (Nat × Operand)) : Option (V × Eff) :=
  let P := C.P
   match P.underlying t with
    | some (.slice e) => match zeroT P e with
      | some z => bif fits P e z && leB (len * sizeT P e) 16777216 && ltB 0 (sizeT P e) then (match putRow P e rd parts.toList (List.replicate len z) with
        | some cs => bif C.memT e then some (.sm st.nx 0 len (sizeT P e), .hw (st.new (.cells (flat cs)))) else some (.sl 1 false cs, .no)
        | none => none) else none
      | none => none
    | _ => none
def o_insert (C : Cfg) (T : CallF) (Y : YieldF) (rd : Operand → Option V) (lo : Nat → Option V) (st : St) (f : FuncId) (mv : Bool) (o : Oper) (t : TypeId) (mp : Operand) (k : Operand) (x : Operand) : Option (V × Eff) :=
  let P := C.P
   match P.underlying t, rd mp, rd k, rd x with
    | some (.map kt _), some (.mp id), some k, some x => bif keyOf P kt k && stor x then (match st.get id with
      | some (.map es c) => match findK k es 0 with
        | some (some (i, _)) => some (.u, .hw (st.put id (.map (setK es i k (down x)) c)))
        | some none => some (.u, .hw (st.put id (.map (es ++ [(k, down x, c)]) (c + 1))))
        | none => none
      | _ => none) else none
    | _, _, _, _ => none
def o_load (C : Cfg) (T : CallF) (Y : YieldF) (rd : Operand → Option V) (lo : Nat → Option V) (st : St) (f : FuncId) (mv : Bool) (o : Oper) (t : TypeId) (a : Operand) : Option (V × Eff) :=
  let P := C.P
   match rd a with
    | some (.lp s off) => match lo s with
      | some v => match locPart P t v off with
        | some x => bif mv then some (x, .lw s (down v)) else some (down x, .lr s)
        | none => none
      | none => none
    | some (.po id off) => match st.get id with
      | some (.cells cs) => match part P t cs off with
        | some x => bif mv then some (x, .hw (st.put id (.cells (downs cs)))) else some (down x, .hr fun st => match st.get id with | some (.cells cs) => part P t cs off | _ => none)
        | none => none
      | _ => none
    | some (.ip cs off) => match part P t cs off with
      | some x => some (down x, .no)
      | none => none
    | _ => none
def o_store (C : Cfg) (T : CallF) (Y : YieldF) (rd : Operand → Option V) (lo : Nat → Option V) (st : St) (f : FuncId) (mv : Bool) (o : Oper) (t : TypeId) (a : Operand) (x : Operand) : Option (V × Eff) :=
  let P := C.P
   match rd a, rd x with
    | some (.lp s off), some x => bif stor x && Nat.beq (cellsOf x).length (sizeT P t) && hasT P t then (match lo s with
      | some v => match locStore v off x with
        | some v' => some (.u, .lw s v')
        | none => none
      | none => none) else none
    | some (.po id off), some x => bif stor x && Nat.beq (cellsOf x).length (sizeT P t) && hasT P t then (match st.get id with
      | some (.cells cs) => bif leB (off + (cellsOf x).length) cs.length then some (.u, .hw (st.put id (.cells (splice cs off (cellsOf x))))) else none
      | _ => none) else none
    | _, _ => none
def o_nilCheck (C : Cfg) (T : CallF) (Y : YieldF) (rd : Operand → Option V) (lo : Nat → Option V) (st : St) (f : FuncId) (mv : Bool) (o : Oper) (x : Operand) : Option (V × Eff) :=
  let P := C.P
   match rd x with
    | some v => bif solid v then some (down v, .no) else none
    | none => none
def o_binOp (C : Cfg) (T : CallF) (Y : YieldF) (rd : Operand → Option V) (lo : Nat → Option V) (st : St) (f : FuncId) (mv : Bool) (o : Oper) (op : BinOp) (t : TypeId) (x : Operand) (y : Operand) : Option (V × Eff) :=
  let P := C.P
   match rd x, rd y with
    | some (.i k a), some (.i k' c) => match intOp op k a k' c with
      | some r => some (r, .no)
      | none => none
    | some (.s a), some (.s c) => match strOp op a c with
      | some r => some (r, .no)
      | none => none
    | some a, some c => match op with
      | .eql => match cmpOp P t x y a c with
        | some r => some (.b r, .no)
        | none => none
      | .neq => match cmpOp P t x y a c with
        | some r => some (.b (!r), .no)
        | none => none
      | _ => none
    | _, _ => none
def o_unOp (C : Cfg) (T : CallF) (Y : YieldF) (rd : Operand → Option V) (lo : Nat → Option V) (st : St) (f : FuncId) (mv : Bool) (o : Oper) (op : UnOp) (x : Operand) : Option (V × Eff) :=
  let P := C.P
   match op, rd x with
    | .not, some (.b a) => some (.b (!a), .no)
    | .neg, some (.i k n) => some (.i k (k.wrap (0 - n)), .no)
    | .xor, some (.i k n) => some (.i k (k.wrap (BitVec.ofInt k.bits (if k.signed then -1 else k.max) ^^^ BitVec.ofInt k.bits n).toNat), .no)
    | _, _ => none
def o_convert (C : Cfg) (T : CallF) (Y : YieldF) (rd : Operand → Option V) (lo : Nat → Option V) (st : St) (f : FuncId) (mv : Bool) (o : Oper) (src : TypeId) (dst : TypeId) (x : Operand) : Option (V × Eff) :=
  let P := C.P
   match P.underlying src, P.underlying dst, rd x with
    | some _, some (.int k), some (.i _ n) => some (.i k (k.wrap n), .no)
    | some _, some .string, some (.s z) => some (.s z, .no)
    | some .string, some (.slice e), some (.s z) => match P.underlying e with
      | some (.int .u8) => bif C.memT e then none else some (.sl (match z.data.toList with | [] => 0 | _ => 2) false (byteVs z.data.toList), .no)
      | _ => none
    | some (.slice e), some .string, some (.sl _ _ xs) => match P.underlying e, bytesOf xs with
      | some (.int .u8), some l => some (.s ⟨l.toArray⟩, .no)
      | _, _ => none
    | some (.slice e), some .string, some (.sm id off n _) => match P.underlying e, st.get id with
      | some (.int .u8), some (.cells cs) => bif leB (off + n) cs.length then (match bytesOf ((cs.drop off).take n) with
        | some l => some (.s ⟨l.toArray⟩, .hr fun st => match st.get id with | some (.cells cs) => bif leB (off + n) cs.length then some (.ag ((cs.drop off).take n)) else none | _ => none)
        | none => none) else none
      | _, _ => none
    | _, _, _ => none
def o_makeFunc (C : Cfg) (T : CallF) (Y : YieldF) (rd : Operand → Option V) (lo : Nat → Option V) (st : St) (f : FuncId) (mv : Bool) (o : Oper) (g : Fn) (a : Array Operand) (c : Array Operand) : Option (V × Eff) :=
  let P := C.P
   match rds rd a.toList, rds rd c.toList with
    | some a, some c => bif goods a && goods c then (match g with
      | .func g => some (.fn (.func g) (downs a) (downs c), .no)
      | _ => none) else none
    | _, _ => none
def o_makeMap (C : Cfg) (T : CallF) (Y : YieldF) (rd : Operand → Option V) (lo : Nat → Option V) (st : St) (f : FuncId) (mv : Bool) (o : Oper) (r : Option Operand) : Option (V × Eff) :=
  let P := C.P
   match r with
    | none => some (.mp st.nx, .hw (st.new (.map [] 0)))
    | some _ => none
def o_makeSlice (C : Cfg) (T : CallF) (Y : YieldF) (rd : Operand → Option V) (lo : Nat → Option V) (st : St) (f : FuncId) (mv : Bool) (o : Oper) (t : TypeId) (l : Operand) (c : Operand) : Option (V × Eff) :=
  let P := C.P
   match P.underlying t, (rd l).bind asNat, (rd c).bind asNat with
    | some (.slice e), some l, some c => match zeroT P e with
      | some z => bif leB l c && small P e c && leB (c * sizeT P e) 16777216 && fits P e z then (bif C.memT e then some (.sm st.nx 0 l (sizeT P e), .hw (st.new (.cells (flat (List.replicate c z)))))
        else bif Nat.beq l c then some (.sl 1 false (List.replicate l z), .no) else none) else none
      | none => none
    | _, _, _ => none
def o_slice (C : Cfg) (T : CallF) (Y : YieldF) (rd : Operand → Option V) (lo_ : Nat → Option V) (st : St) (f : FuncId) (mv : Bool) (o : Oper) (t : TypeId) (x : Operand) (lo : Option Operand) (hi : Option Operand) (mx : Option Operand) : Option (V × Eff) :=
  let P := C.P
   match P.underlying t, rd x with
    | some .string, some (.s z) => match optNat rd hi z.size, optNat rd lo 0, mx with
      | some h, some l, none => bif leB h z.size && leB l h then some (.s (z.extract l h), .no) else none
      | _, _, _ => none
    | some (.slice e), some (.sl ow n xs) => match optNat rd hi xs.length, optNat rd lo 0 with
      | some h, some l => bif leB h xs.length && leB l h && hasT P e && headFit P e xs then (match mx with
        | none => some (.sl (cutOwn hi.isSome ow ((xs.take h).drop l)) n ((xs.take h).drop l), .no)
        | some q => match (rd q).bind asNat with
          | some q => bif hi.isSome && Nat.beq q h then some (.sl 1 n ((xs.take h).drop l), .no) else none
          | none => none) else none
      | _, _ => none
    | some (.slice e), some (.sm id off n sz) => match optNat rd hi n, optNat rd lo 0, mx with
      | some h, some l, none => bif leB h n && leB l h && Nat.beq sz (sizeT P e) && ltB 0 sz then
          (bif Nat.beq l 0 then some (.sm id off h sz, .no) else bif ltB l h then some (.sm id (off + l * sz) (h - l) sz, .no) else some (.sl 0 false [], .no)) else none
      | _, _, _ => none
    | _, _ => none
def o_fieldAddr (C : Cfg) (T : CallF) (Y : YieldF) (rd : Operand → Option V) (lo : Nat → Option V) (st : St) (f : FuncId) (mv : Bool) (o : Oper) (t : TypeId) (x : Operand) (k : Nat) : Option (V × Eff) :=
  let P := C.P
   match P.underlying t with
    | some (.struct fs) => match fs[k]? with
      | some fd => bif Nat.beq (sizeT P fd.type) 0 then none else (match rd x with
        | some p => match atOff p fd.offset with
          | some v => some (v, .no)
          | none => none
        | none => none)
      | none => none
    | _ => none
def o_field (C : Cfg) (T : CallF) (Y : YieldF) (rd : Operand → Option V) (lo : Nat → Option V) (st : St) (f : FuncId) (mv : Bool) (o : Oper) (t : TypeId) (x : Operand) (k : Nat) : Option (V × Eff) :=
  let P := C.P
   match P.underlying t, rd x with
    | some (.struct fs), some (.ag cs) => match fs[k]? with
      | some fd => match part P fd.type cs fd.offset with
        | some v => some (down v, .no)
        | none => none
      | none => none
    | _, _ => none
def o_indexAddr (C : Cfg) (T : CallF) (Y : YieldF) (rd : Operand → Option V) (lo : Nat → Option V) (st : St) (f : FuncId) (mv : Bool) (o : Oper) (t : TypeId) (x : Operand) (ix : Operand) : Option (V × Eff) :=
  let P := C.P
   match P.underlying t, rd x, (rd ix).bind asNat with
    | some (.slice e), some (.sl _ _ xs), some i => match nth xs i with
      | some v => bif fits P e v && ltB 0 (sizeT P e) then some (.ip (cellsOf v) 0, .no) else none
      | none => none
    | some (.slice e), some (.sm id off n sz), some i => bif ltB i n && Nat.beq sz (sizeT P e) && ltB 0 (sizeT P e) then some (.po id (off + i * sizeT P e), .no) else none
    | some (.array n e), some p, some i => bif ltB i n && ltB 0 (sizeT P e) then (match atOff p (i * sizeT P e) with
        | some v => some (v, .no)
        | none => none)
      else none
    | _, _, _ => none
def o_index (C : Cfg) (T : CallF) (Y : YieldF) (rd : Operand → Option V) (lo : Nat → Option V) (st : St) (f : FuncId) (mv : Bool) (o : Oper) (t : TypeId) (x : Operand) (ix : Operand) : Option (V × Eff) :=
  let P := C.P
   match P.underlying t, rd x, (rd ix).bind asNat with
    | some (.array n e), some (.ag cs), some i => bif ltB i n then (match part P e cs (i * sizeT P e) with
      | some v => some (down v, .no)
      | none => none) else none
    | some .string, some (.s z), some i => match z[i]? with
      | some c => some (.i .u8 c.toNat, .no)
      | none => none
    | _, _, _ => none
def o_lookup (C : Cfg) (T : CallF) (Y : YieldF) (rd : Operand → Option V) (lo : Nat → Option V) (st : St) (f : FuncId) (mv : Bool) (o : Oper) (t : TypeId) (x : Operand) (k : Operand) (ok : Bool) : Option (V × Eff) :=
  let P := C.P
   match P.underlying t, rd x, rd k with
    | some (.map kt e), some x, some k => bif keyOf P kt k then (match x, zeroT P e with
      | .m0, some z => some (bif ok then .tu [z, .b false] else z, .no)
      | .mp id, some z => match st.get id with
        | some (.map es _) => match findK k es 0 with
          | some (some (_, v)) => some (bif ok then .tu [v, .b true] else v, .hr (lookAt k id))
          | some none => some (bif ok then .tu [z, .b false] else z, .hr (lookAt k id))
          | none => none
        | _ => none
      | _, _ => none) else none
    | _, _, _ => none
def o_range (C : Cfg) (T : CallF) (Y : YieldF) (rd : Operand → Option V) (lo : Nat → Option V) (st : St) (f : FuncId) (mv : Bool) (o : Oper) (t : TypeId) (x : Operand) : Option (V × Eff) :=
  let P := C.P
   match P.underlying t, rd x with
    | some .string, some (.s z) => some (.po st.nx 0, .hw (st.new (.siter z 0)))
    | some (.map _ _), some .m0 => some (.po st.nx 0, .hw (st.new (.iter none 0 [] 0)))
    | some (.map _ _), some (.mp id) => match st.get id with
      | some (.map _ c) => some (.po st.nx 0, .hw (st.new (.iter (some id) c [] c)))
      | _ => none
    | _, _ => none
def o_next (C : Cfg) (T : CallF) (Y : YieldF) (rd : Operand → Option V) (lo : Nat → Option V) (st : St) (f : FuncId) (mv : Bool) (o : Oper) (it : Operand) (isS : Bool) : Option (V × Eff) :=
  let P := C.P
   match rd it with
    | some (.po r 0) => match st.get r, isS with
      | some (.siter z pos), true => bif ltB pos z.size then
          some (.tu [.b true, .i .i64 pos, .i .i32 (Utf8.decode z pos).1], .hw (st.put r (.siter z (pos + (Utf8.decode z pos).2))))
        else some (.tu [.b false], .hw st)
      | some (.iter none _ _ _), false => some (.tu [.b false], .hw st)
      | some (.iter (some id) since seen stepped), false => match st.get id with
        | some (.map es c) =>
          bif !seen.isEmpty && !es.isEmpty && es.all (fun e => leB stepped e.2.2) then none else
          bif (es.filter fun e => !seen.contains e.2.2).any (fun e => leB since e.2.2) then none else
          match es.filter fun e => !seen.contains e.2.2 with
          | [] => some (.tu [.b false], .hw st)
          | [(k, v, b)] => some (.tu [.b true, k, v], .hw (st.put r (.iter (some id) since (seen ++ [b]) c)))
          | _ => none
        | _ => none
      | _, _ => none
    | _ => none
def o_entry (C : Cfg) (T : CallF) (Y : YieldF) (rd : Operand → Option V) (lo : Nat → Option V) (st : St) (f : FuncId) (mv : Bool) (o : Oper) (it : Operand) : Option (V × Eff) :=
  let P := C.P
   match rd it with
    | some (.po r 0) => match st.get r with
      | some (.iter (some id) _ seen stepped) => match st.get id, seen.getLast? with
        | some (.map es c), some b => bif Nat.beq c stepped then (match es.find? (fun e => Nat.beq e.2.2 b) with
            | some (k, v, _) => some (.tu [k, v], .hw st)
            | none => none)
          else none
        | _, _ => none
      | _ => none
    | _ => none
def o_extract (C : Cfg) (T : CallF) (Y : YieldF) (rd : Operand → Option V) (lo : Nat → Option V) (st : St) (f : FuncId) (mv : Bool) (o : Oper) (x : Operand) (ix : Nat) : Option (V × Eff) :=
  let P := C.P
   match rd x with
    | some (.tu vs) => match nth vs ix with
      | some v => some (down v, .no)
      | none => none
    | _ => none
def o_call (C : Cfg) (T : CallF) (Y : YieldF) (rd : Operand → Option V) (lo : Nat → Option V) (st : St) (f : FuncId) (mv : Bool) (o : Oper) (c : Call) : Option (V × Eff) :=
  let P := C.P
   match rds rd c.args.toList with
    | none => none
    | some args => bif goods args then (match c.callee with
      | .builtin b => builtinV C st b c.argTypes.toList args
      | .value g => match rd g with
        | some (.fn (.func h) first cap) => match T h (downs first ++ (args ++ downs cap)) st with
          | some (v, st') => some (v, .hw st')
          | none => none
        | some (.yl l) => match Y l args st with
          | some (v, st') => some (v, .hw st')
          | none => none
        | _ => none
      | .invoke .. => none) else none
def evalOpF (C : Cfg) (T : CallF) (Y : YieldF) (rd : Operand → Option V) (lo : Nat → Option V) (st : St) (f : FuncId) (mv : Bool) (o : Oper) : Option (V × Eff) :=
  match o.op with
  | .move x => o_move C T Y rd lo st f mv o x
  | .assign x => o_move C T Y rd lo st f mv o x
  | .pick c a b => o_pick C T Y rd lo st f mv o c a b
  | .alloc e => o_alloc C T Y rd lo st f mv o e
  | .box _ x => o_box C T Y rd lo st f mv o x
  | .build t parts => o_build C T Y rd lo st f mv o t parts
  | .buildSlice t len parts => o_buildSlice C T Y rd lo st f mv o t len parts
  | .insert t mp k x => o_insert C T Y rd lo st f mv o t mp k x
  | .mapUpdate t mp k x => o_insert C T Y rd lo st f mv o t mp k x
  | .load t a => o_load C T Y rd lo st f mv o t a
  | .store t a x => o_store C T Y rd lo st f mv o t a x
  | .nilCheck x => o_nilCheck C T Y rd lo st f mv o x
  | .binOp op t x y _ => o_binOp C T Y rd lo st f mv o op t x y
  | .unOp op _ x => o_unOp C T Y rd lo st f mv o op x
  | .convert src dst x => o_convert C T Y rd lo st f mv o src dst x
  | .makeFunc g a c => o_makeFunc C T Y rd lo st f mv o g a c
  | .makeMap _ r => o_makeMap C T Y rd lo st f mv o r
  | .makeSlice t l c => o_makeSlice C T Y rd lo st f mv o t l c
  | .slice t x lo_ hi mx => o_slice C T Y rd lo st f mv o t x lo_ hi mx
  | .fieldAddr t x k => o_fieldAddr C T Y rd lo st f mv o t x k
  | .field t x k => o_field C T Y rd lo st f mv o t x k
  | .indexAddr t x ix => o_indexAddr C T Y rd lo st f mv o t x ix
  | .index t x ix => o_index C T Y rd lo st f mv o t x ix
  | .lookup t x k ok => o_lookup C T Y rd lo st f mv o t x k ok
  | .range t x => o_range C T Y rd lo st f mv o t x
  | .next it isS => o_next C T Y rd lo st f mv o it isS
  | .entry it => o_entry C T Y rd lo st f mv o it
  | .extract x ix => o_extract C T Y rd lo st f mv o x ix
  | .call c => o_call C T Y rd lo st f mv o c
  | _ => none
theorem evalOpF_eq (C : Cfg) (T : CallF) (Y : YieldF) (rd : Operand → Option V) (lo : Nat → Option V) (st : St) (f : FuncId) (mv : Bool) (o : Oper) : evalOpF C T Y rd lo st f mv o = evalOp C T Y rd lo st f mv o := by
  unfold evalOpF evalOp
  cases o.op <;> rfl

/-- Operations of a straight region: their kinds are nothing to it. -/
def after1 (C : Cfg) (f : FuncId) (mv : Bool) (m : M) (o : Oper) (k : M → Option M) : Option (V × Eff) → Option M
  | some (v, e) => bif freeEff m e && lpOk v e then k (wrM (C.vars f) (effM (unown mv m o) e) o.dst v) else none
  | none => none
def step1 (C : Cfg) (T : CallF) (Y : YieldF) (f : FuncId) (mv : Bool) (m : M) (o : Oper) (k : M → Option M) : Option Bool → Option M
  | some true => after1 C f mv m o k (evalOpF C T Y (rdM (mvo mv o) m) (getE m.L) m.st f mv o)
  | some false => k (wrM (C.vars f) m o.dst (.tu []))
  | none => none
noncomputable def evalOpsS (C : Cfg) (T : CallF) (Y : YieldF) (f : FuncId) (mvs : Nat) (all : Array Oper) (l : List Oper) : Nat → M → Option M :=
  List.rec (motive := fun _ => Nat → M → Option M) (fun _ m => some m) (fun o _ ih i m => step1 C T Y f (bit mvs i) m o (ih (i + 1)) (guardM all m o)) l

theorem evalOpsS_eq (C : Cfg) (T : CallF) (Y : YieldF) (f : FuncId) (mvs : Nat) (all : Array Oper) : ∀ (l : List Oper) (i : Nat) (m : M), evalOpsS C T Y f mvs all l i m = (evalOps C T Y f mvs all l i m).map (·.1)
  | [], i, m => rfl
  | o :: r, i, m => by
    have ih := evalOpsS_eq C T Y f mvs all r
    show step1 C T Y f (bit mvs i) m o (evalOpsS C T Y f mvs all r (i + 1)) (guardM all m o) = _
    unfold evalOps
    cases guardM all m o with
    | none => rfl
    | some b =>
      cases b with
      | true =>
        simp only [step1, evalOpF_eq]
        cases evalOp C T Y (rdM (mvo (bit mvs i) o) m) (getE m.L) m.st f (bit mvs i) o with
        | none => rfl
        | some p =>
          obtain ⟨v, e⟩ := p
          simp only [after1, ih]
          cases (freeEff m e && lpOk v e) with
          | false => rfl
          | true =>
            simp only [cond_true]
            cases evalOps C T Y f mvs all r (i + 1) (wrM (C.vars f) (effM (unown (bit mvs i) m o) e) o.dst v) with
            | none => rfl
            | some q => rfl
      | false =>
        simp only [step1, ih]
        cases evalOps C T Y f mvs all r (i + 1) (wrM (C.vars f) m o.dst (.tu [])) with
        | none => rfl
        | some q => rfl

/-- Operations of a region that draws. -/
def pushK (k : Kind) : Option (M × List Kind) → Option (M × List Kind)
  | some (m, ks) => some (m, k :: ks)
  | none => none
def after2 (C : Cfg) (f : FuncId) (mv : Bool) (m : M) (o : Oper) (k : M → Option (M × List Kind)) : Option (V × Eff) → Option (M × List Kind)
  | some (v, e) => bif freeEff m e && lpOk v e then pushK (kindOf m.st v e) (k (wrM (C.vars f) (effM (unown mv m o) e) o.dst v)) else none
  | none => none
def step2 (C : Cfg) (T : CallF) (Y : YieldF) (f : FuncId) (mv : Bool) (m : M) (o : Oper) (k : M → Option (M × List Kind)) : Option Bool → Option (M × List Kind)
  | some true => after2 C f mv m o k (evalOpF C T Y (rdM (mvo mv o) m) (getE m.L) m.st f mv o)
  | some false => pushK .p (k (wrM (C.vars f) m o.dst (.tu [])))
  | none => none
noncomputable def evalOpsD (C : Cfg) (T : CallF) (Y : YieldF) (f : FuncId) (mvs : Nat) (all : Array Oper) (l : List Oper) : Nat → M → Option (M × List Kind) :=
  List.rec (motive := fun _ => Nat → M → Option (M × List Kind)) (fun _ m => some (m, [])) (fun o _ ih i m => step2 C T Y f (bit mvs i) m o (ih (i + 1)) (guardM all m o)) l
theorem evalOpsD_eq (C : Cfg) (T : CallF) (Y : YieldF) (f : FuncId) (mvs : Nat) (all : Array Oper) : ∀ (l : List Oper) (i : Nat) (m : M), evalOpsD C T Y f mvs all l i m = evalOps C T Y f mvs all l i m
  | [], i, m => rfl
  | o :: r, i, m => by
    have ih := evalOpsD_eq C T Y f mvs all r
    show step2 C T Y f (bit mvs i) m o (evalOpsD C T Y f mvs all r (i + 1)) (guardM all m o) = _
    unfold evalOps
    cases guardM all m o with
    | none => rfl
    | some b =>
      cases b with
      | true =>
        simp only [step2, evalOpF_eq]
        cases evalOp C T Y (rdM (mvo (bit mvs i) o) m) (getE m.L) m.st f (bit mvs i) o with
        | none => rfl
        | some p =>
          obtain ⟨v, e⟩ := p
          simp only [after2, ih]
          cases (freeEff m e && lpOk v e) with
          | false => rfl
          | true =>
            simp only [cond_true]
            cases evalOps C T Y f mvs all r (i + 1) (wrM (C.vars f) (effM (unown (bit mvs i) m o) e) o.dst v) with
            | none => rfl
            | some q => rfl
      | false =>
        simp only [step2, ih]
        cases evalOps C T Y f mvs all r (i + 1) (wrM (C.vars f) m o.dst (.tu [])) with
        | none => rfl
        | some q => rfl

/-- Operations of a region whose new objects have places of their own. -/
def pushN (k : Kind) : Option (M × List Kind × List (Nat × Obj)) → Option (M × List Kind × List (Nat × Obj))
  | some (m, ks, xs) => some (m, k :: ks, xs)
  | none => none
def pushX (x : Nat × Obj) : Option (M × List Kind × List (Nat × Obj)) → Option (M × List Kind × List (Nat × Obj))
  | some (m, ks, xs) => some (m, .p :: ks, x :: xs)
  | none => none
def after3 (C : Cfg) (f : FuncId) (m : M) (o : Oper) (k : M → Option (M × List Kind × List (Nat × Obj))) : Option (V × Eff) → Option (M × List Kind × List (Nat × Obj))
  | some (v, e) => bif freeEff m e && lpOk v e then pushN (kindOf m.st v e) (k (wrM (C.vars f) (effM m e) o.dst v)) else none
  | none => none
def new3 (C : Cfg) (f : FuncId) (id : Nat) (m : M) (o : Oper) (k : M → Option (M × List Kind × List (Nat × Obj))) : Option Obj → Option (M × List Kind × List (Nat × Obj))
  | some x => pushX (id, x) (k (wrM (C.vars f) m o.dst (newV o id)))
  | none => none
def step3 (C : Cfg) (T : CallF) (Y : YieldF) (f : FuncId) (id : Nat) (m : M) (o : Oper) (k : M → Option (M × List Kind × List (Nat × Obj))) : Option Bool → Option (M × List Kind × List (Nat × Obj))
  | some true => bif isNew C f o then new3 C f id m o k (newOb C.P (rdM false m) o) else after3 C f m o k (evalOpF C T Y (rdM false m) (getE m.L) m.st f false o)
  | some false => pushN .p (k (wrM (C.vars f) m o.dst (.tu [])))
  | none => none
noncomputable def evalOpsM (C : Cfg) (T : CallF) (Y : YieldF) (f : FuncId) (base : Nat) (all : Array Oper) (l : List Oper) : Nat → M → Option (M × List Kind × List (Nat × Obj)) :=
  List.rec (motive := fun _ => Nat → M → Option (M × List Kind × List (Nat × Obj))) (fun _ m => some (m, [], [])) (fun o _ ih i m => step3 C T Y f (base + i) m o (ih (i + 1)) (guardM all m o)) l
theorem evalOpsM_eq (C : Cfg) (T : CallF) (Y : YieldF) (f : FuncId) (base : Nat) (all : Array Oper) : ∀ (l : List Oper) (i : Nat) (m : M), evalOpsM C T Y f base all l i m = evalOpsN C T Y f base all l i m
  | [], i, m => rfl
  | o :: r, i, m => by
    have ih := evalOpsM_eq C T Y f base all r
    show step3 C T Y f (base + i) m o (evalOpsM C T Y f base all r (i + 1)) (guardM all m o) = _
    unfold evalOpsN
    cases guardM all m o with
    | none => rfl
    | some b =>
      cases b with
      | true =>
        simp only [step3, evalOpF_eq]
        cases isNew C f o with
        | true =>
          simp only [cond_true]
          cases newOb C.P (rdM false m) o with
          | none => rfl
          | some x =>
            simp only [new3, ih]
            cases evalOpsN C T Y f base all r (i + 1) (wrM (C.vars f) m o.dst (newV o (base + i))) with
            | none => rfl
            | some q => rfl
        | false =>
          simp only [cond_false]
          cases evalOp C T Y (rdM false m) (getE m.L) m.st f false o with
          | none => rfl
          | some p =>
            obtain ⟨v, e⟩ := p
            simp only [after3, ih]
            cases (freeEff m e && lpOk v e) with
            | false => rfl
            | true =>
              simp only [cond_true]
              cases evalOpsN C T Y f base all r (i + 1) (wrM (C.vars f) (effM m e) o.dst v) with
              | none => rfl
              | some q => rfl
      | false =>
        simp only [step3, ih]
        cases evalOpsN C T Y f base all r (i + 1) (wrM (C.vars f) m o.dst (.tu [])) with
        | none => rfl
        | some q => rfl

def endS : Option M → Option (Ex × M)
  | some m => some (.normal, { m with tp := [] })
  | none => none
def endD (env : Env) (bs : List Nat) : Option (M × List Kind) → Option (Ex × M)
  | some (m, ks) => bif okAll env bs [] ks then some (.normal, { m with tp := [] }) else none
  | none => none
def endN (env : Env) (bs : List Nat) : Option (M × List Kind × List (Nat × Obj)) → Option (Ex × M)
  | some (m, ks, xs) => bif okAll env bs [] ks then some (.normal, { m with tp := [], st := putAll m.st xs }) else none
  | none => none
def thenE (k : M → Option (Ex × M)) : Option (Ex × M) → Option (Ex × M)
  | some (.normal, m) => k m
  | r => r
def condE (a b : Option (Ex × M)) : Option V → Option (Ex × M)
  | some (.b true) => a
  | some (.b false) => b
  | _ => none
def blockE (id : Nat) : Option (Ex × M) → Option (Ex × M)
  | some (.exit id', m) => bif Nat.beq id' id then some (.normal, m) else some (.exit id', m)
  | r => r
/-- One piece of code. -/
noncomputable def codeF (C : Cfg) (T : CallF) (Y : YieldF) (f : FuncId) (ih : Code → M → Option (Ex × M)) (whole : Code → M → Option (Ex × M)) (c : Code) (m : M) : Option (Ex × M) :=
  match c with
  | .skip => some (.normal, m)
  | .region id ops draw => bif draw then (bif C.news f id then endN m.env (C.befs f id) (evalOpsM C T Y f m.st.nx ops ops.toList 0 { m with st := { m.st with nx := m.st.nx + ops.size } })
      else endD m.env (C.befs f id) (evalOpsD C T Y f 0 ops ops.toList 0 m))
    else bif C.news f id then none else endS (evalOpsS C T Y f (C.moves f id) ops ops.toList 0 m)
  | .seq a b => thenE (ih b) (ih a m)
  | .cond g a b => condE (ih a m) (ih b m) (rdM false m g)
  | .block id a => blockE id (ih a m)
  | .loop a => thenE (ih (.loop a)) (ih a m)
  | .exit id => some (.exit id, m)
  | .ret => some (.ret, m)
  | c => whole c m
noncomputable def evalCodeF (C : Cfg) (T : CallF) (Y : YieldF) (f : FuncId) (n : Nat) : Code → M → Option (Ex × M) :=
  Nat.rec (motive := fun _ => Code → M → Option (Ex × M)) (fun _ _ => none) (fun n ih => codeF C T Y f ih (evalCode C T Y f (n + 1))) n
theorem evalCodeF_eq (C : Cfg) (T : CallF) (Y : YieldF) (f : FuncId) : ∀ (n : Nat) (c : Code) (m : M), evalCodeF C T Y f n c m = evalCode C T Y f n c m
  | 0, c, m => by unfold evalCode; rfl
  | n + 1, c, m => by
    have ih := evalCodeF_eq C T Y f n
    show codeF C T Y f (evalCodeF C T Y f n) (evalCode C T Y f (n + 1)) c m = _
    cases c with
    | region id ops draw =>
      simp only [codeF, evalCode, evalOpsM_eq, evalOpsD_eq, evalOpsS_eq]
      cases draw with
      | true =>
        simp only [cond_true, Bool.not_true, Bool.false_or]
        cases C.news f id with
        | true =>
          simp only [cond_true]
          cases evalOpsN C T Y f m.st.nx ops ops.toList 0 { m with st := { m.st with nx := m.st.nx + ops.size } } with
          | none => rfl
          | some p => rfl
        | false =>
          simp only [cond_false]
          cases evalOps C T Y f 0 ops ops.toList 0 m with
          | none => rfl
          | some p => rfl
      | false =>
        simp only [cond_false, Bool.not_false, Bool.true_or, cond_true]
        cases C.news f id with
        | true => rfl
        | false =>
          simp only [cond_false]
          cases evalOps C T Y f (C.moves f id) ops ops.toList 0 m with
          | none => rfl
          | some p => rfl
    | seq a b =>
      simp only [codeF, evalCode, ih]
      cases evalCode C T Y f n a m with
      | none => rfl
      | some p =>
        obtain ⟨ex, m1⟩ := p
        cases ex with
        | normal => simp only [thenE, ih]
        | _ => rfl
    | cond g a b =>
      simp only [codeF, evalCode, ih]
      cases rdM false m g with
      | none => rfl
      | some v =>
        cases v with
        | b x => cases x <;> rfl
        | _ => rfl
    | block id a =>
      simp only [codeF, evalCode, ih]
      cases evalCode C T Y f n a m with
      | none => rfl
      | some p =>
        obtain ⟨ex, m1⟩ := p
        cases ex <;> rfl
    | loop a =>
      simp only [codeF, evalCode, ih]
      cases evalCode C T Y f n a m with
      | none => rfl
      | some p =>
        obtain ⟨ex, m1⟩ := p
        cases ex with
        | normal => simp only [thenE, ih]
        | _ => rfl
    | _ => simp only [codeF, evalCode]

def endFn (C : Cfg) (fn : Func) : Option (Ex × M) → Option (V × St)
  | some (ex, m) => match ex with
    | .exit _ => none
    | _ => match resultsV C.P m fn.results.toList with
      | some [v] => some (v, m.st)
      | some vs => some (.tu vs, m.st)
      | none => none
  | none => none
noncomputable def fnF (C : Cfg) (T : CallF) (Y : YieldF) (n : Nat) (f : FuncId) (args : List V) (st : St) (fn : Func) : Option Code → Option (V × St)
  | some c => bif !Nat.beq args.length (fn.params.size + fn.nfree) then none else endFn C fn (evalCodeF C T Y f n c { env := bindArgs args 0, tp := [], L := [], st := st })
  | none => none
noncomputable def evalFnF (C : Cfg) (T : CallF) (Y : YieldF) (n : Nat) (f : FuncId) (args : List V) (st : St) : Option Func → Option (V × St)
  | some fn => fnF C T Y n f args st fn fn.body
  | none => none
theorem evalFnF_eq (C : Cfg) (T : CallF) (Y : YieldF) (n : Nat) (f : FuncId) (args : List V) (st : St) : evalFnF C T Y n f args st (C.P.funcs[f]?) = evalFn C T Y n f args st := by
  unfold evalFn evalFnF
  cases C.P.funcs[f]? with
  | none => rfl
  | some fn =>
    simp only
    unfold fnF
    cases fn.body with
    | none => rfl
    | some c =>
      simp only [evalCodeF_eq]
      cases Nat.beq args.length (fn.params.size + fn.nfree) with
      | false => rfl
      | true =>
        simp only [Bool.not_true, cond_false]
        cases evalCode C T Y f n c { env := bindArgs args 0, tp := [], L := [], st := st } with
        | none => rfl
        | some p =>
          obtain ⟨ex, m⟩ := p
          cases ex <;> rfl

def viaS (g : Option (List V → St → Option (V × St))) (args : List V) (st : St) (k : Option (V × St)) : Option (V × St) := match g with
  | some g => g args st
  | none => k
noncomputable def runG (C : Cfg) (S : FuncId → Option (List V → St → Option (V × St))) (n : Nat) : CallF × YieldF :=
  Nat.rec (motive := fun _ => CallF × YieldF) (fun _ _ _ => none, fun _ _ _ => none) (fun n ih => (fun f args st => viaS (S f) args st (evalFnF C ih.1 ih.2 n f args st (C.P.funcs[f]?)), fun l args st => evalRound C ih.1 ih.2 n l args st)) n
theorem runG_eq (C : Cfg) (S : FuncId → Option (List V → St → Option (V × St))) : ∀ n, (runG C S n).1 = runF C S n ∧ (runG C S n).2 = runY C S n
  | 0 => by constructor <;> (funext a b c; simp only [runF, runY]; rfl)
  | n + 1 => by
    obtain ⟨h1, h2⟩ := runG_eq C S n
    constructor
    · funext f args st
      show viaS (S f) args st (evalFnF C (runG C S n).1 (runG C S n).2 n f args st (C.P.funcs[f]?)) = _
      rw [evalFnF_eq, h1, h2]
      simp only [runF, viaS]
      cases S f <;> rfl
    · funext l args st
      show evalRound C (runG C S n).1 (runG C S n).2 n l args st = _
      rw [h1, h2]
      simp only [runY]
end Go.Mu
end
