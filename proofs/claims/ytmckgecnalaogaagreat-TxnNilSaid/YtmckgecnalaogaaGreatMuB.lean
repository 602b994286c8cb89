/- Merged from the texts Mu12 to Mu20: an evaluator for the program's code and its soundness; how a law's statement follows of one run. No conditions. -/
import Derived.Test.YtmckgecnalaogaaGreatMuA
import Derived.Laws.Tables
import Derived.Great.BuildSlice
import Derived.Laws.IdiomStrings
import Derived.Laws.BitsLemmas
section
/- How the relation goes over a turn of memory. -/
set_option linter.unusedSimpArgs false
set_option linter.unusedVariables false
set_option linter.constructorNameAsVariable false
namespace Go.Mu
section
variable {C : Cfg} {vars nt : Nat} {G G' : Gh} {lb lb' : Nat → Option Nat} {κ κ' : Nat → Bool} {w w' : World} {a : Act} {m : M} {o : Oper} {v : V} {P : Program}

theorem HeldL.xfer {x : Own} {cs : List V} {l : List Value} (h : HeldL G x cs l) (hle : GLe G G') (keep : ∀ B, G.own B = some x → G'.own B = some x ∧ G'.tl B = G.tl B) : HeldL G' x cs l :=
  ⟨h.len, fun j v c hv hc => (h.rel j v c hv hc).mono hle fun B hB => (keep B (h.own B (rss_get hv hc hB))).2, h.cell, h.nodup, fun B hB => (keep B (h.own B hB)).1⟩
theorem Held.xfer {x : Own} {c : Value} (h : Held G x v c) (hle : GLe G G') (keep : ∀ B, G.own B = some x → G'.own B = some x ∧ G'.tl B = G.tl B) : Held G' x v c :=
  ⟨h.rel.mono hle fun B hB => (keep B (h.own B hB)).2, h.nodup, fun B hB => (keep B (h.own B hB)).1⟩
theorem VRel.mono_scalar (hle : GLe G G') {c : Value} (h : VRel G v c) (hs : scalar v = true) : VRel G' v c := h.mono_pl hle (by cases v <;> simp [scalar] at hs <;> rfl)

theorem ObjRel.xfer {B s l id : Nat} {x : Obj} (h : ObjRel C G w B s l id x) (hle : GLe G G') (hB : w'.heap[B]? = w.heap[B]?) (keep : ∀ B, G.own B = some (.obIn id) → G'.own B = some (.obIn id) ∧ G'.tl B = G.tl B) : ObjRel C G' w' B s l id x := by
  cases x with
  | cells cs =>
    obtain ⟨cc, T, h1, h2, h3, h4⟩ := h
    exact ⟨cc, T, hB.trans h1, h2, h3, h4.xfer hle keep⟩
  | map es clock =>
    obtain ⟨ces, h1, h2, h3⟩ := h
    refine ⟨ces, hB.trans h1, h2, fun j k v b hj => ?_⟩
    obtain ⟨e, g1, g2, g3, g4, g5, g6⟩ := h3 j k v b hj
    exact ⟨e, g1, g2.mono_scalar hle g6, g3.mono_pl hle g5, g4, g5, g6⟩
  | iter mm since seen stepped =>
    obtain ⟨h0, m', h1, h2⟩ := h
    refine ⟨h0, m', hB.trans h1, ?_⟩
    cases mm with
    | none => exact h2
    | some id' =>
      obtain ⟨g1, B', s', l', g2, g3⟩ := h2
      exact ⟨Nat.lt_of_lt_of_le g1 hle.nx, B', s', l', (hle.ob _ g1).trans g2, g3⟩
  | siter z pos => exact ⟨h.1, hB.trans h.2⟩
  | loop st pe fid env ps as bd =>
    obtain ⟨lp, h1, h2, h3, h4, h5, h6, h7, h8, n1, n2, h9, h10⟩ := h
    refine ⟨lp, hB.trans h1, h2, h3, h4, h5, h6, h7, h8, n1, n2, h9, fun t v hv => ?_⟩
    obtain ⟨c, g1, g2⟩ := h10 t v hv
    exact ⟨c, g1, g2.elim .inl fun ⟨a, b⟩ => .inr ⟨a, b.mono_pl hle a⟩⟩
  | dead => trivial

/-- The relation goes on where what it speaks of stays; what turned is told anew. -/
theorem Rel.xfer (h : Rel C vars nt G lb κ w a m) (hle : GLe G G') (hκ : ∀ t, κ t = true → κ' t = true) (E : Own → Prop) (hE : ∀ t, E (.sv t) → κ' t = true ∨ ∀ v, slotV m t = some v → pl v = true) (hmk : ¬ E .mk)
    (keep : ∀ B x, G.own B = some x → ¬ E x → G'.own B = some x ∧ G'.tl B = G.tl B ∧ w'.heap[B]? = w.heap[B]?) (ok : WOk G' w') {L' : Env} {st' : St} (nx : G'.nx = st'.nx)
    (hlb : ∀ t s o, slotV m t = some (.lp s o) → lb' s = lb s)
    (hL : ∀ s v, getE L' s = some v → (getE m.L s = some v ∧ ¬ E (.lc s) ∧ ¬ E (.lcIn s) ∧ lb' s = lb s) ∨
      (∃ B cc T, lb' s = some B ∧ G'.own B = some (.lc s) ∧ w'.heap[B]? = some (.cells cc T (0, 0)) ∧ HeldL G' (.lcIn s) (cellsOf v) cc.toList))
    (hO : ∀ id x, st'.get id = some x → (m.st.get id = some x ∧ ¬ E (.ob id) ∧ ¬ E (.obIn id) ∧ id < st'.nx) ∨ (∃ B s l, G'.ob id = some (B, s, l) ∧ G'.own B = some (.ob id) ∧ id < st'.nx ∧ ObjRel C G' w' B s l id x) ∨ x = .dead) :
    Rel C vars nt G' lb' κ' w' a { m with L := L', st := st' } := by
  refine { size := h.size, tpv := h.tpv, envv := h.envv, slot := fun t v hv => ?_, loc := fun s v hv => ?_, heap := ⟨nx, fun id x hx => ?_, ok⟩, marks := fun d hd => ?_, apart := h.apart }
  · have hv' : slotV m t = some v := hv
    obtain ⟨c, hc, hr⟩ := h.slot t v hv'
    refine ⟨c, hc, ?_⟩
    refine srel_split (P := fun v' => v = v' → SRel G' lb' κ' t v c) ?_ ?_ ?_ rfl (v := v)
    · intro s o e _
      subst e
      obtain ⟨B, h1, h2⟩ := hr
      exact ⟨B, (hlb t s o hv').trans h1, h2⟩
    · intro e _; subst e; trivial
    · intro h1 h2 _
      rw [SRel.plain h1 h2] at hr ⊢
      refine ⟨hr.1.mono_pl hle (pl_down v), fun e => ?_⟩
      have hκ0 : κ t = false := by
        cases hh : κ t with
        | false => rfl
        | true => rw [hκ t hh] at e; cases e
      have hh := hr.2 hκ0
      by_cases hEt : E (.sv t)
      · rcases hE t hEt with g | g
        · rw [g] at e; cases e
        · have p := g v hv'
          exact ⟨hh.rel.mono_pl hle p, hh.nodup, by rw [rs_pl v c p]; intro B hB; cases hB⟩
      · exact hh.xfer hle fun B hB => ⟨(keep B _ hB hEt).1, (keep B _ hB hEt).2.1⟩
  · rcases hL s v hv with ⟨h1, h2, h3, h4⟩ | h1
    · obtain ⟨B, cc, T, g1, g2, g3, g4⟩ := h.loc s v h1
      obtain ⟨k1, k2, k3⟩ := keep B _ g2 h2
      exact ⟨B, cc, T, h4.trans g1, k1, k3.trans g3, g4.xfer hle fun B hB => ⟨(keep B _ hB h3).1, (keep B _ hB h3).2.1⟩⟩
    · exact h1
  · rcases hO id x hx with ⟨h1, h2, h3, h4⟩ | h1 | h1
    · rcases h.heap.obj id x h1 with ⟨B, s, l, g1, g2, g3, g4⟩ | g
      · obtain ⟨k1, k2, k3⟩ := keep B _ g2 h2
        have : id < G.nx := by rw [h.heap.nx]; exact g3
        exact .inl ⟨B, s, l, (hle.ob id this).trans g1, k1, h4, g4.xfer hle k3 fun B hB => ⟨(keep B _ hB h3).1, (keep B _ hB h3).2.1⟩⟩
      · exact .inr g
    · exact .inl h1
    · exact .inr h1
  · obtain ⟨r, g1, g2, g3⟩ := h.marks d hd
    obtain ⟨k1, k2, k3⟩ := keep r _ g2 hmk
    exact ⟨r, g1, k1, k3.trans g3⟩

/-- Only the tape turned. -/
theorem Rel.tape (h : Rel C vars nt G lb κ w a m) (e : w'.heap = w.heap) : Rel C vars nt G lb κ w' a m := by
  have hc : ∀ B o, w'.cell? ⟨B, o, none⟩ = w.cell? ⟨B, o, none⟩ := fun B o => World.cell?_congr (by rw [e]) o
  have hf : ∀ B o, w'.frozen? ⟨B, o, none⟩ = w.frozen? ⟨B, o, none⟩ := fun B o => World.frozen?_congr (by rw [e]) o
  have ok := h.heap.ok
  exact Rel.xfer h (.refl G) (fun _ h => h) (fun _ => False) (fun _ h => h.elim) (fun h => h) (fun B x hx _ => ⟨hx, rfl, by rw [e]⟩)
    { ic := fun B o v hv => (hc B o).trans (ok.ic B o v hv), tlic := ok.tlic, tl := fun B e l hB o ho hl => by rw [hc, hf]; exact ok.tl B e l hB o ho hl, lt := fun B x hx => by rw [e]; exact ok.lt B x hx, tllt := fun B x hx => by rw [e]; exact ok.tllt B x hx, excl := ok.excl }
    h.heap.nx (fun _ _ _ _ => rfl) (fun s v hv => .inl ⟨hv, fun h => h, fun h => h, rfl⟩)
    (fun id x hx => by
      rcases h.heap.obj id x hx with ⟨B, s, l, g1, g2, g3, g4⟩ | g
      · exact .inl ⟨hx, fun h => h, fun h => h, g3⟩
      · exact .inr (.inr g))

/-- Blocks that are handed on: to an object, a local. -/
theorem own_give {l : List Nat} {x y : Own} {B : Nat} (h : G.own B = some y) (hn : B ∉ l) : (G.give l x).own B = some y := by
  show (if B ∈ l then some x else G.own B) = _
  rw [if_neg hn]; exact h
theorem own_give_in {l : List Nat} {x : Own} {B : Nat} (h : B ∈ l) : (G.give l x).own B = some x := if_pos h

theorem World.alloc_size {ob : Go.Obj} : (w.alloc ob).heap.size = w.heap.size + 1 := by
  show (w.heap.push ob).size = _
  simp
/-- A new block that nobody has a claim to. -/
theorem WOk.alloc (ok : WOk G w) {ob : Go.Obj} {f : Nat → Option Own} (hf : ∀ B x, f B = some x → B = w.heap.size ∨ G.own B = some x ∨ (B < w.heap.size ∧ (∀ id, x ≠ .ob id) ∧ (∀ s, x ≠ .lc s) ∧ x ≠ .mk))
    {nx : Nat} {obs : Nat → Option (Nat × Nat × Nat)} : WOk { G with nx := nx, ob := obs, own := f } (w.alloc ob) := by
  have hlt : ∀ B o v, G.ic B o = some v → B < w.heap.size := fun B o v h => by
    obtain ⟨c, T, fz, hb, _⟩ := World.block_of_cell (ok.ic B o v h)
    exact lt_of_block hb
  refine { ic := fun B o v hv => ?_, tlic := ok.tlic, tl := fun B e l hB o ho hl => ?_, lt := fun B x hx => ?_, tllt := fun B x hx => ?_, excl := fun B hB => ?_ }
  · have := hlt B o v hv
    rw [World.cell?_congr (World.alloc_old this)]
    exact ok.ic B o v hv
  · have := ok.tllt B _ hB
    rw [World.cell?_congr (World.alloc_old this), World.frozen?_congr (World.alloc_old this)]
    exact ok.tl B e l hB o ho hl
  · have hs : (w.alloc ob).heap.size = w.heap.size + 1 := World.alloc_size
    rcases hf B x hx with h | h | h
    · omega
    · have := ok.lt B x h; omega
    · omega
  · have hs : (w.alloc ob).heap.size = w.heap.size + 1 := World.alloc_size
    have := ok.tllt B x hx
    omega
  · have key : ∀ x, f B = some x → ((∃ id, x = .ob id) ∨ (∃ s, x = .lc s) ∨ x = .mk) → (∀ o, G.ic B o = none) ∧ G.tl B = none := by
      intro x hx hk
      rcases hf B x hx with h | h | ⟨_, h1, h2, h3⟩
      · subst h
        refine ⟨fun o => ?_, ?_⟩
        · cases e : G.ic w.heap.size o with
          | none => rfl
          | some v => exact absurd (hlt _ _ _ e) (Nat.lt_irrefl _)
        · cases e : G.tl w.heap.size with
          | none => rfl
          | some x => exact absurd (ok.tllt _ _ e) (Nat.lt_irrefl _)
      · refine ok.excl B ?_
        rcases hk with ⟨id, rfl⟩ | ⟨s, rfl⟩ | rfl
        · exact .inl ⟨id, h⟩
        · exact .inr (.inl ⟨s, h⟩)
        · exact .inr (.inr h)
      · rcases hk with ⟨id, rfl⟩ | ⟨s, rfl⟩ | rfl
        · exact absurd rfl (h1 id)
        · exact absurd rfl (h2 s)
        · exact absurd rfl h3
    rcases hB with ⟨id, hB⟩ | ⟨s, hB⟩ | hB
    · exact key _ hB (.inl ⟨id, rfl⟩)
    · exact key _ hB (.inr (.inl ⟨s, rfl⟩))
    · exact key _ hB (.inr (.inr rfl))

/-- A block that is an object's, a local's, turned. -/
theorem WOk.upd (ok : WOk G w) {B0 : Nat} {ob : Go.Obj} (h0 : (∀ o, G.ic B0 o = none) ∧ G.tl B0 = none) {f : Nat → Option Own} (hf : ∀ B x, f B = some x → G.own B = some x ∨ (B < w.heap.size ∧ (∀ id, x ≠ .ob id) ∧ (∀ s, x ≠ .lc s) ∧ x ≠ .mk)) :
    WOk { G with own := f } (w.upd B0 ob) := by
  have hs : (w.upd B0 ob).heap.size = w.heap.size := World.upd_size
  refine { ic := fun B o v hv => ?_, tlic := ok.tlic, tl := fun B e l hB o ho hl => ?_, lt := fun B x hx => ?_, tllt := fun B x hx => ?_, excl := fun B hB => ?_ }
  · have hv' : G.ic B o = some v := hv
    have : B ≠ B0 := fun e => by subst e; rw [h0.1 o] at hv'; cases hv'
    rw [World.cell?_congr (World.upd_other this)]
    exact ok.ic B o v hv
  · have hB' : G.tl B = some (e, l) := hB
    have : B ≠ B0 := fun e => by subst e; rw [h0.2] at hB'; cases hB'
    rw [World.cell?_congr (World.upd_other this), World.frozen?_congr (World.upd_other this)]
    exact ok.tl B e l hB o ho hl
  · rcases hf B x hx with h | h
    · have := ok.lt B x h; omega
    · omega
  · have := ok.tllt B x hx; omega
  · refine ok.excl B ?_
    rcases hB with ⟨id, hB⟩ | ⟨s, hB⟩ | hB
    · rcases hf B _ hB with h | ⟨_, h, _, _⟩
      · exact .inl ⟨id, h⟩
      · exact absurd rfl (h id)
    · rcases hf B _ hB with h | ⟨_, _, h, _⟩
      · exact .inr (.inl ⟨s, h⟩)
      · exact absurd rfl (h s)
    · rcases hf B _ hB with h | ⟨_, _, _, h⟩
      · exact .inr (.inr h)
      · exact absurd rfl h
end
end Go.Mu
end
section
/- An object is made or turned; a local is made or turned. -/
set_option linter.unusedSimpArgs false
set_option linter.unusedVariables false
set_option linter.constructorNameAsVariable false
namespace Go.Mu
section
variable {C : Cfg} {vars nt : Nat} {G G' : Gh} {lb lb' : Nat → Option Nat} {κ κ' : Nat → Bool} {w w' : World} {a : Act} {m : M} {o : Oper} {v : V} {P : Program}

/-- Blocks that a slot had which has been taken up. -/
def Taken (G : Gh) (κ : Nat → Bool) (l : List Nat) : Prop := ∀ B ∈ l, ∃ t, G.own B = some (.sv t) ∧ κ t = true

def Gh.newOb (G : Gh) (B sz : Nat) (l : List Nat) : Gh :=
  { G with nx := G.nx + 1, ob := fun id => if id = G.nx then some (B, 0, sz) else G.ob id, own := fun b => if b = B then some (.ob G.nx) else if b ∈ l then some (.obIn G.nx) else G.own b }

theorem Rel.newOb (h : Rel C vars nt G lb κ w a m) (hκ : ∀ t, κ t = true → κ' t = true) {l : List Nat} (hl : Taken G κ' l) {ob : Go.Obj} {x : Obj} {sz : Nat}
    (hx : ObjRel C (G.newOb w.heap.size sz l) (w.alloc ob) w.heap.size 0 sz m.st.nx x) :
    Rel C vars nt (G.newOb w.heap.size sz l) lb κ' (w.alloc ob) a { m with st := m.st.new x } ∧ Keeps G w (w.alloc ob) ∧ Ext G (G.newOb w.heap.size sz l) w := by
  have ok := h.heap.ok
  have hnx := h.heap.nx
  have hlsz : ∀ B ∈ l, B < w.heap.size := fun B hB => by obtain ⟨t, h1, _⟩ := hl B hB; exact ok.lt B _ h1
  have own : ∀ B y, G.own B = some y → B ∉ l → (G.newOb w.heap.size sz l).own B = some y := fun B y hB hn => by
    have := ok.lt B y hB
    show (if B = w.heap.size then _ else if B ∈ l then _ else G.own B) = _
    rw [if_neg (by omega), if_neg hn]; exact hB
  have hle : GLe G (G.newOb w.heap.size sz l) := ⟨fun _ _ _ h => h, Nat.le_succ _, fun id hid => if_neg (by omega)⟩
  refine ⟨?_, ⟨by rw [World.alloc_size]; omega, fun B hB _ => World.alloc_old hB, rfl, rfl⟩, ⟨hle, fun B hB => ⟨own B _ hB fun hn => ?_, rfl, fun _ => rfl⟩, fun B hB ho => ?_⟩⟩
  · refine Rel.xfer h hle hκ (fun y => ∃ t, y = .sv t ∧ κ' t = true) (fun t ⟨t', e, ht⟩ => by cases e; exact .inl ht) (fun ⟨t, e, _⟩ => by cases e) (fun B y hB hE => ?_) ?_ ?_ (fun _ _ _ _ => rfl)
      (fun s v hv => .inl ⟨hv, fun ⟨_, e, _⟩ => (by cases e), fun ⟨_, e, _⟩ => (by cases e), rfl⟩) (fun id y hy => ?_)
    · refine ⟨own B y hB fun hn => ?_, rfl, World.alloc_old (ok.lt B y hB)⟩
      obtain ⟨t, h1, h2⟩ := hl B hn
      rw [hB] at h1; cases h1
      exact hE ⟨t, rfl, h2⟩
    · refine ok.alloc (f := (G.newOb w.heap.size sz l).own) (fun B y hB => ?_)
      have hB' : (if B = w.heap.size then some (Own.ob G.nx) else if B ∈ l then some (.obIn G.nx) else G.own B) = some y := hB
      by_cases e : B = w.heap.size
      · exact .inl e
      · rw [if_neg e] at hB'
        by_cases e2 : B ∈ l
        · rw [if_pos e2] at hB'
          cases hB'
          exact .inr (.inr ⟨hlsz B e2, fun _ => by simp, fun _ => by simp, by simp⟩)
        · rw [if_neg e2] at hB'
          exact .inr (.inl hB')
    · show G.nx + 1 = m.st.nx + 1
      rw [hnx]
    · rcases St.get_new hy with ⟨rfl, rfl⟩ | ⟨h1, h2⟩
      · refine .inr (.inl ⟨w.heap.size, 0, sz, if_pos hnx.symm, ?_, Nat.lt_succ_self _, hx⟩)
        show (if _ then _ else _) = _
        rw [if_pos rfl, hnx]
      · rcases h.heap.obj id y h2 with ⟨B, s, l', g1, g2, g3, g4⟩ | g
        · exact .inl ⟨h2, fun ⟨_, e, _⟩ => (by cases e), fun ⟨_, e, _⟩ => (by cases e), Nat.lt_succ_of_lt g3⟩
        · exact .inr (.inr g)
  · obtain ⟨t, h1, _⟩ := hl B hn
    rw [hB] at h1; cases h1
  · show (if B = w.heap.size then _ else if B ∈ l then _ else G.own B) = _
    rw [if_neg (by omega), if_neg (fun hn => by obtain ⟨t, h1, _⟩ := hl B hn; rw [ho] at h1; cases h1)]
    exact ho

theorem Rel.updOb (h : Rel C vars nt G lb κ w a m) (hκ : ∀ t, κ t = true → κ' t = true) {l : List Nat} (hl : Taken G κ' l) {id B s lim : Nat} (hob : G.ob id = some (B, s, lim)) (hown : G.own B = some (.ob id)) (hid : id < m.st.nx) {ob : Go.Obj} {x : Obj}
    (hx : ObjRel C (G.give l (.obIn id)) (w.upd B ob) B s lim id x) :
    Rel C vars nt (G.give l (.obIn id)) lb κ' (w.upd B ob) a { m with st := m.st.put id x } ∧ Keeps G w (w.upd B ob) ∧ Ext G (G.give l (.obIn id)) w := by
  have ok := h.heap.ok
  have hlsz : ∀ B ∈ l, B < w.heap.size := fun B hB => by obtain ⟨t, h1, _⟩ := hl B hB; exact ok.lt B _ h1
  have hnl : ∀ B y, G.own B = some y → (∀ t, y = .sv t → κ' t = false) → B ∉ l := fun B y hB hy hn => by
    obtain ⟨t, h1, h2⟩ := hl B hn
    rw [hB] at h1; cases h1
    rw [hy t rfl] at h2; cases h2
  have hle : GLe G (G.give l (.obIn id)) := ⟨fun _ _ _ h => h, Nat.le_refl _, fun _ _ => rfl⟩
  refine ⟨?_, ⟨by rw [World.upd_size]; exact Nat.le_refl _, fun B' hB' ho => World.upd_other fun e => ?_, rfl, rfl⟩, ⟨hle, fun B' hB' => ⟨own_give hB' (hnl B' _ hB' fun t e => by cases e), rfl, fun _ => rfl⟩, fun B' hB' ho => ?_⟩⟩
  · refine Rel.xfer h hle hκ (fun y => (∃ t, y = .sv t ∧ κ' t = true) ∨ y = .ob id ∨ y = .obIn id) (fun t ht => ?_) (fun ht => (by rcases ht with ⟨_, e, _⟩ | e | e <;> cases e)) (fun B' y hB' hE => ?_) ?_ h.heap.nx (fun _ _ _ _ => rfl)
      (fun s v hv => .inl ⟨hv, fun ht => (by rcases ht with ⟨_, e, _⟩ | e | e <;> cases e), fun ht => (by rcases ht with ⟨_, e, _⟩ | e | e <;> cases e), rfl⟩) (fun id' y hy => ?_)
    · rcases ht with ⟨t', e, ht⟩ | e | e
      · cases e; exact .inl ht
      · cases e
      · cases e
    · refine ⟨own_give hB' (hnl B' y hB' fun t e => ?_), rfl, World.upd_other fun e => ?_⟩
      · cases hh : κ' t with
        | false => rfl
        | true => exact absurd (.inl ⟨t, e, hh⟩) hE
      · subst e
        rw [hown] at hB'; cases hB'
        exact hE (.inr (.inl rfl))
    · refine ok.upd (ok.excl B (.inl ⟨id, hown⟩)) (f := (G.give l (.obIn id)).own) (fun B' y hB' => ?_)
      have hB'' : (if B' ∈ l then some (Own.obIn id) else G.own B') = some y := hB'
      by_cases e2 : B' ∈ l
      · rw [if_pos e2] at hB''
        cases hB''
        exact .inr ⟨hlsz B' e2, fun _ => by simp, fun _ => by simp, by simp⟩
      · rw [if_neg e2] at hB''
        exact .inl hB''
    · rcases St.get_put hy with ⟨rfl, rfl⟩ | ⟨h1, h2⟩
      · exact .inr (.inl ⟨B, s, lim, hob, own_give hown (hnl B _ hown fun t e => by cases e), hid, hx⟩)
      · rcases h.heap.obj id' y h2 with ⟨B', s', l', g1, g2, g3, g4⟩ | g
        · refine .inl ⟨h2, fun ht => ?_, fun ht => ?_, g3⟩ <;> rcases ht with ⟨_, e, _⟩ | e | e <;> cases e <;> exact h1 rfl
        · exact .inr (.inr g)
  · subst e
    rw [hown] at ho
    rcases ho with e | e <;> cases e
  · show (if B' ∈ l then _ else G.own B') = _
    rw [if_neg (fun hn => by obtain ⟨t, h1, _⟩ := hl B' hn; rw [ho] at h1; cases h1)]
    exact ho

def Gh.newLc (G : Gh) (B s : Nat) (l : List Nat) : Gh := { G with own := fun b => if b = B then some (.lc s) else if b ∈ l then some (.lcIn s) else G.own b }

theorem Rel.newLc (h : Rel C vars nt G lb κ w a m) (hκ : ∀ t, κ t = true → κ' t = true) {l : List Nat} (hl : Taken G κ' l) {cc : Array Value} {T : TypeId} {s : Nat} {v : V} (hs : ∀ t o, slotV m t ≠ some (.lp s o))
    (hx : HeldL (G.newLc w.heap.size s l) (.lcIn s) (cellsOf v) cc.toList) :
    Rel C vars nt (G.newLc w.heap.size s l) (fun t => if t = s then some w.heap.size else lb t) κ' (w.alloc (.cells cc T (0, 0))) a { m with L := setE m.L s v } ∧ Keeps G w (w.alloc (.cells cc T (0, 0))) ∧ Ext G (G.newLc w.heap.size s l) w := by
  have ok := h.heap.ok
  have hlsz : ∀ B ∈ l, B < w.heap.size := fun B hB => by obtain ⟨t, h1, _⟩ := hl B hB; exact ok.lt B _ h1
  have own : ∀ B y, G.own B = some y → B ∉ l → (G.newLc w.heap.size s l).own B = some y := fun B y hB hn => by
    have := ok.lt B y hB
    show (if B = w.heap.size then _ else if B ∈ l then _ else G.own B) = _
    rw [if_neg (by omega), if_neg hn]; exact hB
  have hle : GLe G (G.newLc w.heap.size s l) := ⟨fun _ _ _ h => h, Nat.le_refl _, fun id hid => rfl⟩
  refine ⟨?_, ⟨by rw [World.alloc_size]; omega, fun B hB _ => World.alloc_old hB, rfl, rfl⟩, ⟨hle, fun B hB => ⟨own B _ hB fun hn => ?_, rfl, fun _ => rfl⟩, fun B hB ho => ?_⟩⟩
  · refine Rel.xfer h hle hκ (fun y => (∃ t, y = .sv t ∧ κ' t = true) ∨ y = .lc s ∨ y = .lcIn s) (fun t ht => ?_) (fun ht => (by rcases ht with ⟨_, e, _⟩ | e | e <;> cases e)) (fun B y hB hE => ?_) ?_ h.heap.nx (fun t s' o ho => ?_)
      (fun s' v' hv => ?_) (fun id y hy => ?_)
    · rcases ht with ⟨t', e, ht⟩ | e | e
      · cases e; exact .inl ht
      · cases e
      · cases e
    · refine ⟨own B y hB fun hn => ?_, rfl, World.alloc_old (ok.lt B y hB)⟩
      obtain ⟨t, h1, h2⟩ := hl B hn
      rw [hB] at h1; cases h1
      exact hE (.inl ⟨t, rfl, h2⟩)
    · refine ok.alloc (f := (G.newLc w.heap.size s l).own) (fun B y hB => ?_)
      have hB' : (if B = w.heap.size then some (Own.lc s) else if B ∈ l then some (.lcIn s) else G.own B) = some y := hB
      by_cases e : B = w.heap.size
      · exact .inl e
      · rw [if_neg e] at hB'
        by_cases e2 : B ∈ l
        · rw [if_pos e2] at hB'
          cases hB'
          exact .inr (.inr ⟨hlsz B e2, fun _ => by simp, fun _ => by simp, by simp⟩)
        · rw [if_neg e2] at hB'
          exact .inr (.inl hB')
    · have hne : s' ≠ s := fun e => by subst e; exact hs t o ho
      show (if s' = s then _ else lb s') = _
      rw [if_neg hne]
    · simp only [getE_setE] at hv
      by_cases e : s = s'
      · subst e
        rw [if_pos rfl] at hv
        cases hv
        exact .inr ⟨w.heap.size, cc, T, if_pos rfl, if_pos rfl, World.alloc_new, hx⟩
      · rw [if_neg e] at hv
        refine .inl ⟨hv, fun ht => ?_, fun ht => ?_, if_neg (Ne.symm e)⟩ <;> rcases ht with ⟨_, e', _⟩ | e' | e' <;> cases e' <;> exact e rfl
    · rcases h.heap.obj id y hy with ⟨B, s, l', g1, g2, g3, g4⟩ | g
      · exact .inl ⟨hy, fun ht => (by rcases ht with ⟨_, e, _⟩ | e | e <;> cases e), fun ht => (by rcases ht with ⟨_, e, _⟩ | e | e <;> cases e), g3⟩
      · exact .inr (.inr g)
  · obtain ⟨t, h1, _⟩ := hl B hn
    rw [hB] at h1; cases h1
  · show (if B = w.heap.size then _ else if B ∈ l then _ else G.own B) = _
    rw [if_neg (by omega), if_neg (fun hn => by obtain ⟨t, h1, _⟩ := hl B hn; rw [ho] at h1; cases h1)]
    exact ho

theorem Rel.updLc (h : Rel C vars nt G lb κ w a m) (hκ : ∀ t, κ t = true → κ' t = true) {l : List Nat} (hl : Taken G κ' l) {s B : Nat} {cc : Array Value} {T : TypeId} {v : V} (hlb : lb s = some B) (hown : G.own B = some (.lc s))
    (hx : HeldL (G.give l (.lcIn s)) (.lcIn s) (cellsOf v) cc.toList) :
    Rel C vars nt (G.give l (.lcIn s)) lb κ' (w.upd B (.cells cc T (0, 0))) a { m with L := setE m.L s v } ∧ Keeps G w (w.upd B (.cells cc T (0, 0))) ∧ Ext G (G.give l (.lcIn s)) w := by
  have ok := h.heap.ok
  have hlsz : ∀ B ∈ l, B < w.heap.size := fun B hB => by obtain ⟨t, h1, _⟩ := hl B hB; exact ok.lt B _ h1
  have hnl : ∀ B y, G.own B = some y → (∀ t, y = .sv t → κ' t = false) → B ∉ l := fun B y hB hy hn => by
    obtain ⟨t, h1, h2⟩ := hl B hn
    rw [hB] at h1; cases h1
    rw [hy t rfl] at h2; cases h2
  have hle : GLe G (G.give l (.lcIn s)) := ⟨fun _ _ _ h => h, Nat.le_refl _, fun _ _ => rfl⟩
  refine ⟨?_, ⟨by rw [World.upd_size]; exact Nat.le_refl _, fun B' hB' ho => World.upd_other fun e => ?_, rfl, rfl⟩, ⟨hle, fun B' hB' => ⟨own_give hB' (hnl B' _ hB' fun t e => by cases e), rfl, fun _ => rfl⟩, fun B' hB' ho => ?_⟩⟩
  · refine Rel.xfer h hle hκ (fun y => (∃ t, y = .sv t ∧ κ' t = true) ∨ y = .lc s ∨ y = .lcIn s) (fun t ht => ?_) (fun ht => (by rcases ht with ⟨_, e, _⟩ | e | e <;> cases e)) (fun B' y hB' hE => ?_) ?_ h.heap.nx (fun _ _ _ _ => rfl)
      (fun s' v' hv => ?_) (fun id' y hy => ?_)
    · rcases ht with ⟨t', e, ht⟩ | e | e
      · cases e; exact .inl ht
      · cases e
      · cases e
    · refine ⟨own_give hB' (hnl B' y hB' fun t e => ?_), rfl, World.upd_other fun e => ?_⟩
      · cases hh : κ' t with
        | false => rfl
        | true => exact absurd (.inl ⟨t, e, hh⟩) hE
      · subst e
        rw [hown] at hB'; cases hB'
        exact hE (.inr (.inl rfl))
    · refine ok.upd (ok.excl B (.inr (.inl ⟨s, hown⟩))) (f := (G.give l (.lcIn s)).own) (fun B' y hB' => ?_)
      have hB'' : (if B' ∈ l then some (Own.lcIn s) else G.own B') = some y := hB'
      by_cases e2 : B' ∈ l
      · rw [if_pos e2] at hB''
        cases hB''
        exact .inr ⟨hlsz B' e2, fun _ => by simp, fun _ => by simp, by simp⟩
      · rw [if_neg e2] at hB''
        exact .inl hB''
    · simp only [getE_setE] at hv
      by_cases e : s = s'
      · subst e
        rw [if_pos rfl] at hv
        cases hv
        exact .inr ⟨B, cc, T, hlb, own_give hown (hnl B _ hown fun t e => by cases e), World.upd_same (ok.lt B _ hown), hx⟩
      · rw [if_neg e] at hv
        refine .inl ⟨hv, fun ht => ?_, fun ht => ?_, rfl⟩ <;> rcases ht with ⟨_, e', _⟩ | e' | e' <;> cases e' <;> exact e rfl
    · rcases h.heap.obj id' y hy with ⟨B', s', l', g1, g2, g3, g4⟩ | g
      · exact .inl ⟨hy, fun ht => (by rcases ht with ⟨_, e, _⟩ | e | e <;> cases e), fun ht => (by rcases ht with ⟨_, e, _⟩ | e | e <;> cases e), g3⟩
      · exact .inr (.inr g)
  · subst e
    rw [hown] at ho
    rcases ho with e | e <;> cases e
  · show (if B' ∈ l then _ else G.own B') = _
    rw [if_neg (fun hn => by obtain ⟨t, h1, _⟩ := hl B' hn; rw [ho] at h1; cases h1)]
    exact ho
end
end Go.Mu
end
section
/- Cells read and written. -/
set_option linter.unusedSimpArgs false
set_option linter.unusedVariables false
set_option linter.constructorNameAsVariable false
namespace Go.Mu
section
variable {C : Cfg} {vars nt : Nat} {G G' : Gh} {lb lb' : Nat → Option Nat} {κ κ' : Nat → Bool} {w w' : World} {a : Act} {m : M} {o : Oper} {v : V} {P : Program}

theorem stor_good (h : stor v = true) : good v = true := by cases v <;> simp_all [stor, good]
theorem stor_plain (h : stor v = true) : (∀ s o, v ≠ .lp s o) ∧ v ≠ .u := by cases v <;> simp_all [stor]

theorem rss_nil_right (cs : List V) : rss cs [] = [] := by cases cs <;> simp only [rss]
theorem rss_append : ∀ (xs ys : List V) (l q : List Value), l.length = xs.length → rss (xs ++ ys) (l ++ q) = rss xs l ++ rss ys q
  | [], ys, l, q, h => by
    have : l = [] := List.length_eq_zero_iff.1 h
    subst this; rfl
  | x :: r, ys, l, q, h => by
    cases l with
    | nil => simp at h
    | cons c t =>
      simp only [List.cons_append, rss, rss_append r ys t q (by simpa using h), List.append_assoc]
theorem rss_take_drop (cs : List V) (l : List Value) (h : l.length = cs.length) (n : Nat) : rss cs l = rss (cs.take n) (l.take n) ++ rss (cs.drop n) (l.drop n) := by
  rw [← rss_append _ _ _ _ (by simp [h]), List.take_append_drop, List.take_append_drop]

/-- The cells of a value that may lie in memory. -/
theorem cells_of {c : Value} (h : VRel G v c) (hs : stor v = true) : c.cells.toList.length = (cellsOf v).length ∧ (∀ (j : Nat) u x, (cellsOf v)[j]? = some u → c.cells.toList[j]? = some x → VRel G u x) ∧ (∀ u ∈ cellsOf v, isCell u = true) ∧
    rss (cellsOf v) c.cells.toList = rs v c ∧ (∀ x ∈ c.cells.toList, x.oneCell' = true) := by
  by_cases ha : ∃ cs, v = .ag cs
  · obtain ⟨cs, rfl⟩ := ha
    obtain ⟨l, rfl, h1, h2, h3⟩ := h.inv_ag
    refine ⟨h1, h3, h2, by simp [cellsOf, rs, Value.cells], fun x hx => ?_⟩
    have hx' : x ∈ l := by simpa [Value.cells] using hx
    obtain ⟨j, hj⟩ := List.mem_iff_getElem?.1 hx'
    obtain ⟨u, hu⟩ := get_of_len h1.symm hj
    exact ((h3 j u x hu hj).oneCell (h2 u (List.mem_of_getElem? hu))).1
  · have hc : isCell v = true := by cases v <;> simp_all [stor, isCell]
    have hco : cellsOf v = [v] := by cases v <;> first | rfl | exact absurd ⟨_, rfl⟩ ha
    obtain ⟨h1, h2⟩ := h.oneCell hc
    rw [hco, h2]
    refine ⟨rfl, fun j u x hu hx => ?_, fun u hu => ?_, by simp [rss], fun x hx => ?_⟩
    · cases j with
      | zero => simp at hu hx; subst hu; subst hx; exact h
      | succ j => simp at hu
    · simp at hu; subst hu; exact hc
    · simp at hx; subst hx; exact h1
theorem heldL_of {c : Value} (h : VRel G v c) (hs : stor v = true) (hn : (rs v c).Nodup) {x : Own} (hle : GLe G G') (ht : ∀ B ∈ rs v c, G'.tl B = G.tl B) (ho : ∀ B ∈ rs v c, G'.own B = some x) : HeldL G' x (cellsOf v) c.cells.toList := by
  obtain ⟨h1, h2, h3, h4, _⟩ := cells_of h hs
  refine ⟨h1, fun j u y hu hy => (h2 j u y hu hy).mono hle fun B hB => ht B ?_, h3, by rw [h4]; exact hn, by rw [h4]; exact ho⟩
  rw [← h4]; exact rss_get hu hy hB

theorem run_loadCellsFrom {P : Program} {w : World} {B o : Nat} : ∀ (l : List Value) (i : Nat) (acc : Array Value), (∀ (j : Nat) v, l[j]? = some v → w.cell? ⟨B, o + i + j, none⟩ = some v) →
    (loadCellsFrom ⟨B, o, none⟩ i l.length acc).run P w = .ok (acc ++ l.toArray) w
  | [], i, acc, h => by simp [loadCellsFrom]
  | v :: r, i, acc, h => by
    have h0 := h 0 v (by simp)
    have ih := run_loadCellsFrom (P := P) (w := w) (B := B) (o := o) r (i + 1) (acc.push v) (fun j u hj => by
      have := h (j + 1) u (by simpa using hj)
      rwa [show o + i + (j + 1) = o + (i + 1) + j by omega] at this)
    simp only [Nat.add_zero] at h0
    simp only [List.length_cons, loadCellsFrom, Sem.run_bind, Addr.add_none, run_load, h0, Result.andThen_ok, ih, Result.ok.injEq, and_true]
    apply Array.ext'
    simp

/-- What a read of some cells gives. -/
theorem run_loadVar {t : TypeId} {cs : List V} {l : List Value} {B s off : Nat} (hl : l.length = cs.length) (hcell : ∀ c ∈ cs, isCell c = true) (hrel : ∀ (j : Nat) v x, cs[j]? = some v → l[j]? = some x → VRel G v x)
    (hc : ∀ (j : Nat) v, l[j]? = some v → w.cell? ⟨B, s + j, none⟩ = some v) (hp : part P t cs off = some v) :
    ∃ c, (loadVar t ⟨B, s + off, none⟩).run P w = .ok c w ∧ VRel G v c ∧ stor v = true ∧ ∃ n, cellsOf v = (cs.drop off).take n ∧ c.cells.toList = (l.drop off).take n ∧ rs v c = rss ((cs.drop off).take n) ((l.drop off).take n) := by
  unfold part at hp
  cases ha : aggT P t with
  | none => simp [ha] at hp
  | some b =>
    cases b with
    | true =>
      simp only [ha] at hp
      cases hle : leB (off + sizeT P t) cs.length with
      | false => simp [hle] at hp
      | true =>
        simp only [hle, cond_true, Option.some.injEq] at hp
        subst hp
        have hle' : off + sizeT P t ≤ cs.length := leB_iff.1 hle
        obtain ⟨d, hd, _⟩ := aggT_some ha
        have hcs : Cells G cs l := ⟨hl, hcell, hrel⟩
        refine ⟨.agg ((l.drop off).take (sizeT P t)).toArray, ?_, (hcs.cut off (sizeT P t)).ag, rfl, sizeT P t, rfl, by simp [Value.cells], by simp [rs]⟩
        have := run_loadCellsFrom (P := P) (w := w) (B := B) (o := s + off) ((l.drop off).take (sizeT P t)) 0 #[] (fun j u hj => by
          rw [List.getElem?_take] at hj
          by_cases e : j < sizeT P t
          · rw [if_pos e, List.getElem?_drop] at hj
            have := hc _ u hj
            rwa [show s + (off + j) = s + off + 0 + j by omega] at this
          · rw [if_neg e] at hj; cases hj)
        have hlen : ((l.drop off).take (sizeT P t)).length = sizeT P t := by simp; omega
        rw [hlen] at this
        simp only [loadVar, Sem.run_bind, run_isAgg ha, Result.andThen_ok, if_true, run_size hd, loadCells, this, Sem.run_pure]
        simp
    | false =>
      simp only [ha, nth_eq] at hp
      obtain ⟨c, hc'⟩ := get_of_len hl hp
      have hcl : isCell v = true := hcell v (List.mem_of_getElem? hp)
      have hr := hrel off v c hp hc'
      have hoff : off < cs.length := by
        rcases Nat.lt_or_ge off cs.length with g | g
        · exact g
        · rw [List.getElem?_eq_none g] at hp; cases hp
      have e1 : (cs.drop off).take 1 = [v] := by
        rw [List.drop_eq_getElem_cons hoff]
        simp only [List.take_succ_cons, List.take_zero, List.cons.injEq, and_true]
        exact Option.some.inj ((List.getElem?_eq_getElem hoff).symm.trans hp)
      have hoff' : off < l.length := by omega
      have e2 : (l.drop off).take 1 = [c] := by
        rw [List.drop_eq_getElem_cons hoff']
        simp only [List.take_succ_cons, List.take_zero, List.cons.injEq, and_true]
        exact Option.some.inj ((List.getElem?_eq_getElem hoff').symm.trans hc')
      refine ⟨c, ?_, hr, by cases v <;> simp_all [isCell, stor], 1, ?_, ?_, ?_⟩
      · simp only [loadVar, Sem.run_bind, run_isAgg ha, Result.andThen_ok, Bool.false_eq_true, if_false, run_load, hc off c hc']
      · rw [e1]; cases v <;> simp_all [isCell, cellsOf]
      · rw [e2, (hr.oneCell hcl).2]
      · rw [e1, e2]; simp [rss]

theorem HeldL.nodup_part {x : Own} {cs : List V} {l : List Value} (h : HeldL G x cs l) (off n : Nat) : (rss ((cs.drop off).take n) ((l.drop off).take n)).Nodup ∧ ∀ B ∈ rss ((cs.drop off).take n) ((l.drop off).take n), G.own B = some x := by
  have e1 := rss_take_drop cs l h.len off
  have e2 := rss_take_drop (cs.drop off) (l.drop off) (by simp [h.len]) n
  have h1 := h.nodup
  have h2 := h.own
  rw [e1, e2] at h1 h2
  exact ⟨(List.nodup_append.1 (List.nodup_append.1 h1).2.1).1, fun B hB => h2 B (by simp [hB])⟩

/-- Cells behind a pointer. -/
theorem obj_cells (h : Rel C vars nt G lb κ w a m) {id : Nat} {cs : List V} (hg : m.st.get id = some (.cells cs)) {B s l : Nat} (hob : G.ob id = some (B, s, l)) :
    ∃ cc T, w.heap[B]? = some (.cells cc T (0, 0)) ∧ l = cc.size ∧ s + cs.length ≤ l ∧ HeldL G (.obIn id) cs ((cc.toList.drop s).take cs.length) ∧ G.own B = some (.ob id) ∧ id < m.st.nx := by
  rcases h.heap.obj id _ hg with ⟨B', s', l', g1, g2, g3, cc, T, g4, g5, g6, g7⟩ | g
  · rw [hob] at g1; cases g1
    exact ⟨cc, T, g4, g5, g6, g7, g2, g3⟩
  · cases g

theorem win_cell {cc : Array Value} {T : TypeId} {fz : Nat × Nat} {B s n j : Nat} {v : Value} (hB : w.heap[B]? = some (.cells cc T fz)) (h : ((cc.toList.drop s).take n)[j]? = some v) : w.cell? ⟨B, s + j, none⟩ = some v := by
  rw [World.cell?_block hB]
  rw [List.getElem?_take] at h
  by_cases e : j < n
  · rw [if_pos e, List.getElem?_drop, Array.getElem?_toList] at h
    exact h
  · rw [if_neg e] at h; cases h

theorem op_load_po (h : Rel C vars nt G lb κ w a m) {t : TypeId} {x : Operand} {id off : Nat} {cs : List V} (hop : o.op = .load t x) (hx : rdM false m x = some (.po id off)) (hg : m.st.get id = some (.cells cs)) (hv : part C.P t cs off = some v) :
    OpOk C vars nt G lb κ w a m m o (down v) := by
  obtain ⟨B, s, l, h1, h2, h3⟩ := rd_po h hx
  obtain ⟨cc, T, g1, g2, g3, g4, g5, g6⟩ := obj_cells h hg h2
  obtain ⟨c, k1, k2, k3⟩ := run_loadVar (P := C.P) (w := w) (B := B) (s := s) g4.len g4.cell g4.rel (fun j v hj => win_cell g1 hj) hv
  exact .of_plain h (c := c) (by simp only [execOp, hop, h3, Instr.loadAt, Instr.sureAddr, Sem.run_bind, Sem.run_pure, Result.andThen_ok, k1]) k2.down (pl_down v)

theorem op_load_ip (h : Rel C vars nt G lb κ w a m) {t : TypeId} {x : Operand} {off : Nat} {cs : List V} (hop : o.op = .load t x) (hx : rdM false m x = some (.ip cs off)) (hv : part C.P t cs off = some v) :
    OpOk C vars nt G lb κ w a m m o (down v) := by
  have hr := rd_vrel h hx rfl
  simp only [down] at hr
  obtain ⟨B, s, h1, h2, h3⟩ := hr.inv_ip
  -- the cells that never change
  let l : List Value := (List.range cs.length).map fun j => (G.ic B (s + j)).getD undef
  have hl : l.length = cs.length := by simp [l]
  have hlj : ∀ (j : Nat) c, l[j]? = some c → G.ic B (s + j) = some c := fun j c hj => by
    have hj' : j < cs.length := by
      rcases Nat.lt_or_ge j cs.length with g | g
      · exact g
      · rw [List.getElem?_eq_none (by omega)] at hj; cases hj
    obtain ⟨_, _, y, hy⟩ := h2 j cs[j] (List.getElem?_eq_getElem hj')
    simp only [l, List.getElem?_map, List.getElem?_range hj', Option.map_some, hy, Option.getD_some, Option.some.injEq] at hj
    rw [hy, hj]
  obtain ⟨c, k1, k2, k3⟩ := run_loadVar (P := C.P) (w := w) (G := G) (B := B) (s := s) (l := l) hl (fun c hc => by obtain ⟨j, hj⟩ := List.mem_iff_getElem?.1 hc; exact (h2 j c hj).2.1)
    (fun j v x hv hx => h3 j v x hv (hlj j x hx)) (fun j v hj => h.heap.ok.ic _ _ _ (hlj j v hj)) hv
  exact .of_plain h (c := c) (by simp only [execOp, hop, h1, Instr.loadAt, Instr.sureAddr, Sem.run_bind, Sem.run_pure, Result.andThen_ok, k1]) k2.down (pl_down v)

/-- A local's contents, read at a place. -/
theorem locPart_part {t : TypeId} {u : V} {off : Nat} (hv : locPart P t u off = some v) (hc : isAg u = true ∨ isCell u = true) : part P t (cellsOf u) off = some v := by
  by_cases ha : ∃ cs, u = .ag cs
  · obtain ⟨cs, rfl⟩ := ha
    simp only [locPart] at hv
    cases hb : (isAggT P t && Nat.beq off 0 && Nat.beq cs.length (sizeT P t)) with
    | false => simp only [hb, cond_false] at hv; exact hv
    | true =>
      simp only [hb, cond_true, Option.some.injEq] at hv
      subst hv
      simp only [Bool.and_eq_true] at hb
      obtain ⟨⟨h1, h2⟩, h3⟩ := hb
      have h2 := beq_true h2
      have h3 := beq_true h3
      subst h2
      have ha : aggT P t = some true := by
        unfold isAggT at h1
        cases e : aggT P t with
        | none => simp [e] at h1
        | some b => simp [e] at h1; rw [h1]
      simp only [part, ha, cellsOf, Nat.zero_add, List.drop_zero]
      rw [← h3, List.take_length, leB_iff.2 (Nat.le_refl _), cond_true]
  · have hco : cellsOf u = [u] := by cases u <;> first | rfl | exact absurd ⟨_, rfl⟩ ha
    have : (match aggT P t with | some false => bif Nat.beq off 0 then some u else none | _ => none) = some v := by
      cases u <;> first | exact hv | exact absurd ⟨_, rfl⟩ ha
    rw [hco]
    unfold part
    cases e : aggT P t with
    | none => simp [e] at this
    | some b =>
      cases b with
      | true => simp [e] at this
      | false =>
        simp only [e] at this ⊢
        cases hb : Nat.beq off 0 with
        | false => simp [hb] at this
        | true =>
          have := beq_true hb
          subst this
          simpa [nth] using this

theorem op_load_lp (h : Rel C vars nt G lb κ w a m) {t : TypeId} {x : Operand} {s off : Nat} {u : V} (hop : o.op = .load t x) (hx : rdM false m x = some (.lp s off)) (hg : getE m.L s = some u) (hv : locPart C.P t u off = some v) :
    OpOk C vars nt G lb κ w a m m o (down v) := by
  obtain ⟨B, h1, h2⟩ := rd_lp h hx
  obtain ⟨B', cc, T, g1, g2, g3, g4⟩ := h.loc s u hg
  rw [h1] at g1; cases g1
  have hc : isAg u = true ∨ isCell u = true := by
    by_cases ha : ∃ cs, u = .ag cs
    · obtain ⟨cs, rfl⟩ := ha; exact .inl rfl
    · have hco : cellsOf u = [u] := by cases u <;> first | rfl | exact absurd ⟨_, rfl⟩ ha
      exact .inr (g4.cell u (by rw [hco]; simp))
  obtain ⟨c, k1, k2, k3⟩ := run_loadVar (P := C.P) (w := w) (B := B) (s := 0) g4.len g4.cell g4.rel (fun j v hj => by rw [World.cell?_block g3, Nat.zero_add, ← Array.getElem?_toList]; exact hj) (locPart_part hv hc)
  rw [Nat.zero_add] at k1
  exact .of_plain h (c := c) (by simp only [execOp, hop, h2, Instr.loadAt, Instr.sureAddr, Sem.run_bind, Sem.run_pure, Result.andThen_ok, k1]) k2.down (pl_down v)
end
end Go.Mu
end
section
/- Stores, moving loads, new variables; and how an operation's step ends. -/
set_option linter.unusedSimpArgs false
set_option linter.unusedVariables false
set_option linter.constructorNameAsVariable false
namespace Go.Mu
section
variable {C : Cfg} {vars nt : Nat} {G G' : Gh} {lb lb' : Nat → Option Nat} {κ κ' : Nat → Bool} {w w' : World} {a : Act} {m m' : M} {o : Oper} {v : V} {P : Program}

/-- An operation does what the evaluator says, its value laid into its slot. -/
def StepOk (C : Cfg) (vars nt : Nat) (G : Gh) (lb : Nat → Option Nat) (κ : Nat → Bool) (w : World) (a : Act) (m : M) (o : Oper) : Prop :=
  ∃ w' G' lb' c nx, (execOp a.eval o).run C.P w = .ok nx w' ∧ (nx = .value c ∨ (nx = .skip ∧ c = undef)) ∧
    Rel C vars nt G' lb' (takes vars κ (uses o.op)) w' (a.put o.dst c) m ∧ Keeps G w w' ∧ Ext G G' w

theorem Rel.putO {d : Option Nat} {c : Value} (h : Rel C vars nt G lb κ w a m) (hd : ∀ t, d = some t → t < nt) (ho : OutRel G lb κ m v c) (hlt : ∀ B ∈ rs v c, B < w.heap.size) :
    ∃ G', Rel C vars nt G' lb κ w (a.put d c) (wrM vars m d v) ∧ GLe G G' ∧ (∀ B, G'.tl B = G.tl B ∧ ∀ o, G'.ic B o = G.ic B o) ∧ (∀ B, G'.own B = G.own B ∨ (Loose G κ m B ∧ B ∈ rs v c)) := by
  cases d with
  | none => exact ⟨G, h, .refl G, fun _ => ⟨rfl, fun _ => rfl⟩, fun _ => .inl rfl⟩
  | some t =>
    obtain ⟨G', h1, h2, h3, h4⟩ := h.put (hd t rfl) ho hlt
    exact ⟨G', h1.weaken (fun s hs => by by_cases e : t = s <;> simp_all), h2, h3, h4⟩

theorem StepOk.of_op (h : OpOk C vars nt G lb κ w a m m' o v) (hd : ∀ t, o.dst = some t → t < nt) : StepOk C vars nt G lb κ w a (wrM vars m' o.dst v) o := by
  obtain ⟨w', G', lb', c, nx, h1, h2, h3, h4, h5, h6, h7⟩ := h
  obtain ⟨G'', g1, g2, g3, g4⟩ := h3.putO hd h4 (fun B hB => (h5 B hB).1)
  refine ⟨w', G'', lb', c, nx, h1, h2, g1, h6, ⟨h7.le.trans g2, fun B hB => ?_, fun B hB hn => ?_⟩⟩
  · obtain ⟨e1, e2, e3⟩ := h7.fr B hB
    refine ⟨?_, (g3 B).1.trans e2, fun o => ((g3 B).2 o).trans (e3 o)⟩
    rcases g4 B with e | ⟨e, _⟩
    · exact e.trans e1
    · rcases e with e | ⟨t, e, _⟩ <;> rw [e1] at e <;> cases e
  · rcases g4 B with e | ⟨_, e⟩
    · exact e.trans (h7.free B hB hn)
    · exact absurd hn ((h5 B e).2 hB)

/-- What an operand takes up. -/
theorem taken_of (h : Rel C vars nt G lb κ w a m) {x : Operand} {v : V} (hx : rdM false m x = some v) (hs : good v = true) {l : List Nat} (hk : ∀ t, x = .tmp t → κ t = false) (hl : ∀ t, x = .tmp t → t ∈ l) :
    VRel G v (a.eval x) ∧ (rs v (a.eval x)).Nodup ∧ Taken G (takes vars κ l) (rs v (a.eval x)) := by
  obtain ⟨h1, h2⟩ := rd_take_out h hx hk hl
  rw [OutRel.plain (fun s o e => by subst e; cases hs) (fun e => by subst e; cases hs)] at h1
  refine ⟨h1.1, h1.2.1, fun B hB => ?_⟩
  obtain ⟨t, e, hv, ho⟩ := h2 B hB
  exact ⟨t, ho, by simp [takes, hv, hl t e]⟩

theorem OpOk.of_rel {G' : Gh} {lb' : Nat → Option Nat} {c : Value} (hr : (execOp a.eval o).run C.P w = .ok (.value c) w') (h : Rel C vars nt G' lb' (takes vars κ (uses o.op)) w' a m') (hv : VRel G' v c) (p : pl v = true) (hk : Keeps G w w') (he : Ext G G' w) :
    OpOk C vars nt G lb κ w a m m' o v :=
  ⟨w', G', lb', c, _, hr, .inl rfl, h, out_of_vrel hv p, (by rw [rs_pl v c p]; exact fun B hB => nomatch hB), hk, he⟩
theorem OpOk.of_skip {G' : Gh} {lb' : Nat → Option Nat} (hr : (execOp a.eval o).run C.P w = .ok .skip w') (h : Rel C vars nt G' lb' (takes vars κ (uses o.op)) w' a m') (hk : Keeps G w w') (he : Ext G G' w) :
    OpOk C vars nt G lb κ w a m m' o .u :=
  ⟨w', G', lb', undef, _, hr, .inr ⟨rfl, rfl⟩, h, trivial, (by rw [rs_pl .u undef rfl]; exact fun B hB => nomatch hB), hk, he⟩

theorem lay_window {cc : Array Value} {s off n : Nat} {vs : List Value} (hs : s + n ≤ cc.size) (h : off + vs.length ≤ n) :
    ((Mu.lay cc (s + off) vs).toList.drop s).take n = ((cc.toList.drop s).take n).take off ++ (vs ++ ((cc.toList.drop s).take n).drop (off + vs.length)) := by
  apply List.ext_getElem?
  intro j
  have hsz : s + off + vs.length ≤ cc.size := by omega
  have hlen : ((cc.toList.drop s).take n).length = n := by simp; omega
  have h1 : (((cc.toList.drop s).take n).take off).length = off := by simp; omega
  by_cases e : j < n
  · rw [List.getElem?_take, if_pos e, List.getElem?_drop, Array.getElem?_toList]
    by_cases e1 : j < off
    · rw [Mu.lay_out hsz (.inl (by omega)), List.getElem?_append_left (by omega), List.getElem?_take, if_pos e1, List.getElem?_take, if_pos e, List.getElem?_drop, Array.getElem?_toList]
    · rw [List.getElem?_append_right (by omega), h1]
      by_cases e2 : j < off + vs.length
      · rw [List.getElem?_append_left (by omega)]
        have := Mu.lay_in hsz (j := j - off) (by omega)
        rwa [show s + off + (j - off) = s + j by omega] at this
      · rw [List.getElem?_append_right (by omega), Mu.lay_out hsz (.inr (by omega)), List.getElem?_drop, List.getElem?_take, if_pos (by omega), List.getElem?_drop, Array.getElem?_toList]
        congr 1
        omega
  · rw [List.getElem?_eq_none (by simp; omega), List.getElem?_eq_none (by simp; omega)]

/-- Some cells overwritten: what is held then. -/
theorem HeldL.splice {x : Own} {cs xs : List V} {l ys : List Value} {off : Nat} (h : HeldL G x cs l) (hx : ys.length = xs.length) (hr : ∀ (j : Nat) u y, xs[j]? = some u → ys[j]? = some y → VRel G u y) (hc : ∀ u ∈ xs, isCell u = true)
    (hn : (rss xs ys).Nodup) (hlen : off + xs.length ≤ cs.length) (hd : ∀ B ∈ rss xs ys, G.own B ≠ some x) {G' : Gh} (hle : GLe G G') (ht : ∀ B, G'.tl B = G.tl B) (ho : ∀ B, G.own B = some x → G'.own B = some x) (ho2 : ∀ B ∈ rss xs ys, G'.own B = some x) :
    HeldL G' x (Mu.splice cs off xs) (l.take off ++ (ys ++ l.drop (off + ys.length))) := by
  have hl := h.len
  have e1 := rss_take_drop cs l h.len off
  have e2 := rss_take_drop (cs.drop off) (l.drop off) (by simp [hl]) xs.length
  rw [List.drop_drop, List.drop_drop] at e2
  have hn0 := h.nodup
  have ho0 := h.own
  rw [e1, e2] at hn0 ho0
  have hrs : rss (Mu.splice cs off xs) (l.take off ++ (ys ++ l.drop (off + ys.length))) = rss (cs.take off) (l.take off) ++ (rss xs ys ++ rss (cs.drop (off + xs.length)) (l.drop (off + xs.length))) := by
    rw [Mu.splice, rss_append _ _ _ _ (by simp [hl]), rss_append _ _ _ _ hx, hx]
  have hn1 := List.nodup_append.1 hn0
  have hn2 := List.nodup_append.1 hn1.2.1
  refine ⟨by simp [Mu.splice, hl, hx], fun j u y hu hy => ?_, fun u hu => ?_, ?_, fun B hB => ?_⟩
  · refine VRel.mono (G := G) hle ?_ (fun B _ => ht B)
    simp only [Mu.splice] at hu
    have h1 : (cs.take off).length = off := by simp; omega
    have h1' : (l.take off).length = off := by simp; omega
    by_cases e1 : j < off
    · rw [List.getElem?_append_left (by omega), List.getElem?_take, if_pos e1] at hu hy
      exact h.rel j u y hu hy
    · rw [List.getElem?_append_right (by omega), h1] at hu
      rw [List.getElem?_append_right (by omega), h1'] at hy
      by_cases e2 : j < off + xs.length
      · rw [List.getElem?_append_left (by omega)] at hu hy
        exact hr _ u y hu hy
      · rw [List.getElem?_append_right (by omega), List.getElem?_drop] at hu hy
        rw [hx] at hy
        exact h.rel _ u y hu hy
  · simp only [Mu.splice, List.mem_append] at hu
    rcases hu with hu | hu | hu
    · exact h.cell u (List.mem_of_mem_take hu)
    · exact hc u hu
    · exact h.cell u (List.mem_of_mem_drop hu)
  · rw [hrs]
    refine List.nodup_append.2 ⟨hn1.1, List.nodup_append.2 ⟨hn, hn2.2.1, fun B hB B' hB' e => ?_⟩, fun B hB B' hB' e => ?_⟩
    · subst e
      exact hd B hB (ho0 B (by simp [hB']))
    · subst e
      rcases List.mem_append.1 hB' with g | g
      · exact hd B g (ho0 B (by simp [hB]))
      · exact hn1.2.2 B hB B (by simp [g]) rfl
  · rw [hrs] at hB
    rcases List.mem_append.1 hB with g | g
    · exact ho B (ho0 B (by simp [g]))
    · rcases List.mem_append.1 g with g | g
      · exact ho2 B g
      · exact ho B (ho0 B (by simp [g]))

theorem run_storeVar {t : TypeId} {B o : Nat} {cc : Array Value} {T : TypeId} {c : Value} (hB : w.heap[B]? = some (.cells cc T (0, 0))) (hn : c.cells.toList.length = sizeT P t) (hz : P.info? t ≠ none) (hl : o + c.cells.toList.length ≤ cc.size) (h1 : ∀ x ∈ c.cells.toList, x.oneCell' = true) :
    (storeVar t ⟨B, o, none⟩ c).run P w = .ok () (w.upd B (.cells (Mu.lay cc o c.cells.toList) T (0, 0))) := by
  have hsz : (sizeOf t).run P w = .ok (sizeT P t) w := by
    cases e : P.info? t with
    | none => exact absurd e hz
    | some i => simp [sizeOf, typeInfo, e, sizeT]
  have := run_storeCells_block (P := P) B o T (0, 0) c.cells.toList 0 cc w hB (by omega) (by intros; simp) h1
  have hcs : c.cells.size = sizeT P t := by rw [← hn]; simp
  simp only [storeVar, Sem.run_bind, hsz, Result.andThen_ok, hcs, ne_eq, not_true_eq_false, if_false, Sem.run_ite, Sem.run_pure]
  simpa using this

theorem op_store_po (h : Rel C vars nt G lb κ w a m) {t : TypeId} {x y : Operand} {id off : Nat} {cs : List V} {u : V} (hop : o.op = .store t x y) (hx : rdM false m x = some (.po id off)) (hy : rdM false m y = some u) (hs : stor u = true)
    (hz : (cellsOf u).length = sizeT C.P t) (hi : C.P.info? t ≠ none) (hg : m.st.get id = some (.cells cs)) (hl : off + (cellsOf u).length ≤ cs.length) (hk : ∀ t ∈ uses o.op, κ t = false) :
    OpOk C vars nt G lb κ w a m { m with st := m.st.put id (.cells (splice cs off (cellsOf u))) } o .u := by
  obtain ⟨B, s, l, h1, h2, h3⟩ := rd_po h hx
  obtain ⟨cc, T, g1, g2, g3, g4, g5, g6⟩ := obj_cells h hg h2
  have hus : uses o.op = tmpOf y := by rw [hop]; rfl
  rw [hus] at hk
  obtain ⟨k1, k2, k3⟩ := taken_of h hy (stor_good hs) (l := uses o.op) (fun t e => hk t (tmpOf_mem e)) (fun t e => by rw [hus]; exact tmpOf_mem e)
  obtain ⟨c1, c2, c3, c4, c5⟩ := cells_of k1 hs
  have hrun := run_storeVar (P := C.P) (w := w) (t := t) (B := B) (o := s + off) (c := a.eval y) g1 (by rw [c1]; exact hz) hi (by rw [c1]; omega) c5
  have hw := lay_window (cc := cc) (s := s) (off := off) (n := cs.length) (vs := (a.eval y).cells.toList) (by omega) (by rw [c1]; exact hl)
  obtain ⟨r1, r2, r3⟩ := Rel.updOb (x := .cells (splice cs off (cellsOf u))) h (takes_le (uses o.op)) k3 h2 g5 g6 (ob := .cells (Mu.lay cc (s + off) (a.eval y).cells.toList) T (0, 0)) (by
    have hspl : (splice cs off (cellsOf u)).length = cs.length := by simp [splice]; omega
    refine ⟨_, T, World.upd_same (lt_of_block g1), by rw [Mu.lay_size (by rw [c1]; omega)]; exact g2, by rw [hspl]; exact g3, ?_⟩
    rw [hspl, hw]
    refine g4.splice c1 c2 c3 (by rw [c4]; exact k2) hl (fun B hB e => ?_) ⟨fun _ _ _ h => h, Nat.le_refl _, fun _ _ => rfl⟩ (fun _ => rfl) (fun B hB => ?_) (fun B hB => own_give_in (by rw [← c4]; exact hB))
    · rw [c4] at hB
      obtain ⟨t, e', _⟩ := k3 B hB
      rw [e] at e'; cases e'
    · by_cases e : B ∈ rs u (a.eval y)
      · exact own_give_in e
      · exact own_give hB e)
  exact .of_skip (by simp only [execOp, hop, h3, Instr.storeAt, Instr.sureAddr, Sem.run_bind, Sem.run_pure, Result.andThen_ok, hrun]) r1 r2 r3

/-- A local's contents, overwritten. -/
theorem locStore_splice {u x v' : V} {off : Nat} (hv : locStore u off x = some v') (hc : isAg u = true ∨ isCell u = true) (hs : stor x = true) : off + (cellsOf x).length ≤ (cellsOf u).length ∧ cellsOf v' = splice (cellsOf u) off (cellsOf x) := by
  by_cases ha : ∃ cs, u = .ag cs
  · obtain ⟨cs, rfl⟩ := ha
    simp only [locStore] at hv
    cases hb : leB (off + (cellsOf x).length) cs.length with
    | false => simp [hb] at hv
    | true =>
      simp only [hb, cond_true, Option.some.injEq] at hv
      subst hv
      exact ⟨leB_iff.1 hb, rfl⟩
  · have hco : cellsOf u = [u] := by cases u <;> first | rfl | exact absurd ⟨_, rfl⟩ ha
    have hv' : (bif Nat.beq off 0 && !isAg x then some x else none) = some v' := by
      cases u <;> first | exact hv | exact absurd ⟨_, rfl⟩ ha
    cases hb : (Nat.beq off 0 && !isAg x) with
    | false => simp [hb] at hv'
    | true =>
      simp only [hb, cond_true, Option.some.injEq] at hv'
      subst hv'
      simp only [Bool.and_eq_true, Bool.not_eq_true'] at hb
      have := beq_true hb.1
      subst this
      have hcx : cellsOf x = [x] := by cases x <;> first | rfl | simp [isAg] at hb
      rw [hco, hcx]
      exact ⟨by simp, by simp [splice]⟩

theorem op_store_lp (h : Rel C vars nt G lb κ w a m) {t : TypeId} {x y : Operand} {s off : Nat} {u z v' : V} (hop : o.op = .store t x y) (hx : rdM false m x = some (.lp s off)) (hy : rdM false m y = some u) (hs : stor u = true)
    (hz : (cellsOf u).length = sizeT C.P t) (hi : C.P.info? t ≠ none) (hg : getE m.L s = some z) (hl : locStore z off u = some v') (hk : ∀ t ∈ uses o.op, κ t = false) :
    OpOk C vars nt G lb κ w a m { m with L := setE m.L s v' } o .u := by
  obtain ⟨B, h1, h2⟩ := rd_lp h hx
  obtain ⟨B', cc, T, g1, g2, g3, g4⟩ := h.loc s z hg
  rw [h1] at g1; cases g1
  have hc : isAg z = true ∨ isCell z = true := by
    by_cases ha : ∃ cs, z = .ag cs
    · obtain ⟨cs, rfl⟩ := ha; exact .inl rfl
    · have hco : cellsOf z = [z] := by cases z <;> first | rfl | exact absurd ⟨_, rfl⟩ ha
      exact .inr (g4.cell z (by rw [hco]; simp))
  obtain ⟨hle, hsp⟩ := locStore_splice hl hc hs
  have hus : uses o.op = tmpOf y := by rw [hop]; rfl
  rw [hus] at hk
  obtain ⟨k1, k2, k3⟩ := taken_of h hy (stor_good hs) (l := uses o.op) (fun t e => hk t (tmpOf_mem e)) (fun t e => by rw [hus]; exact tmpOf_mem e)
  obtain ⟨c1, c2, c3, c4, c5⟩ := cells_of k1 hs
  have hlen := g4.len
  have hsz : cc.size = (cellsOf z).length := by rw [← hlen]; simp
  have hrun := run_storeVar (P := C.P) (w := w) (t := t) (B := B) (o := off) (c := a.eval y) g3 (by rw [c1]; exact hz) hi (by rw [c1]; omega) c5
  have hw := lay_window (cc := cc) (s := 0) (off := off) (n := (cellsOf z).length) (vs := (a.eval y).cells.toList) (by omega) (by rw [c1]; exact hle)
  have hfull : (Mu.lay cc off (a.eval y).cells.toList).toList = cc.toList.take off ++ ((a.eval y).cells.toList ++ cc.toList.drop (off + (a.eval y).cells.toList.length)) := by simp [Mu.lay]
  obtain ⟨r1, r2, r3⟩ := Rel.updLc (v := v') h (takes_le (uses o.op)) k3 h1 g2 (T := T) (cc := Mu.lay cc off (a.eval y).cells.toList) (by
    rw [hsp, hfull]
    refine g4.splice c1 c2 c3 (by rw [c4]; exact k2) hle (fun B hB e => ?_) ⟨fun _ _ _ h => h, Nat.le_refl _, fun _ _ => rfl⟩ (fun _ => rfl) (fun B hB => ?_) (fun B hB => own_give_in (by rw [← c4]; exact hB))
    · rw [c4] at hB
      obtain ⟨t, e', _⟩ := k3 B hB
      rw [e] at e'; cases e'
    · by_cases e : B ∈ rs u (a.eval y)
      · exact own_give_in e
      · exact own_give hB e)
  exact .of_skip (by simp only [execOp, hop, h2, Instr.storeAt, Instr.sureAddr, Sem.run_bind, Sem.run_pure, Result.andThen_ok, hrun]) r1 r2 r3
end
end Go.Mu
end
section
/- Moving loads, new variables, new maps, closures. -/
set_option linter.unusedSimpArgs false
set_option linter.unusedVariables false
set_option linter.constructorNameAsVariable false
namespace Go.Mu
section
variable {C : Cfg} {vars nt : Nat} {G G' : Gh} {lb lb' : Nat → Option Nat} {κ κ' : Nat → Bool} {w w' : World} {a : Act} {m m' : M} {o : Oper} {v : V} {P : Program}

def Gh.drop (G : Gh) (x : Own) : Gh := { G with own := fun B => if G.own B = some x then none else G.own B }
theorem drop_own {x y : Own} {B : Nat} (h : G.own B = some y) (hn : y ≠ x) : (G.drop x).own B = some y := by
  show (if G.own B = some x then none else G.own B) = _
  rw [if_neg (by rw [h]; simpa using hn)]; exact h
theorem drop_none {x : Own} {B : Nat} (h : G.own B = some x) : (G.drop x).own B = none := if_pos h
theorem drop_ext (x : Own) (hx : x ≠ .fr) : Ext G (G.drop x) w := by
  refine ⟨⟨fun _ _ _ h => h, Nat.le_refl _, fun _ _ => rfl⟩, fun B hB => ⟨drop_own hB (Ne.symm hx), rfl, fun _ => rfl⟩, fun B hB hn => ?_⟩
  show (if G.own B = some x then none else G.own B) = _
  rw [hn]; simp
theorem drop_ok (ok : WOk G w) (x : Own) : WOk (G.drop x) w := by
  have key : ∀ B y, (G.drop x).own B = some y → G.own B = some y := fun B y h => by
    have h' : (if G.own B = some x then none else G.own B) = some y := h
    split at h'
    · cases h'
    · exact h'
  refine ⟨ok.ic, ok.tlic, ok.tl, fun B y hy => ok.lt B y (key B y hy), ok.tllt, fun B hB => ok.excl B ?_⟩
  rcases hB with ⟨id, e⟩ | ⟨s, e⟩ | e
  · exact .inl ⟨id, key B _ e⟩
  · exact .inr (.inl ⟨s, key B _ e⟩)
  · exact .inr (.inr (key B _ e))

theorem HeldL.downs_drop {x y : Own} {cs : List V} {l : List Value} (h : HeldL G x cs l) : HeldL (G.drop y) x (downs cs) l := by
  have hr : rss (downs cs) l = [] := rss_pls _ _ (pls_downs cs)
  refine ⟨by rw [downs_length]; exact h.len, fun j v c hv hc => ?_, fun c hc => ?_, by rw [hr]; exact List.nodup_nil, by rw [hr]; exact fun B hB => nomatch hB⟩
  · rw [downs_get] at hv
    cases e : cs[j]? with
    | none => simp [e] at hv
    | some u =>
      simp [e] at hv
      subst hv
      exact (h.rel j u c e hc).down.own_irrel
  · obtain ⟨j, hj⟩ := List.mem_iff_getElem?.1 hc
    rw [downs_get] at hj
    cases e : cs[j]? with
    | none => simp [e] at hj
    | some u =>
      simp [e] at hj
      subst hj
      rw [isCell_down]
      exact h.cell u (List.mem_of_getElem? e)

theorem Rel.dropOb (h : Rel C vars nt G lb κ w a m) {id : Nat} {cs : List V} (hg : m.st.get id = some (.cells cs)) : Rel C vars nt (G.drop (.obIn id)) lb κ w a { m with st := m.st.put id (.cells (downs cs)) } := by
  refine Rel.xfer (G' := G.drop (.obIn id)) h ⟨fun _ _ _ h => h, Nat.le_refl _, fun _ _ => rfl⟩ (fun _ h => h) (fun y => y = .obIn id) (fun t e => by cases e) (fun e => by cases e) (fun B y hB hE => ⟨drop_own hB hE, rfl, rfl⟩) (drop_ok h.heap.ok _) h.heap.nx (fun _ _ _ _ => rfl)
    (fun s v hv => .inl ⟨hv, fun e => (by cases e), fun e => (by cases e), rfl⟩) (fun id' x hx => ?_)
  rcases St.get_put hx with ⟨rfl, rfl⟩ | ⟨h1, h2⟩
  · rcases h.heap.obj id' _ hg with ⟨B, s, l, g1, g2, g3, cc, T, g4, g5, g6, g7⟩ | g
    · exact .inr (.inl ⟨B, s, l, g1, drop_own g2 (by simp), g3, cc, T, g4, g5, by rw [downs_length]; exact g6, by rw [downs_length]; exact g7.downs_drop⟩)
    · cases g
  · rcases h.heap.obj id' x h2 with ⟨B, s, l, g1, g2, g3, g4⟩ | g
    · exact .inl ⟨h2, fun e => (by cases e), fun e => (by cases e; exact h1 rfl), g3⟩
    · exact .inr (.inr g)

theorem op_load_po_mv (h : Rel C vars nt G lb κ w a m) {t : TypeId} {x : Operand} {id off : Nat} {cs : List V} (hop : o.op = .load t x) (hx : rdM false m x = some (.po id off)) (hg : m.st.get id = some (.cells cs)) (hv : part C.P t cs off = some v) :
    OpOk C vars nt G lb κ w a m { m with st := m.st.put id (.cells (downs cs)) } o v := by
  obtain ⟨B, s, l, h1, h2, h3⟩ := rd_po h hx
  obtain ⟨cc, T, g1, g2, g3, g4, g5, g6⟩ := obj_cells h hg h2
  obtain ⟨c, k1, k2, k3, n, k4, k5, k6⟩ := run_loadVar (P := C.P) (w := w) (B := B) (s := s) g4.len g4.cell g4.rel (fun j v hj => win_cell g1 hj) hv
  obtain ⟨n1, n2⟩ := g4.nodup_part off n
  obtain ⟨p1, p2⟩ := stor_plain k3
  refine ⟨w, G.drop (.obIn id), lb, c, _, by simp only [execOp, hop, h3, Instr.loadAt, Instr.sureAddr, Sem.run_bind, Sem.run_pure, Result.andThen_ok, k1], .inl rfl, (h.dropOb hg).weaken (takes_le _), (OutRel.plain p1 p2).2 ⟨k2.own_irrel, by rw [k6]; exact n1, fun B' hB => .inl (drop_none (n2 B' (by rw [← k6]; exact hB)))⟩,
    fun B' hB => ?_, .refl G w, drop_ext _ (by simp)⟩
  have := n2 B' (by rw [← k6]; exact hB)
  exact ⟨h.heap.ok.lt _ _ this, fun _ e => by rw [this] at e; cases e⟩

theorem cellsOf_down {u : V} (hc : isAg u = true ∨ isCell u = true) : cellsOf (down u) = downs (cellsOf u) := by
  cases u <;> simp_all [isAg, isCell, cellsOf, down, downs]
theorem Rel.dropLc (h : Rel C vars nt G lb κ w a m) {s : Nat} {u : V} (hg : getE m.L s = some u) (hc : isAg u = true ∨ isCell u = true) : Rel C vars nt (G.drop (.lcIn s)) lb κ w a { m with L := setE m.L s (down u) } := by
  refine Rel.xfer (G' := G.drop (.lcIn s)) h ⟨fun _ _ _ h => h, Nat.le_refl _, fun _ _ => rfl⟩ (fun _ h => h) (fun y => y = .lcIn s) (fun t e => by cases e) (fun e => by cases e) (fun B y hB hE => ⟨drop_own hB hE, rfl, rfl⟩) (drop_ok h.heap.ok _) h.heap.nx (fun _ _ _ _ => rfl)
    (fun s' v hv => ?_) (fun id' x hx => ?_)
  · simp only [getE_setE] at hv
    by_cases e : s = s'
    · subst e
      rw [if_pos rfl] at hv
      cases hv
      obtain ⟨B, cc, T, g1, g2, g3, g4⟩ := h.loc s u hg
      exact .inr ⟨B, cc, T, g1, drop_own g2 (by simp), g3, by rw [cellsOf_down hc]; exact g4.downs_drop⟩
    · rw [if_neg e] at hv
      exact .inl ⟨hv, fun e => (by cases e), fun e' => (by cases e'; exact e rfl), rfl⟩
  · rcases h.heap.obj id' x hx with ⟨B, s, l, g1, g2, g3, g4⟩ | g
    · exact .inl ⟨hx, fun e => (by cases e), fun e => (by cases e), g3⟩
    · exact .inr (.inr g)

theorem loc_kind (h : Rel C vars nt G lb κ w a m) {s : Nat} {u : V} (hg : getE m.L s = some u) : isAg u = true ∨ isCell u = true := by
  obtain ⟨B, cc, T, g1, g2, g3, g4⟩ := h.loc s u hg
  by_cases ha : ∃ cs, u = .ag cs
  · obtain ⟨cs, rfl⟩ := ha; exact .inl rfl
  · have hco : cellsOf u = [u] := by cases u <;> first | rfl | exact absurd ⟨_, rfl⟩ ha
    exact .inr (g4.cell u (by rw [hco]; simp))

theorem op_load_lp_mv (h : Rel C vars nt G lb κ w a m) {t : TypeId} {x : Operand} {s off : Nat} {u : V} (hop : o.op = .load t x) (hx : rdM false m x = some (.lp s off)) (hg : getE m.L s = some u) (hv : locPart C.P t u off = some v) :
    OpOk C vars nt G lb κ w a m { m with L := setE m.L s (down u) } o v := by
  obtain ⟨B, h1, h2⟩ := rd_lp h hx
  have hc := loc_kind h hg
  obtain ⟨B', cc, T, g1, g2, g3, g4⟩ := h.loc s u hg
  rw [h1] at g1; cases g1
  obtain ⟨c, k1, k2, k3, n, k4, k5, k6⟩ := run_loadVar (P := C.P) (w := w) (B := B) (s := 0) g4.len g4.cell g4.rel (fun j v hj => by rw [World.cell?_block g3, Nat.zero_add, ← Array.getElem?_toList]; exact hj) (locPart_part hv hc)
  rw [Nat.zero_add] at k1
  obtain ⟨n1, n2⟩ := g4.nodup_part off n
  obtain ⟨p1, p2⟩ := stor_plain k3
  refine ⟨w, G.drop (.lcIn s), lb, c, _, by simp only [execOp, hop, h2, Instr.loadAt, Instr.sureAddr, Sem.run_bind, Sem.run_pure, Result.andThen_ok, k1], .inl rfl, (h.dropLc hg hc).weaken (takes_le _), (OutRel.plain p1 p2).2 ⟨k2.own_irrel, by rw [k6]; exact n1, fun B' hB => .inl (drop_none (n2 B' (by rw [← k6]; exact hB)))⟩,
    fun B' hB => ?_, .refl G w, drop_ext _ (by simp)⟩
  have := n2 B' (by rw [← k6]; exact hB)
  exact ⟨h.heap.ok.lt _ _ this, fun _ e => by rw [this] at e; cases e⟩

theorem zeroT_ok {t : TypeId} {z : V} (h : zeroT P t = some z) (G : Gh) : ∃ i c, P.info? t = some i ∧ i.zero = some c ∧ VRel G z c ∧ pl z = true ∧ stor z = true := by
  unfold zeroT at h
  cases e : P.info? t with
  | none => simp [e] at h
  | some i =>
    simp only [e] at h
    cases e2 : i.zero with
    | none => simp [e2] at h
    | some c =>
      simp only [e2] at h
      cases e3 : ofValue 1000 c with
      | none => simp [e3] at h
      | some z' =>
        simp only [e3] at h
        cases hs : stor z' with
        | false => simp [hs] at h
        | true =>
          simp only [hs, cond_true, Option.some.injEq] at h
          subst h
          obtain ⟨h1, h2, _⟩ := ofValue_rel G _ c z' e3
          exact ⟨i, c, rfl, e2, h1, h2, hs⟩
theorem run_zero {t : TypeId} {i : TypeInfo} {c : Value} (h1 : P.info? t = some i) (h2 : i.zero = some c) : (zeroValue t).run P w = .ok c w := by
  simp [zeroValue, typeInfo, h1, h2]

/-- A new variable among the objects. -/
theorem op_new_heap (h : Rel C vars nt G lb κ w a m) {c : Value} {T : TypeId} (hr : (execOp a.eval o).run C.P w = .ok (.value (.pointer (some ⟨w.heap.size, 0, none⟩))) (w.alloc (.cells c.cells T (0, 0))))
    (hv : VRel G v c) (hs : stor v = true) (hn : (rs v c).Nodup) (ht : Taken G (takes vars κ (uses o.op)) (rs v c)) :
    OpOk C vars nt G lb κ w a m { m with st := m.st.new (.cells (cellsOf v)) } o (.po m.st.nx 0) := by
  obtain ⟨c1, c2, c3, c4, c5⟩ := cells_of hv hs
  have ok := h.heap.ok
  have hlt : ∀ B ∈ rs v c, B < w.heap.size := fun B hB => by obtain ⟨t, e, _⟩ := ht B hB; exact ok.lt B _ e
  obtain ⟨r1, r2, r3⟩ := Rel.newOb (x := .cells (cellsOf v)) (sz := c.cells.size) h (takes_le (uses o.op)) ht (ob := .cells c.cells T (0, 0)) (by
    refine ⟨c.cells, T, World.alloc_new, rfl, by rw [← c1]; simp, ?_⟩
    have e : (c.cells.toList.drop 0).take (cellsOf v).length = c.cells.toList := by rw [List.drop_zero, ← c1, List.take_length]
    rw [e]
    refine heldL_of hv hs hn ⟨fun _ _ _ h => h, Nat.le_succ _, fun id hid => if_neg (by omega)⟩ (fun _ _ => rfl) (fun B hB => ?_)
    show (if B = w.heap.size then _ else if B ∈ rs v c then _ else _) = _
    rw [if_neg (Nat.ne_of_lt (hlt B hB)), if_pos hB, h.heap.nx])
  refine .of_rel hr r1 ?_ rfl r2 r3
  have := VRel.po (G := G.newOb w.heap.size c.cells.size (rs v c)) (id := m.st.nx) (o := 0) (B := w.heap.size) (s := 0) (l := c.cells.size) (by rw [← h.heap.nx]; exact Nat.lt_succ_self _) (if_pos h.heap.nx.symm)
  exact this

theorem op_alloc_heap (h : Rel C vars nt G lb κ w a m) {e : TypeId} {z : V} (hop : o.op = .alloc e) (hz : zeroT C.P e = some z) : OpOk C vars nt G lb κ w a m { m with st := m.st.new (.cells (cellsOf z)) } o (.po m.st.nx 0) := by
  obtain ⟨i, c, h1, h2, h3, h4, h5⟩ := zeroT_ok hz G
  exact op_new_heap h (c := c) (T := e) (by simp only [execOp, hop, Instr.alloc, Sem.run_bind, run_zero h1 h2, Result.andThen_ok, newVar, newRow, run_newObj, Sem.run_pure]; rfl) h3 h5 (by rw [rs_pl z c h4]; exact List.nodup_nil) (by rw [rs_pl z c h4]; exact fun B hB => nomatch hB)
theorem op_box_heap (h : Rel C vars nt G lb κ w a m) {e : TypeId} {x : Operand} {z : V} (hop : o.op = .box e x) (hx : rdM false m x = some z) (hs : stor z = true) (hk : ∀ t ∈ uses o.op, κ t = false) : OpOk C vars nt G lb κ w a m { m with st := m.st.new (.cells (cellsOf z)) } o (.po m.st.nx 0) := by
  have hus : uses o.op = tmpOf x := by rw [hop]; rfl
  rw [hus] at hk
  obtain ⟨k1, k2, k3⟩ := taken_of h hx (stor_good hs) (l := uses o.op) (fun t e => hk t (tmpOf_mem e)) (fun t e => by rw [hus]; exact tmpOf_mem e)
  exact op_new_heap h (c := a.eval x) (T := e) (by simp only [execOp, hop, Instr.box, Sem.run_bind, Result.andThen_ok, newVar, newRow, run_newObj, Sem.run_pure]; rfl) k1 hs k2 k3

theorem Rel.congr (h : Rel C vars nt G lb κ w a m) (hs : ∀ t, slotV m' t = slotV m t) (hL : m'.L = m.L) (hst : m'.st = m.st) (htp : ∀ t v, getE m'.tp t = some v → bit vars t = false) (hen : ∀ t v, getE m'.env t = some v → bit vars t = true) : Rel C vars nt G lb κ w a m' :=
  { size := h.size, tpv := htp, envv := hen, slot := fun t v hv => h.slot t v ((hs t) ▸ hv), loc := fun s v hv => h.loc s v (hL ▸ hv), heap := hst ▸ h.heap, marks := h.marks, apart := h.apart }

theorem freeOf_get {s : Nat} : ∀ {e : Env}, freeOf s e = true → ∀ t o, t ≠ s → getE e t ≠ some (.lp s o)
  | [], _, t, o, _ => by simp [getE]
  | (t', v) :: r, h, t, o, hn => by
    simp only [freeOf, Bool.and_eq_true, Bool.or_eq_true] at h
    rw [getE_cons]
    by_cases e : t' = t
    · subst e
      rw [if_pos rfl]
      intro e
      cases e
      rcases h.1 with g | g
      · exact hn (beq_true g)
      · simp [beq_self] at g
    · rw [if_neg e]
      exact freeOf_get h.2 t o hn

theorem put_put {d : Nat} {c c' : Value} : (a.put (some d) c).put (some d) c' = a.put (some d) c' := by simp [Act.put]
theorem wrM_tpv (h : Rel C vars nt G lb κ w a m) {d : Nat} {v : V} : ∀ t u, getE (wrM vars m (some d) v).tp t = some u → bit vars t = false := by
  intro t u hu
  simp only [wrM] at hu
  cases hb : bit vars d
  · rw [hb] at hu
    simp only [cond_false, getE_cons] at hu
    by_cases e : d = t
    · subst e; exact hb
    · rw [if_neg e] at hu; exact h.tpv t u hu
  · rw [hb] at hu
    exact h.tpv t u hu
theorem wrM_envv (h : Rel C vars nt G lb κ w a m) {d : Nat} {v : V} : ∀ t u, getE (wrM vars m (some d) v).env t = some u → bit vars t = true := by
  intro t u hu
  simp only [wrM] at hu
  cases hb : bit vars d
  · rw [hb] at hu
    exact h.envv t u hu
  · rw [hb] at hu
    simp only [cond_true, getE_setE] at hu
    by_cases e : d = t
    · subst e; exact hb
    · rw [if_neg e] at hu; exact h.envv t u hu
theorem wrM_L {d : Option Nat} : (wrM vars m d v).L = m.L := by
  cases d with
  | none => rfl
  | some d => simp only [wrM]; cases bit vars d <;> rfl
theorem wrM_st {d : Option Nat} : (wrM vars m d v).st = m.st := by
  cases d with
  | none => rfl
  | some d => simp only [wrM]; cases bit vars d <;> rfl

/-- No slot but one points to a local. -/
def FreeE (s : Nat) (e : Env) : Prop := ∀ t o, t ≠ s → getE e t ≠ some (.lp s o)
def FreeM (m : M) (e : Eff) : Prop := match e with
  | .la s _ => FreeE s m.tp ∧ FreeE s m.env
  | _ => True
theorem freeM_of {e : Eff} (h : freeEff m e = true) : FreeM m e := by
  cases e with
  | la s v =>
    simp only [freeEff, Bool.and_eq_true] at h
    exact ⟨fun t o hn => freeOf_get h.1 t o hn, fun t o hn => freeOf_get h.2 t o hn⟩
  | _ => trivial
/-- A new local. -/
theorem step_new_loc (h : Rel C vars nt G lb κ w a m) {d : Nat} (hd : o.dst = some d) (hnt : d < nt) (hf : FreeE d m.tp ∧ FreeE d m.env) {c : Value} {T : TypeId}
    (hr : (execOp a.eval o).run C.P w = .ok (.value (.pointer (some ⟨w.heap.size, 0, none⟩))) (w.alloc (.cells c.cells T (0, 0))))
    (hv : VRel G v c) (hs : stor v = true) (hn : (rs v c).Nodup) (ht : Taken G (takes vars κ (uses o.op)) (rs v c)) :
    StepOk C vars nt G lb κ w a (wrM vars { m with L := setE m.L d v } o.dst (.lp d 0)) o := by
  let p : Value := .pointer (some ⟨w.heap.size, 0, none⟩)
  have hpu : rs .u p = [] := rs_pl .u p rfl
  obtain ⟨G1, r1, r2, r3, r4⟩ := h.putO (d := some d) (v := .u) (c := p) (fun t e => by cases e; exact hnt) trivial (by rw [hpu]; exact fun B hB => nomatch hB)
  have hown : ∀ B, G1.own B = G.own B := fun B => by
    rcases r4 B with e | ⟨_, e⟩
    · exact e
    · rw [hpu] at e; cases e
  have hv1 : VRel G1 v c := hv.mono r2 fun B _ => (r3 B).1
  have ok := r1.heap.ok
  have ht1 : Taken G1 (takes vars κ (uses o.op)) (rs v c) := fun B hB => by obtain ⟨t, e1, e2⟩ := ht B hB; exact ⟨t, (hown B).trans e1, e2⟩
  have hlt : ∀ B ∈ rs v c, B < w.heap.size := fun B hB => by obtain ⟨t, e, _⟩ := ht1 B hB; exact ok.lt B _ e
  have hslot : ∀ t o', slotV (wrM vars m (some d) .u) t ≠ some (.lp d o') := by
    intro t o' e
    rw [slotV_wrM h.tpv] at e
    by_cases e1 : d = t
    · rw [if_pos e1] at e; cases e
    · rw [if_neg e1] at e
      simp only [slotV] at e
      cases e2 : getE m.tp t with
      | some u => rw [e2] at e; simp only [Option.some.injEq] at e; subst e; exact hf.1 t o' (Ne.symm e1) e2
      | none => rw [e2] at e; exact hf.2 t o' (Ne.symm e1) e
  obtain ⟨q1, q2, q3⟩ := Rel.newLc (v := v) r1 (takes_le (uses o.op)) ht1 (cc := c.cells) (T := T) (s := d) hslot (by
    refine heldL_of hv1 hs hn ⟨fun _ _ _ h => h, Nat.le_refl _, fun id hid => rfl⟩ (fun _ _ => rfl) (fun B hB => ?_)
    show (if B = w.heap.size then _ else if B ∈ rs v c then _ else _) = _
    rw [if_neg (Nat.ne_of_lt (hlt B hB)), if_pos hB])
  have hpl : rs (.lp d 0) p = [] := rs_pl _ p rfl
  obtain ⟨G2, s1, s2, s3, s4⟩ := q1.putO (d := some d) (v := .lp d 0) (c := p) (fun t e => by cases e; exact hnt) ⟨w.heap.size, if_pos rfl, rfl⟩ (by rw [hpl]; exact fun B hB => nomatch hB)
  have hown2 : ∀ B, G2.own B = (G1.newLc w.heap.size d (rs v c)).own B := fun B => by
    rcases s4 B with e | ⟨_, e⟩
    · exact e
    · rw [hpl] at e; cases e
  rw [put_put] at s1
  refine ⟨_, G2, fun t => if t = d then some w.heap.size else lb t, p, _, hr, .inl rfl, ?_, ?_, ?_⟩
  · rw [hd]
    refine s1.congr (fun t => ?_) ?_ ?_ ?_ ?_
    · have e1 : slotV (wrM vars { m with L := setE m.L d v } (some d) (.lp d 0)) t = if d = t then some (.lp d 0) else slotV m t := slotV_wrM (m := { m with L := setE m.L d v }) h.tpv t
      rw [e1, slotV_wrM q1.tpv]
      by_cases e : d = t
      · rw [if_pos e, if_pos e]
      · rw [if_neg e, if_neg e]
        have e2 := slotV_wrM (vars := vars) (d := d) (v := .u) h.tpv t
        rw [if_neg e] at e2
        exact e2.symm
    · rw [wrM_L, wrM_L]
      show setE m.L d v = setE (wrM vars m (some d) .u).L d v
      rw [wrM_L]
    · rw [wrM_st, wrM_st]
      show m.st = (wrM vars m (some d) .u).st
      rw [wrM_st]
    · intro t u hu
      have : getE (wrM vars m (some d) (.lp d 0)).tp t = some u := by
        simp only [wrM] at hu ⊢
        cases hb : bit vars d <;> simpa [hb] using hu
      exact wrM_tpv h t u this
    · intro t u hu
      have : getE (wrM vars m (some d) (.lp d 0)).env t = some u := by
        simp only [wrM] at hu ⊢
        cases hb : bit vars d <;> simpa [hb] using hu
      exact wrM_envv h t u this
  · exact ⟨q2.size, fun B hB ho => q2.old B hB (by rw [hown]; exact ho), rfl, rfl⟩
  · refine ⟨r2.trans (q3.le.trans s2), fun B hB => ?_, fun B hB hn => ?_⟩
    · have e1 := q3.fr B ((hown B).trans hB)
      exact ⟨(hown2 B).trans e1.1, (s3 B).1.trans (e1.2.1.trans (r3 B).1), fun o => ((s3 B).2 o).trans ((e1.2.2 o).trans ((r3 B).2 o))⟩
    · exact (hown2 B).trans (q3.free B hB ((hown B).trans hn))

theorem op_makeMap (h : Rel C vars nt G lb κ w a m) {t : TypeId} (hop : o.op = .makeMap t none) : OpOk C vars nt G lb κ w a m { m with st := m.st.new (.map [] 0) } o (.mp m.st.nx) := by
  obtain ⟨r1, r2, r3⟩ := Rel.newOb (x := .map [] 0) (sz := 0) (l := []) h (takes_le (uses o.op)) (fun B hB => nomatch hB) (ob := .map #[] 0) ⟨#[], World.alloc_new, rfl, fun j k v b hj => by simp at hj⟩
  refine .of_rel (c := .map (some w.heap.size)) ?_ r1 ?_ rfl r2 r3
  · simp only [execOp, hop, Option.map_none, Instr.makeMap, Sem.run_bind, Sem.run_pure, Result.andThen_ok, run_newObj]; rfl
  · exact .mp (s := 0) (l := 0) (by rw [← h.heap.nx]; exact Nat.lt_succ_self _) (if_pos h.heap.nx.symm)

theorem rds_get {rd : Operand → Option V} : ∀ {l : List Operand} {vs : List V}, rds rd l = some vs → vs.length = l.length ∧ ∀ (j : Nat) x v, l[j]? = some x → vs[j]? = some v → rd x = some v
  | [], vs, h => by simp only [rds, Option.some.injEq] at h; subst h; exact ⟨rfl, fun j x v h => by simp at h⟩
  | x :: r, vs, h => by
    simp only [rds] at h
    cases e1 : rd x with
    | none => simp [e1] at h
    | some v =>
      cases e2 : rds rd r with
      | none => simp [e1, e2] at h
      | some us =>
        simp only [e1, e2, Option.some.injEq] at h
        subst h
        obtain ⟨h1, h2⟩ := rds_get e2
        refine ⟨by simp [h1], fun j y u hy hu => ?_⟩
        cases j with
        | zero => simp at hy hu; subst hy; subst hu; exact e1
        | succ j => exact h2 j y u (by simpa using hy) (by simpa using hu)
theorem goods_get : ∀ {l : List V}, goods l = true → ∀ (j : Nat) v, l[j]? = some v → good v = true
  | [], _, j, v, h => by simp at h
  | x :: r, h, j, v, hj => by
    simp only [goods, Bool.and_eq_true] at h
    cases j with
    | zero => simp at hj; subst hj; exact h.1
    | succ j => exact goods_get h.2 j v (by simpa using hj)

/-- Operands that are looked at. -/
theorem rds_rel (h : Rel C vars nt G lb κ w a m) {mv : Bool} {l : List Operand} {vs : List V} (hr : rds (rdM mv m) l = some vs) (hg : goods vs = true) :
    (l.map a.eval).length = vs.length ∧ ∀ (j : Nat) v x, (downs vs)[j]? = some v → (l.map a.eval)[j]? = some x → VRel G v x := by
  obtain ⟨h1, h2⟩ := rds_get hr
  refine ⟨by simp [h1], fun j v x hv hx => ?_⟩
  rw [downs_get] at hv
  cases e : vs[j]? with
  | none => simp [e] at hv
  | some u =>
    simp [e] at hv
    subst hv
    rw [List.getElem?_map] at hx
    cases e2 : l[j]? with
    | none => simp [e2] at hx
    | some y =>
      simp [e2] at hx
      subst hx
      exact rd_vrel h (h2 j y u e2 e) (goods_get hg j u e)

theorem op_makeFunc (h : Rel C vars nt G lb κ w a m) {g : FuncId} {x y : Array Operand} {p q : List V} (hop : o.op = .makeFunc (.func g) x y) (hx : rds (rdM false m) x.toList = some p) (hy : rds (rdM false m) y.toList = some q) (hp : goods p = true) (hq : goods q = true) :
    OpOk C vars nt G lb κ w a m m o (.fn (.func g) (downs p) (downs q)) := by
  obtain ⟨p1, p2⟩ := rds_rel h hx hp
  obtain ⟨q1, q2⟩ := rds_rel h hy hq
  have e1 : x.map a.eval = (x.toList.map a.eval).toArray := by apply Array.ext'; simp
  have e2 : y.map a.eval = (y.toList.map a.eval).toArray := by apply Array.ext'; simp
  refine .of_plain h (c := .func (.func g) (x.map a.eval) (y.map a.eval)) (by simp only [execOp, hop]; rfl) ?_ (by simp [pl, pls_downs])
  rw [e1, e2]
  exact .fn (by simp) (by rw [downs_length]; exact p1) (by rw [downs_length]; exact q1) (pls_downs p) (pls_downs q) p2 q2
end
end Go.Mu
end
section
/- Slices of slices and texts; values built of parts. -/
set_option linter.unusedSimpArgs false
set_option linter.unusedVariables false
set_option linter.constructorNameAsVariable false
namespace Go.Mu
section
variable {C : Cfg} {vars nt : Nat} {G G' : Gh} {lb lb' : Nat → Option Nat} {κ κ' : Nat → Bool} {w w' : World} {a : Act} {m m' : M} {o : Oper} {v : V} {P : Program}

theorem hasT_size {t : TypeId} (h : hasT P t = true) : (sizeOf t).run P w = .ok (sizeT P t) w := by
  unfold hasT at h
  cases e : P.info? t with
  | none => simp [e] at h
  | some i => simp [sizeOf, typeInfo, e, sizeT]
theorem hasT_info {t : TypeId} (h : hasT P t = true) : P.info? t ≠ none := by
  unfold hasT at h
  cases e : P.info? t with
  | none => simp [e] at h
  | some i => simp

theorem bnd (h : Rel C vars nt G lb κ w a m) {mv : Bool} {x : Option Operand} {d n : Nat} (hx : optNat (rdM mv m) x d = some n) : (x = none ∧ n = d) ∨ ∃ y k, x = some y ∧ a.eval y = .int k n := by
  cases x with
  | none => simp only [optNat, Option.some.injEq] at hx; exact .inl ⟨rfl, hx.symm⟩
  | some y =>
    simp only [optNat] at hx
    have : (rdM mv m y).bind asNat = some n := by cases e : rdM mv m y <;> simp_all
    obtain ⟨k, e⟩ := rd_asNat h this
    exact .inr ⟨y, k, rfl, e⟩
theorem run_bound {k : IntKind} {i y : Nat} {code : BoundsCode} (h : i ≤ y) : (Instr.sliceBound (.int k i) y code).run P w = .ok i w := by
  simp only [Instr.sliceBound, asIntOf, Sem.run_bind, Sem.run_pure, Result.andThen_ok]
  rw [if_pos (by omega)]
  simp
theorem run_bounds (h : Rel C vars nt G lb κ w a m) {mv isS : Bool} {lo hi : Option Operand} {len cap hh l : Nat} (h1 : optNat (rdM mv m) hi len = some hh) (h2 : optNat (rdM mv m) lo 0 = some l) (hc : hh ≤ cap) (hl : l ≤ hh) :
    (Instr.sliceBounds isS len cap (lo.map a.eval) (hi.map a.eval) none).run C.P w = .ok (l, hh, cap) w := by
  rcases bnd h h1 with ⟨rfl, rfl⟩ | ⟨y, k, rfl, e1⟩ <;> rcases bnd h h2 with ⟨rfl, rfl⟩ | ⟨y', k', rfl, e2⟩
  · simp [Instr.sliceBounds]
  · simp [Instr.sliceBounds, e2, run_bound hl]
  · simp [Instr.sliceBounds, e1, run_bound hc]
  · simp [Instr.sliceBounds, e1, e2, run_bound hl, run_bound hc]
theorem run_bounds3 (h : Rel C vars nt G lb κ w a m) {mv : Bool} {lo hi : Option Operand} {q : Operand} {len cap hh l : Nat} (h1 : optNat (rdM mv m) hi len = some hh) (h2 : optNat (rdM mv m) lo 0 = some l) (h3 : (rdM mv m q).bind asNat = some hh) (hs : hi.isSome = true) (hc : hh ≤ cap) (hl : l ≤ hh) :
    (Instr.sliceBounds true len cap (lo.map a.eval) (hi.map a.eval) (some (a.eval q))).run C.P w = .ok (l, hh, hh) w := by
  obtain ⟨k3, e3⟩ := rd_asNat h h3
  rcases bnd h h1 with ⟨rfl, rfl⟩ | ⟨y, k, rfl, e1⟩
  · cases hs
  · rcases bnd h h2 with ⟨rfl, rfl⟩ | ⟨y', k', rfl, e2⟩
    · simp [Instr.sliceBounds, e1, e3, run_bound hc, run_bound (Nat.le_refl hh)]
    · simp [Instr.sliceBounds, e1, e2, e3, run_bound hc, run_bound (Nat.le_refl hh), run_bound hl]

theorem op_slice_str (h : Rel C vars nt G lb κ w a m) {t : TypeId} {x : Operand} {lo hi : Option Operand} {z : ByteArray} {hh l : Nat} (hop : o.op = .slice t x lo hi none) (ht : C.P.underlying t = some .string) (hx : rdM false m x = some (.s z))
    (h1 : optNat (rdM false m) hi z.size = some hh) (h2 : optNat (rdM false m) lo 0 = some l) (hc : hh ≤ z.size) (hl : l ≤ hh) : OpOk C vars nt G lb κ w a m m o (.s (z.extract l hh)) := by
  have ex := rd_s h hx
  exact .of_plain h (c := .string (z.extract l hh)) (by simp [execOp, hop, ex, Instr.sliceAt, Instr.slice, run_underlying ht, run_bounds h h1 h2 hc hl]) (.s _) rfl

theorem flat_drop : ∀ (xs : List V) (sz l : Nat), (∀ x ∈ xs, (cellsOf x).length = sz) → flat (xs.drop l) = (flat xs).drop (l * sz)
  | [], sz, l, h => by simp [flat]
  | x :: r, sz, 0, h => by simp
  | x :: r, sz, l + 1, h => by
    simp only [List.drop_succ_cons, flat]
    rw [flat_drop r sz l (fun y hy => h y (by simp [hy])), show (l + 1) * sz = (cellsOf x).length + l * sz by rw [h x (by simp), Nat.add_mul]; omega, List.drop_append, List.drop_eq_nil_of_le (by omega : (cellsOf x).length ≤ (cellsOf x).length + l * sz)]
    simp
theorem flat_take : ∀ (xs : List V) (sz l : Nat), (∀ x ∈ xs, (cellsOf x).length = sz) → flat (xs.take l) = (flat xs).take (l * sz)
  | [], sz, l, h => by simp [flat]
  | x :: r, sz, 0, h => by simp [flat]
  | x :: r, sz, l + 1, h => by
    simp only [List.take_succ_cons, flat]
    rw [flat_take r sz l (fun y hy => h y (by simp [hy])), show (l + 1) * sz = (cellsOf x).length + l * sz by rw [h x (by simp), Nat.add_mul]; omega, List.take_append]
    rw [List.take_of_length_le (by omega : (cellsOf x).length ≤ (cellsOf x).length + l * sz)]
    simp

/-- A part of a row that has no owner in memory. -/
theorem VRel.cut {ow' cap' : Nat} {xs : List V} {B s s' sz hh l : Nat} (h2 : ∀ x ∈ xs, (cellsOf x).length = sz) (h3 : ∀ (j : Nat) c, (flat xs)[j]? = some c → pl c = true ∧ isCell c = true ∧ ∃ x, G.ic B (s + j) = some x)
    (h4 : ∀ (j : Nat) c x, (flat xs)[j]? = some c → G.ic B (s + j) = some x → VRel G c x) (hs : l < hh → s' = s + l * sz) (hhl : hh ≤ xs.length) (hl : l ≤ hh) (hcap : hh - l ≤ cap') (g1 : ow' = 1 → cap' = hh - l)
    (g2 : ow' = 2 → l < hh ∧ ∃ e, G.tl B = some (s' + (hh - l) * sz, e) ∧ s' + cap' * sz ≤ e) : VRel G (.sl ow' false ((xs.take hh).drop l)) (.slice (some ⟨B, s', none⟩) (hh - l) cap') := by
  have hlen : ((xs.take hh).drop l).length = hh - l := by rw [List.length_drop, List.length_take, Nat.min_eq_left hhl]
  have hfl : flat ((xs.take hh).drop l) = ((flat xs).take (hh * sz)).drop (l * sz) := by
    rw [flat_drop _ sz _ (fun y hy => h2 y (List.mem_of_mem_take hy)), flat_take _ sz _ h2]
  have key : ∀ (j : Nat) c, (flat ((xs.take hh).drop l))[j]? = some c → (flat xs)[l * sz + j]? = some c ∧ s' + j = s + (l * sz + j) := by
    intro j c hj
    by_cases e : l < hh
    · rw [hfl, List.getElem?_drop, List.getElem?_take] at hj
      split at hj
      · exact ⟨hj, by rw [hs e]; omega⟩
      · cases hj
    · have : (xs.take hh).drop l = [] := List.eq_nil_of_length_eq_zero (by rw [hlen]; omega)
      rw [this] at hj
      simp [flat] at hj
  have := VRel.sl (G := G) (ow := ow') (xs := (xs.take hh).drop l) (B := B) (s := s') (cap := cap') (sz := sz) (fun x hx => h2 x (List.mem_of_mem_take (List.mem_of_mem_drop hx)))
    (fun j c hj => by
      obtain ⟨k1, k2⟩ := key j c hj
      rw [k2]; exact h3 _ c k1)
    (fun j c x hj hx => by
      obtain ⟨k1, k2⟩ := key j c hj
      rw [k2] at hx
      exact h4 _ c x k1 hx)
    (by rw [hlen]; exact hcap) (fun e => by rw [hlen]; exact g1 e)
    (fun e => by
      obtain ⟨k1, e', k2, k3⟩ := g2 e
      exact ⟨fun e => by rw [e, List.length_nil] at hlen; exact absurd hlen.symm (Nat.sub_ne_zero_of_lt k1), e', by rw [hlen]; exact k2, k3⟩)
  rw [hlen] at this
  exact this

theorem op_slice_sl (h : Rel C vars nt G lb κ w a m) {t e : TypeId} {x : Operand} {lo hi mx : Option Operand} {ow : Nat} {nil : Bool} {xs : List V} {hh l : Nat} (hop : o.op = .slice t x lo hi mx) (ht : C.P.underlying t = some (.slice e)) (hx : rdM false m x = some (.sl ow nil xs))
    (h1 : optNat (rdM false m) hi xs.length = some hh) (h2 : optNat (rdM false m) lo 0 = some l) (hc : hh ≤ xs.length) (hl : l ≤ hh) (hT : hasT C.P e = true) (hF : headFit C.P e xs = true) (hk : ∀ t ∈ uses o.op, κ t = false)
    (hm : (mx = none ∧ v = .sl (cutOwn hi.isSome ow ((xs.take hh).drop l)) nil ((xs.take hh).drop l)) ∨ (∃ q, mx = some q ∧ (rdM false m q).bind asNat = some hh ∧ hi.isSome = true ∧ v = .sl 1 nil ((xs.take hh).drop l))) : OpOk C vars nt G lb κ w a m m o v := by
  have hus : uses o.op = tmpOf x := by rw [hop]; rfl
  rw [hus] at hk
  obtain ⟨k1, k2, k3⟩ := taken_of h hx rfl (l := uses o.op) (fun t e => hk t (tmpOf_mem e)) (fun t e => by rw [hus]; exact tmpOf_mem e)
  have lens : ((xs.take hh).drop l).length = hh - l := by simp; omega
  rcases k1.inv_sl with ⟨rfl, rfl, how, ec⟩ | ⟨rfl, B, s, cap, sz, ec, g2, g3, g4, g5, g6, g7⟩
  · -- nil
    have : hh = 0 := by simpa using hc
    subst this
    have : l = 0 := by omega
    subst this
    have hv' : v = .sl 0 true [] ∨ v = .sl ow true [] ∨ v = .sl 1 true [] := by
      rcases hm with ⟨_, e⟩ | ⟨q, _, _, _, e⟩
      · rw [e]
        simp only [cutOwn, List.take_nil, List.drop_nil]
        cases hi.isSome
        · simp only [cond_false]
          rw [beq_ne how]
          exact .inr (.inl rfl)
        · exact .inl rfl
      · rw [e]; simp
    have hrun : (execOp a.eval o).run C.P w = .ok (.value (.slice none 0 0)) w := by
      have h1' : optNat (rdM false m) hi 0 = some 0 := h1
      rcases hm with ⟨rfl, _⟩ | ⟨q, rfl, hq, hs, _⟩
      · simp [execOp, hop, ec, Instr.sliceAt, Instr.slice, run_underlying ht, run_bounds h h1' h2 (Nat.zero_le 0) (Nat.le_refl 0), hasT_size hT]
      · simp [execOp, hop, ec, Instr.sliceAt, Instr.slice, run_underlying ht, run_bounds3 h h1' h2 hq hs (Nat.zero_le 0) (Nat.le_refl 0), hasT_size hT]
    rcases hv' with e | e | e <;> rw [e]
    · exact .of_plain h hrun (.nl (by decide)) rfl
    · exact .of_plain h hrun (.nl how) (by simp [pl, beq_ne how])
    · exact .of_plain h hrun (.nl (by decide)) rfl
  · -- a row
    have hsz : l < hh → sz = sizeT C.P e := fun hlt => by
      cases xs with
      | nil => simp at hc; omega
      | cons y r => rw [← g2 y (by simp)]; exact fits_size hF
    have hrs : ∀ (ow' : Nat) (s' n' c' : Nat) ys, ow' = 2 → ow = 2 → rs (.sl ow' false ys) (.slice (some ⟨B, s', none⟩) n' c') = rs (.sl ow false xs) (a.eval x) := fun ow' s' n' c' ys e1 e2 => by rw [ec]; simp [rs, e1, e2]
    have fin : ∀ (ow' s' c' : Nat), VRel G (.sl ow' false ((xs.take hh).drop l)) (.slice (some ⟨B, s', none⟩) (hh - l) c') → (ow' = 2 → ow = 2) → (execOp a.eval o).run C.P w = .ok (.value (.slice (some ⟨B, s', none⟩) (hh - l) c')) w →
        OpOk C vars nt G lb κ w a m m o (.sl ow' false ((xs.take hh).drop l)) := by
      intro ow' s' c' hv how hr
      by_cases e2 : ow' = 2
      · have e3 := how e2
        have er := hrs ow' s' (hh - l) c' ((xs.take hh).drop l) e2 e3
        refine .of_pure h hr ⟨hv, by rw [er]; exact k2, fun B' hB => ?_⟩ (fun B' hB => ?_)
        · rw [er] at hB
          obtain ⟨t', q1, q2⟩ := k3 B' hB
          exact .inr ⟨t', q1, .inl q2⟩
        · rw [er] at hB
          obtain ⟨t', q1, q2⟩ := k3 B' hB
          exact ⟨_, q1⟩
      · exact .of_plain h hr hv (by simp [pl, beq_ne e2])
    rcases hm with ⟨rfl, rfl⟩ | ⟨q, rfl, hq, hs, rfl⟩
    · have hrun : (execOp a.eval o).run C.P w = .ok (.value (.slice (some ⟨B, (if cap = l then s else s + l * sizeT C.P e), none⟩) (hh - l) (cap - l))) w := by
        simp only [execOp, hop, ec, Instr.sliceAt, Instr.slice, Sem.run_bind, run_underlying ht, Result.andThen_ok, run_bounds h h1 h2 (Nat.le_trans hc g5) hl, Option.map_none, hasT_size hT, Sem.run_pure]
        split <;> simp [Addr.add_none]
      have h7 : ow = 2 → l < hh → hi = none → ∃ e', G.tl B = some ((if cap = l then s else s + l * sizeT C.P e) + (hh - l) * sz, e') ∧ (if cap = l then s else s + l * sizeT C.P e) + (cap - l) * sz ≤ e' := by
        intro e2 hlt hn
        subst hn
        simp only [optNat, Option.some.injEq] at h1
        subst h1
        obtain ⟨q1, e', q2, q3⟩ := g7 e2
        rw [if_neg (by omega), ← hsz hlt]
        have e1 : l * sz + (xs.length - l) * sz = xs.length * sz := by rw [← Nat.add_mul]; congr 1; omega
        have e2 : l * sz + (cap - l) * sz = cap * sz := by rw [← Nat.add_mul]; congr 1; omega
        refine ⟨e', ?_, ?_⟩
        · rw [show s + l * sz + (xs.length - l) * sz = s + xs.length * sz by omega]; exact q2
        · omega
      refine fin _ _ _ (VRel.cut g2 g3 g4 (fun hlt => ?_) hc hl (Nat.sub_le_sub_right (Nat.le_trans hc g5) l) (fun e1 => ?_) (fun e2 => ?_)) (fun e2 => ?_) hrun
      · rw [if_neg (Nat.ne_of_gt (Nat.lt_of_lt_of_le hlt (Nat.le_trans hc g5))), hsz hlt]
      · cases hi with
        | some y => simp [cutOwn] at e1
        | none =>
          simp only [optNat, Option.some.injEq] at h1
          simp only [cutOwn, Option.isSome_none, cond_false] at e1
          have : ow = 1 := by
            split at e1
            · cases e2 : Nat.beq ow 2
              · simpa [e2] using e1
              · simp [e2] at e1
            · exact e1
          rw [g6 this, ← h1]
      · cases hi with
        | some y => simp [cutOwn] at e2
        | none =>
          simp only [cutOwn, Option.isSome_none, cond_false] at e2
          split at e2
          · cases e3 : Nat.beq ow 2
            · rw [e3] at e2
              simp only [cond_false] at e2
              exact absurd e2 (beq_false e3)
            · simp [e3] at e2
          · rename_i hne
            have hlt : l < hh := by
              rcases Nat.lt_or_ge l hh with g | g
              · exact g
              · exact absurd (List.eq_nil_of_length_eq_zero (by rw [lens]; exact Nat.sub_eq_zero_of_le g)) hne
            exact ⟨hlt, h7 e2 hlt rfl⟩
      · cases hi with
        | some y => simp [cutOwn] at e2
        | none =>
          simp only [cutOwn, Option.isSome_none, cond_false] at e2
          split at e2
          · cases e3 : Nat.beq ow 2
            · rw [e3] at e2; exact e2
            · simp [e3] at e2
          · exact e2
    · have hrun : (execOp a.eval o).run C.P w = .ok (.value (.slice (some ⟨B, (if hh = l then s else s + l * sizeT C.P e), none⟩) (hh - l) (hh - l))) w := by
        simp only [execOp, hop, ec, Instr.sliceAt, Instr.slice, Sem.run_bind, run_underlying ht, Result.andThen_ok, Option.map_some, run_bounds3 h h1 h2 hq hs (Nat.le_trans hc g5) hl, hasT_size hT, Sem.run_pure]
        split <;> simp [Addr.add_none]
      exact fin _ _ _ (VRel.cut g2 g3 g4 (fun hlt => by rw [if_neg (Nat.ne_of_gt hlt), hsz hlt]) hc hl (Nat.le_refl _) (fun _ => rfl) (fun e => by cases e)) (fun e => by cases e) hrun

theorem op_slice_sm (h : Rel C vars nt G lb κ w a m) {t e : TypeId} {x : Operand} {lo hi : Option Operand} {id off n hh l : Nat} (hop : o.op = .slice t x lo hi none) (ht : C.P.underlying t = some (.slice e)) (hx : rdM false m x = some (.sm id off n (sizeT C.P e)))
    (h1 : optNat (rdM false m) hi n = some hh) (h2 : optNat (rdM false m) lo 0 = some l) (hc : hh ≤ n) (hl : l ≤ hh) (hz : 0 < sizeT C.P e)
    (hv : (l = 0 ∧ v = .sm id off hh (sizeT C.P e)) ∨ (l < hh ∧ v = .sm id (off + l * sizeT C.P e) (hh - l) (sizeT C.P e)) ∨ (l = hh ∧ v = .sl 0 false [])) : OpOk C vars nt G lb κ w a m m o v := by
  obtain ⟨B, s, lim, cap, q1, q2, q3, q4, ec⟩ := (rd_vrel h hx rfl).inv_sm
  have hrun : (execOp a.eval o).run C.P w = .ok (.value (.slice (some ⟨B, (if cap = l then s + off else s + off + l * sizeT C.P e), none⟩) (hh - l) (cap - l))) w := by
    simp only [execOp, hop, ec, Instr.sliceAt, Instr.slice, Sem.run_bind, run_underlying ht, Result.andThen_ok, run_bounds h h1 h2 (Nat.le_trans hc q3) hl, Option.map_none, run_size' (Nat.ne_of_gt hz), Sem.run_pure]
    split <;> simp [Addr.add_none]
  rcases hv with ⟨rfl, rfl⟩ | ⟨hlt, rfl⟩ | ⟨rfl, rfl⟩
  · refine .of_plain h hrun ?_ rfl
    have : (if cap = 0 then s + off else s + off + 0 * sizeT C.P e) = s + off := by split <;> omega
    rw [this]
    exact .sm q1 q2 (by omega) q4
  · refine .of_plain h hrun ?_ rfl
    rw [if_neg (by omega), Nat.add_assoc s off]
    have : l * sizeT C.P e + (cap - l) * sizeT C.P e = cap * sizeT C.P e := by rw [← Nat.add_mul]; congr 1; omega
    exact .sm q1 q2 (by omega) (by omega)
  · refine .of_plain h hrun ?_ rfl
    rw [Nat.sub_self]
    exact .sl (sz := 0) (fun x hx => nomatch hx) (fun j c hj => by simp [flat] at hj) (fun j c x hj => by simp [flat] at hj) (Nat.zero_le _) (fun e => by cases e) (fun e => by cases e)
end
end Go.Mu
end
section
/- Values built of parts. -/
set_option linter.unusedSimpArgs false
set_option linter.unusedVariables false
set_option linter.constructorNameAsVariable false
namespace Go.Mu
section
variable {C : Cfg} {vars nt : Nat} {G G' : Gh} {lb lb' : Nat → Option Nat} {κ κ' : Nat → Bool} {w w' : World} {a : Act} {m m' : M} {o : Oper} {v : V} {P : Program}

theorem rss_splice {cs xs : List V} {l ys : List Value} {off : Nat} (hl : l.length = cs.length) (hx : ys.length = xs.length) (hle : off + xs.length ≤ cs.length) :
    ∃ p q, rss cs l = p ++ (q ++ rss (cs.drop (off + xs.length)) (l.drop (off + xs.length))) ∧ rss (splice cs off xs) (l.take off ++ (ys ++ l.drop (off + ys.length))) = p ++ (rss xs ys ++ rss (cs.drop (off + xs.length)) (l.drop (off + xs.length))) := by
  have e1 := rss_take_drop cs l hl off
  have e2 := rss_take_drop (cs.drop off) (l.drop off) (by simp [hl]) xs.length
  rw [List.drop_drop, List.drop_drop] at e2
  refine ⟨_, _, by rw [e1, e2], ?_⟩
  rw [splice, rss_append _ _ _ _ (by simp [hl]), rss_append _ _ _ _ hx, hx]

/-- Cells that are laid one by one. -/
theorem foldl_lay (off : Nat) : ∀ (vs : List Value) (k : Nat) (c : Array Value), off + k + vs.length ≤ c.size → (vs.zipIdx k).foldl (fun cs (x, j) => cs.setIfInBounds (off + j) x) c = Mu.lay c (off + k) vs
  | [], k, c, h => by simp [Mu.lay_nil]
  | v :: vs, k, c, h => by
    simp only [List.length_cons] at h
    simp only [List.zipIdx_cons, List.foldl_cons]
    rw [foldl_lay off vs (k + 1) _ (by rw [Array.size_setIfInBounds]; omega), show off + (k + 1) = off + k + 1 by omega, Mu.lay_cons (by omega)]

/-- What is being built: its cells, and whose blocks they own: those of some temporaries. -/
structure Built (vars : Nat) (G : Gh) (ts : List Nat) (cs : List V) (l : List Value) : Prop where
  len : l.length = cs.length
  cell : ∀ c ∈ cs, isCell c = true
  rel : ∀ (j : Nat) v x, cs[j]? = some v → l[j]? = some x → VRel G v x
  nodup : (rss cs l).Nodup
  own : ∀ B ∈ rss cs l, ∃ t ∈ ts, bit vars t = false ∧ G.own B = some (.sv t)

theorem Built.splice {ts ts' : List Nat} {cs xs : List V} {l ys : List Value} {off : Nat} (h : Built vars G ts cs l) (hx : ys.length = xs.length) (hr : ∀ (j : Nat) u y, xs[j]? = some u → ys[j]? = some y → VRel G u y) (hc : ∀ u ∈ xs, isCell u = true)
    (hn : (rss xs ys).Nodup) (ho : ∀ B ∈ rss xs ys, ∃ t ∈ ts', bit vars t = false ∧ G.own B = some (.sv t)) (hd : ∀ t ∈ ts, t ∈ ts' → bit vars t = true) (hle : off + xs.length ≤ cs.length) :
    Built vars G (ts ++ ts') (Mu.splice cs off xs) (l.take off ++ (ys ++ l.drop (off + ys.length))) := by
  have hl := h.len
  obtain ⟨p, q, e1, e2⟩ := rss_splice hl hx hle
  have hn0 := h.nodup
  have ho0 := h.own
  rw [e1] at hn0 ho0
  have hn1 := List.nodup_append.1 hn0
  have hn2 := List.nodup_append.1 hn1.2.1
  have dis : ∀ B, B ∈ p ++ (q ++ rss (cs.drop (off + xs.length)) (l.drop (off + xs.length))) → B ∈ rss xs ys → False := by
    intro B h1 h2
    obtain ⟨t, k1, k2, k3⟩ := ho0 B h1
    obtain ⟨t', k4, k5, k6⟩ := ho B h2
    rw [k3] at k6
    cases k6
    rw [hd t k1 k4] at k2; cases k2
  refine ⟨by simp [Mu.splice, hl, hx], fun u hu => ?_, fun j u y hu hy => ?_, ?_, fun B hB => ?_⟩
  · simp only [Mu.splice, List.mem_append] at hu
    rcases hu with hu | hu | hu
    · exact h.cell u (List.mem_of_mem_take hu)
    · exact hc u hu
    · exact h.cell u (List.mem_of_mem_drop hu)
  · simp only [Mu.splice] at hu
    have h1 : (cs.take off).length = off := by simp; omega
    have h1' : (l.take off).length = off := by simp; omega
    by_cases e1 : j < off
    · rw [List.getElem?_append_left (by omega), List.getElem?_take, if_pos e1] at hu hy
      exact h.rel j u y hu hy
    · rw [List.getElem?_append_right (by omega), h1] at hu
      rw [List.getElem?_append_right (by omega), h1'] at hy
      by_cases e2 : j < off + xs.length
      · rw [List.getElem?_append_left (by omega)] at hu hy
        exact hr _ u y hu hy
      · rw [List.getElem?_append_right (by omega), List.getElem?_drop] at hu hy
        rw [hx] at hy
        exact h.rel _ u y hu hy
  · rw [e2]
    refine List.nodup_append.2 ⟨hn1.1, List.nodup_append.2 ⟨hn, hn2.2.1, fun B hB B' hB' e => ?_⟩, fun B hB B' hB' e => ?_⟩
    · subst e
      exact dis B (by simp [hB']) hB
    · subst e
      rcases List.mem_append.1 hB' with g | g
      · exact dis B (by simp [hB]) g
      · exact hn1.2.2 B hB B (by simp [g]) rfl
  · rw [e2] at hB
    rcases List.mem_append.1 hB with g | g
    · obtain ⟨t, k1, k2⟩ := ho0 B (by simp [g])
      exact ⟨t, by simp [k1], k2⟩
    · rcases List.mem_append.1 g with g | g
      · obtain ⟨t, k1, k2⟩ := ho B g
        exact ⟨t, by simp [k1], k2⟩
      · obtain ⟨t, k1, k2⟩ := ho0 B (by simp [g])
        exact ⟨t, by simp [k1], k2⟩

theorem noDup_sub {vars : Nat} {l l' : List Nat} (h : (l ++ l').Nodup) : l.Nodup ∧ l'.Nodup ∧ ∀ t ∈ l, t ∉ l' := by
  obtain ⟨h1, h2, h3⟩ := List.nodup_append.1 h
  exact ⟨h1, h2, fun t ht ht' => h3 t ht t ht' rfl⟩

/-- The parts laid one by one. -/
theorem fill_putG (h : Rel C vars nt G lb κ w a m) (place : Nat → Option (Nat × Nat)) : ∀ (ps : List (Nat × Operand)) (ts : List Nat) (cs : List V) (l : List Value) (cs' : List V), Built vars G ts cs l → (∀ t ∈ ps.flatMap fun p => tmpOf p.2, κ t = false) →
    ((ts ++ ps.flatMap fun p => tmpOf p.2).filter fun t => !bit vars t).Nodup → putG place (rdM false m) ps cs = some cs' →
    ∃ l', Instr.fill place l.toArray (ps.map fun p => (p.1, a.eval p.2)) = some l'.toArray ∧ Built vars G (ts ++ ps.flatMap fun p => tmpOf p.2) cs' l' ∧ cs'.length = cs.length
  | [], ts, cs, l, cs', hb, hk, hn, hp => by
    simp only [putG, Option.some.injEq] at hp
    subst hp
    exact ⟨l, rfl, by simpa using hb, rfl⟩
  | (i, x) :: r, ts, cs, l, cs', hb, hk, hn, hp => by
    simp only [putG] at hp
    cases e1 : place i with
    | none => simp [e1] at hp
    | some pq =>
      obtain ⟨off, size⟩ := pq
      cases e2 : rdM false m x with
      | none => simp [e1, e2] at hp
      | some u =>
        simp only [e1, e2] at hp
        cases e3 : (stor u && Nat.beq (cellsOf u).length size && leB (off + (cellsOf u).length) cs.length) with
        | false => simp [e3] at hp
        | true =>
          simp only [e3, cond_true] at hp
          simp only [Bool.and_eq_true] at e3
          obtain ⟨⟨hs, hz⟩, hle⟩ := e3
          have hz := beq_true hz
          have hle := leB_iff.1 hle
          have hk1 : ∀ t, x = .tmp t → κ t = false := fun t e => hk t (by simp [List.flatMap_cons, tmpOf_mem e])
          obtain ⟨k1, k2⟩ := rd_take_out h e2 (l := tmpOf x) hk1 (fun t e => tmpOf_mem e)
          obtain ⟨p1, p2⟩ := stor_plain hs
          rw [OutRel.plain p1 p2] at k1
          obtain ⟨c1, c2, c3, c4, c5⟩ := cells_of k1.1 hs
          have hn' : ((ts ++ (tmpOf x ++ r.flatMap fun p => tmpOf p.2)).filter fun t => !bit vars t).Nodup := by simpa [List.flatMap_cons] using hn
          have hb' := hb.splice (ts' := tmpOf x) c1 c2 c3 (by rw [c4]; exact k1.2.1) (fun B hB => by
              obtain ⟨t, q1, q2, q3⟩ := k2 B (by rw [← c4]; exact hB)
              exact ⟨t, tmpOf_mem q1, q2, q3⟩)
            (fun t ht ht' => by
              cases hbit : bit vars t with
              | true => rfl
              | false =>
                rw [List.filter_append, List.filter_append] at hn'
                have := (List.nodup_append.1 hn').2.2 t (by simp [ht, hbit]) t (by simp [ht', hbit])
                exact absurd rfl this) hle
          obtain ⟨l', q1, q2, q3⟩ := fill_putG h place r (ts ++ tmpOf x) _ _ cs' hb' (fun t ht => hk t (by simp only [List.flatMap_cons, List.mem_append]; exact .inr ht)) (by rw [List.append_assoc]; exact hn') hp
          refine ⟨l', ?_, by rw [List.flatMap_cons, ← List.append_assoc]; exact q2, ?_⟩
          · have hcs : (a.eval x).cells.size = size := by rw [← hz, ← c1]; simp
            have hl := hb.len
            have hcl : (a.eval x).cells.toList.length = size := by simpa using hcs
            simp only [List.map_cons, Instr.fill, e1]
            rw [if_neg (by simp [hcs]; omega), ← q1]
            congr 1
            have := foldl_lay off (a.eval x).cells.toList 0 l.toArray (by simp; omega)
            rw [Nat.add_zero] at this
            rw [← Array.foldl_toList, Array.toList_zipIdx]
            rw [this]
            simp [Mu.lay]
          · rw [q3]
            simp [Mu.splice]; omega

theorem placesL_eq : ∀ (fs : List Field), fs.mapM (fun f => (P.info? f.type).map fun i => (f.offset, i.size)) = placesL P fs
  | [] => rfl
  | f :: r => by
    rw [List.mapM_cons, placesL_eq r]
    simp only [placesL]
    cases P.info? f.type <;> cases placesL P r <;> rfl

theorem Built.zero {cs : List V} {c : Value} (h : VRel G (.ag cs) c) (p : pl (.ag cs) = true) : Built vars G [] cs c.cells.toList ∧ c = .agg c.cells := by
  obtain ⟨l, rfl, h1, h2, h3⟩ := h.inv_ag
  have hr : rss cs l = [] := rss_pls _ _ (by simpa [pl] using p)
  exact ⟨⟨h1, h2, h3, by simp [Value.cells, hr], by simp [Value.cells, hr]⟩, rfl⟩

theorem op_built (h : Rel C vars nt G lb κ w a m) {t : TypeId} {ps : Array (Nat × Operand)} {cs : List V} {l : List Value} (hop : o.op = .build t ps) (hb : C.P.built t (ps.toList.map fun p => (p.1, a.eval p.2)) = some l.toArray)
    (hB : Built vars G (ps.toList.flatMap fun p => tmpOf p.2) cs l) : OpOk C vars nt G lb κ w a m m o (.ag cs) := by
  have hrun : (execOp a.eval o).run C.P w = .ok (.value (.agg l.toArray)) w := by
    have := run_build (P := C.P) w t (ps.map fun (i, x) => (i, a.eval x)) l.toArray (by rw [Array.toList_map]; exact hb)
    simp only [execOp, hop, Sem.run_bind, this, Result.andThen_ok, Sem.run_pure]
  have hus : uses o.op = ps.toList.flatMap fun p => tmpOf p.2 := by rw [hop]; rfl
  have hrs : rs (.ag cs) (.agg l.toArray) = rss cs l := by simp [rs]
  refine .of_pure h hrun ⟨.ag hB.len hB.cell hB.rel, by rw [hrs]; exact hB.nodup, fun B hb' => ?_⟩ (fun B hb' => ?_)
  · rw [hrs] at hb'
    obtain ⟨t', q1, q2, q3⟩ := hB.own B hb'
    exact .inr ⟨t', q3, .inl (by rw [hus]; simp only [takes, q2, Bool.not_false, Bool.true_and, Bool.or_eq_true]; exact .inr (List.contains_iff_mem.2 q1))⟩
  · rw [hrs] at hb'
    obtain ⟨t', q1, q2, q3⟩ := hB.own B hb'
    exact ⟨_, q3⟩

theorem op_build_struct (h : Rel C vars nt G lb κ w a m) {t : TypeId} {ps : Array (Nat × Operand)} {fs : Array Field} {pls : List (Nat × Nat)} {z cs : List V} (hop : o.op = .build t ps) (ht : C.P.underlying t = some (.struct fs)) (hz : zeroT C.P t = some (.ag z)) (hpl : placesL C.P fs.toList = some pls)
    (hv : putG (fun i => pls[i]?) (rdM false m) ps.toList z = some cs) (hk : ∀ t ∈ uses o.op, κ t = false) (hn : ((uses o.op).filter fun t => !bit vars t).Nodup) : OpOk C vars nt G lb κ w a m m o (.ag cs) := by
  have hus : uses o.op = ps.toList.flatMap fun p => tmpOf p.2 := by rw [hop]; rfl
  rw [hus] at hk hn
  obtain ⟨i, c, h1, h2, h3, h4, h5⟩ := zeroT_ok hz G
  obtain ⟨b1, b2⟩ := Built.zero (vars := vars) h3 h4
  obtain ⟨l', q1, q2, q3⟩ := fill_putG h (fun i => pls[i]?) ps.toList [] z _ cs b1 hk (by simpa using hn) hv
  refine op_built h hop (l := l') ?_ (by simpa using q2)
  unfold Program.built
  simp only [h1, ht, h2, placesL_eq, hpl]
  have : (fun x : Nat => pls.toArray[x]?) = fun i : Nat => pls[i]? := by funext i; simp
  rw [this]
  simpa using q1

theorem op_build_array (h : Rel C vars nt G lb κ w a m) {t e : TypeId} {n : Nat} {ps : Array (Nat × Operand)} {z cs : List V} (hop : o.op = .build t ps) (ht : C.P.underlying t = some (.array n e)) (hz : zeroT C.P t = some (.ag z)) (hT : hasT C.P e = true)
    (hv : putG (fun i => some (i * sizeT C.P e, sizeT C.P e)) (rdM false m) ps.toList z = some cs) (hk : ∀ t ∈ uses o.op, κ t = false) (hn : ((uses o.op).filter fun t => !bit vars t).Nodup) : OpOk C vars nt G lb κ w a m m o (.ag cs) := by
  have hus : uses o.op = ps.toList.flatMap fun p => tmpOf p.2 := by rw [hop]; rfl
  rw [hus] at hk hn
  obtain ⟨i, c, h1, h2, h3, h4, h5⟩ := zeroT_ok hz G
  obtain ⟨b1, b2⟩ := Built.zero (vars := vars) h3 h4
  obtain ⟨l', q1, q2, q3⟩ := fill_putG h (fun i => some (i * sizeT C.P e, sizeT C.P e)) ps.toList [] z _ cs b1 hk (by simpa using hn) hv
  refine op_built h hop (l := l') ?_ (by simpa using q2)
  unfold Program.built
  obtain ⟨ie, hie⟩ : ∃ ie, C.P.info? e = some ie := by
    cases e' : C.P.info? e with
    | none => exact absurd e' (hasT_info hT)
    | some ie => exact ⟨ie, rfl⟩
  have hsz : ie.size = sizeT C.P e := by simp [sizeT, hie]
  simp only [h1, ht, h2, hie, hsz]
  simpa using q1
end
end Go.Mu
end
section
/- New rows. -/
set_option linter.unusedSimpArgs false
set_option linter.unusedVariables false
set_option linter.constructorNameAsVariable false
namespace Go.Mu
section
variable {C : Cfg} {vars nt : Nat} {G G' : Gh} {lb lb' : Nat → Option Nat} {κ κ' : Nat → Bool} {w w' : World} {a : Act} {m m' : M} {o : Oper} {v : V} {P : Program}

def Gh.newRow (G : Gh) (B : Nat) (cc : Array Value) (n : Nat) (t : Option (Nat × Nat)) : Gh := { G with ic := fun b o => if b = B then (if o < n then cc[o]? else none) else G.ic b o, tl := fun b => if b = B then t else G.tl b }

theorem WOk.ic_lt (ok : WOk G w) {B o : Nat} {v : Value} (h : G.ic B o = some v) : B < w.heap.size := by
  obtain ⟨c, T, fz, hb, _⟩ := World.block_of_cell (ok.ic B o v h)
  exact lt_of_block hb

theorem newRow_ok (ok : WOk G w) {cc : Array Value} {T : TypeId} {fz : Nat × Nat} {n : Nat} (tl : Option (Nat × Nat)) (htl : ∀ e l, tl = some (e, l) → n ≤ e ∧ l ≤ cc.size ∧ ∀ o, e ≤ o → o < l → ¬ (fz.1 ≤ o ∧ o < fz.2)) :
    WOk (G.newRow w.heap.size cc n tl) (w.alloc (.cells cc T fz)) := by
  have hnew : (w.alloc (.cells cc T fz)).heap[w.heap.size]? = some (.cells cc T fz) := World.alloc_new
  refine ⟨fun B o v hv => ?_, fun B e l hB o ho => ?_, fun B e l hB o ho hl => ?_, fun B x hx => ?_, fun B x hx => ?_, fun B hB => ?_⟩
  · have hv' : (if B = w.heap.size then (if o < n then cc[o]? else none) else G.ic B o) = some v := hv
    by_cases e : B = w.heap.size
    · subst e
      rw [if_pos rfl] at hv'
      rw [World.cell?_block hnew]
      split at hv'
      · exact hv'
      · cases hv'
    · rw [if_neg e] at hv'
      rw [World.cell?_congr (World.alloc_old (ok.ic_lt hv'))]
      exact ok.ic B o v hv'
  · have hB' : (if B = w.heap.size then tl else G.tl B) = some (e, l) := hB
    show (if B = w.heap.size then (if o < n then cc[o]? else none) else G.ic B o) = none
    by_cases e1 : B = w.heap.size
    · rw [if_pos e1] at hB'
      have := (htl e l hB').1
      rw [if_pos e1, if_neg (by omega)]
    · rw [if_neg e1] at hB'
      rw [if_neg e1]
      exact ok.tlic B e l hB' o ho
  · have hB' : (if B = w.heap.size then tl else G.tl B) = some (e, l) := hB
    by_cases e1 : B = w.heap.size
    · subst e1
      rw [if_pos rfl] at hB'
      obtain ⟨h1, h2, h3⟩ := htl e l hB'
      refine ⟨⟨cc[o]'(by omega), by rw [World.cell?_block hnew]; exact Array.getElem?_eq_getElem (by omega)⟩, ?_⟩
      obtain ⟨lo, hi⟩ := fz
      have := h3 o ho hl
      simp only [World.frozen?, hnew]
      simp only [Bool.and_eq_false_iff, decide_eq_false_iff_not]
      by_cases q : lo ≤ o
      · exact .inr fun q2 => this ⟨q, q2⟩
      · exact .inl q
    · rw [if_neg e1] at hB'
      have := ok.tllt B _ hB'
      rw [World.cell?_congr (World.alloc_old this), World.frozen?_congr (World.alloc_old this)]
      exact ok.tl B e l hB' o ho hl
  · rw [World.alloc_size]
    exact Nat.lt_succ_of_lt (ok.lt B x hx)
  · have hB' : (if B = w.heap.size then tl else G.tl B) = some x := hx
    rw [World.alloc_size]
    by_cases e1 : B = w.heap.size
    · omega
    · rw [if_neg e1] at hB'
      exact Nat.lt_succ_of_lt (ok.tllt B x hB')
  · have hlt : B < w.heap.size := by
      rcases hB with ⟨id, hB⟩ | ⟨s, hB⟩ | hB <;> exact ok.lt B _ hB
    have e1 : B ≠ w.heap.size := by omega
    obtain ⟨q1, q2⟩ := ok.excl B hB
    refine ⟨fun o => ?_, ?_⟩
    · show (if B = w.heap.size then (if o < n then cc[o]? else none) else G.ic B o) = none
      rw [if_neg e1]; exact q1 o
    · show (if B = w.heap.size then tl else G.tl B) = none
      rw [if_neg e1]; exact q2

theorem newRow_le (ok : WOk G w) (cc : Array Value) (n : Nat) (tl : Option (Nat × Nat)) : GLe G (G.newRow w.heap.size cc n tl) :=
  ⟨fun B o v hv => by
    show (if B = w.heap.size then (if o < n then cc[o]? else none) else G.ic B o) = some v
    rw [if_neg (Nat.ne_of_lt (ok.ic_lt hv))]; exact hv, Nat.le_refl _, fun _ _ => rfl⟩

theorem Rel.newRow (h : Rel C vars nt G lb κ w a m) (hκ : ∀ t, κ t = true → κ' t = true) {cc : Array Value} {T : TypeId} {fz : Nat × Nat} {n : Nat} (tl : Option (Nat × Nat)) (htl : ∀ e l, tl = some (e, l) → n ≤ e ∧ l ≤ cc.size ∧ ∀ o, e ≤ o → o < l → ¬ (fz.1 ≤ o ∧ o < fz.2)) :
    Rel C vars nt (G.newRow w.heap.size cc n tl) lb κ' (w.alloc (.cells cc T fz)) a m ∧ Keeps G w (w.alloc (.cells cc T fz)) ∧ Ext G (G.newRow w.heap.size cc n tl) w := by
  have ok := h.heap.ok
  have hle := newRow_le ok cc n tl
  have htlk : ∀ B x, G.own B = some x → (G.newRow w.heap.size cc n tl).tl B = G.tl B := fun B x hB => if_neg (Nat.ne_of_lt (ok.lt B x hB))
  refine ⟨?_, ⟨by rw [World.alloc_size]; omega, fun B hB _ => World.alloc_old hB, rfl, rfl⟩, ⟨hle, fun B hB => ⟨hB, htlk B _ hB, fun o => if_neg (Nat.ne_of_lt (ok.lt B _ hB))⟩, fun B hB ho => ho⟩⟩
  exact Rel.xfer (L' := m.L) (st' := m.st) h hle hκ (fun _ => False) (fun _ h => h.elim) (fun h => h) (fun B x hx _ => ⟨hx, htlk B x hx, World.alloc_old (ok.lt B x hx)⟩) (newRow_ok ok tl htl) h.heap.nx (fun _ _ _ _ => rfl)
    (fun s v hv => .inl ⟨hv, fun h => h, fun h => h, rfl⟩) (fun id x hx => by
      rcases h.heap.obj id x hx with ⟨B, s, l, g1, g2, g3, g4⟩ | g
      · exact .inl ⟨hx, fun h => h, fun h => h, g3⟩
      · exact .inr (.inr g))

/-- A new row, as a value. -/
theorem row_vrel (ok : WOk G w) {cc : Array Value} {n cap sz ow : Nat} {xs : List V} {tl : Option (Nat × Nat)} (hsz : ∀ x ∈ xs, (cellsOf x).length = sz) (hn : n = xs.length * sz) (hc : ∀ (j : Nat) c, (flat xs)[j]? = some c → pl c = true ∧ isCell c = true ∧ ∃ x, cc[j]? = some x ∧ VRel G c x)
    (hcap : xs.length ≤ cap) (h1 : ow = 1 → cap = xs.length) (h2 : ow = 2 → xs ≠ [] ∧ ∃ l, tl = some (n, l) ∧ cap * sz ≤ l) :
    VRel (G.newRow w.heap.size cc n tl) (.sl ow false xs) (.slice (some ⟨w.heap.size, 0, none⟩) xs.length cap) := by
  have hfl := flat_length xs sz hsz
  have hic : ∀ (j : Nat) c, (flat xs)[j]? = some c → (G.newRow w.heap.size cc n tl).ic w.heap.size (0 + j) = cc[j]? := fun j c hj => by
    have : j < (flat xs).length := by
      rcases Nat.lt_or_ge j (flat xs).length with g | g
      · exact g
      · rw [List.getElem?_eq_none g] at hj; cases hj
    show (if w.heap.size = w.heap.size then (if 0 + j < n then cc[0 + j]? else none) else _) = _
    rw [if_pos rfl, if_pos (by omega), Nat.zero_add]
  refine .sl (s := 0) hsz (fun j c hj => ?_) (fun j c x hj hx => ?_) hcap h1 (fun e => ?_)
  · obtain ⟨q1, q2, x, q3, _⟩ := hc j c hj
    exact ⟨q1, q2, x, (hic j c hj).trans q3⟩
  · obtain ⟨q1, q2, y, q3, q4⟩ := hc j c hj
    rw [hic j c hj, q3] at hx
    cases hx
    exact q4.mono_pl (newRow_le ok cc n tl) q1
  · obtain ⟨q1, l, q2, q3⟩ := h2 e
    refine ⟨q1, l, ?_, by omega⟩
    show (if w.heap.size = w.heap.size then tl else _) = _
    rw [if_pos rfl, q2, hn, Nat.zero_add]

/-- Cells, none of which has a right to append, that stand for others. -/
structure Plain (G : Gh) (cs : List V) (l : List Value) : Prop where
  len : l.length = cs.length
  cell : ∀ (j : Nat) c, cs[j]? = some c → pl c = true ∧ isCell c = true ∧ ∃ x, l[j]? = some x ∧ VRel G c x
theorem Plain.append {cs ds : List V} {l q : List Value} (h : Plain G cs l) (h' : Plain G ds q) : Plain G (cs ++ ds) (l ++ q) := by
  refine ⟨by simp [h.len, h'.len], fun j c hj => ?_⟩
  rw [List.getElem?_append] at hj ⊢
  split at hj
  · rw [if_pos (by rw [h.len]; assumption)]; exact h.cell j c hj
  · rw [if_neg (by rw [h.len]; assumption), h.len]; exact h'.cell _ c hj
theorem Plain.take {cs : List V} {l : List Value} (h : Plain G cs l) (n : Nat) : Plain G (cs.take n) (l.take n) := by
  refine ⟨by simp [h.len], fun j c hj => ?_⟩
  rw [List.getElem?_take] at hj ⊢
  split at hj
  · rename_i e; rw [if_pos e]; exact h.cell j c hj
  · cases hj
theorem Plain.drop {cs : List V} {l : List Value} (h : Plain G cs l) (n : Nat) : Plain G (cs.drop n) (l.drop n) := by
  refine ⟨by simp [h.len], fun j c hj => ?_⟩
  rw [List.getElem?_drop] at hj ⊢
  exact h.cell _ c hj
theorem Plain.splice {cs ds : List V} {l q : List Value} {off : Nat} (h : Plain G cs l) (h' : Plain G ds q) : Plain G (Mu.splice cs off ds) (l.take off ++ (q ++ l.drop (off + q.length))) := by
  rw [h'.len]
  exact (h.take off).append (h'.append (h.drop _))
theorem Plain.of {c : Value} (h : VRel G v c) (hs : stor v = true) (p : pl v = true) : Plain G (cellsOf v) c.cells.toList := by
  obtain ⟨c1, c2, c3, c4, c5⟩ := cells_of h hs
  refine ⟨c1, fun j u hu => ?_⟩
  obtain ⟨x, hx⟩ := get_of_len c1 hu
  refine ⟨?_, c3 u (List.mem_of_getElem? hu), x, hx, c2 j u x hu hx⟩
  by_cases ha : ∃ cs, v = .ag cs
  · obtain ⟨cs, rfl⟩ := ha
    have p' : pls cs = true := by simpa [pl] using p
    exact pls_get p' hu
  · have hco : cellsOf v = [v] := by cases v <;> first | rfl | exact absurd ⟨_, rfl⟩ ha
    rw [hco] at hu
    cases j with
    | zero => simp at hu; subst hu; exact p
    | succ j => simp at hu
theorem Plain.heldL {x : Own} {cs : List V} {l : List Value} (h : Plain G cs l) (hle : GLe G G') : HeldL G' x cs l := by
  have hr : rss cs l = [] := rss_pls _ _ (pls_ofValues _ fun j v hv => (h.cell j v hv).1)
  refine ⟨h.len, fun j v c hv hc => ?_, fun c hc => ?_, by rw [hr]; exact List.nodup_nil, by rw [hr]; exact fun B hB => nomatch hB⟩
  · obtain ⟨q1, q2, y, q3, q4⟩ := h.cell j v hv
    rw [hc] at q3; cases q3
    exact q4.mono_pl hle q1
  · obtain ⟨j, hj⟩ := List.mem_iff_getElem?.1 hc
    exact (h.cell j c hj).2.1

theorem flat_splice {xs : List V} {sz i : Nat} {y : V} (h : ∀ x ∈ xs, (cellsOf x).length = sz) (hy : (cellsOf y).length = sz) (hi : i < xs.length) : flat (splice xs i [y]) = splice (flat xs) (i * sz) (cellsOf y) := by
  simp only [splice, flat_append, flat_take xs sz i h, flat, List.append_nil, List.length_cons, List.length_nil, flat_drop xs sz _ h, hy]
  rw [show (i + (0 + 1)) * sz = i * sz + sz by rw [Nat.add_mul]; omega]

theorem fits_down {e : TypeId} (h : fits P e v = true) (hs : stor v = true) : (cellsOf (down v)).length = sizeT P e := by
  have := fits_size h
  cases v <;> simp_all [down, cellsOf, stor, downs_length]

/-- The elements laid one by one. -/
theorem fill_putRow (h : Rel C vars nt G lb κ w a m) (e : TypeId) : ∀ (ps : List (Nat × Operand)) (xs : List V) (l : List Value) (xs' : List V), Plain G (flat xs) l → (∀ x ∈ xs, (cellsOf x).length = sizeT C.P e) → putRow C.P e (rdM false m) ps xs = some xs' →
    ∃ l', Instr.fill (fun i => some (i * sizeT C.P e, sizeT C.P e)) l.toArray (ps.map fun p => (p.1, a.eval p.2)) = some l'.toArray ∧ Plain G (flat xs') l' ∧ (∀ x ∈ xs', (cellsOf x).length = sizeT C.P e) ∧ xs'.length = xs.length
  | [], xs, l, xs', hb, hz, hp => by
    simp only [putRow, Option.some.injEq] at hp
    subst hp
    exact ⟨l, rfl, hb, hz, rfl⟩
  | (i, x) :: r, xs, l, xs', hb, hz, hp => by
    simp only [putRow] at hp
    cases e2 : rdM false m x with
    | none => simp [e2] at hp
    | some u =>
      simp only [e2] at hp
      cases e3 : (stor u && fits C.P e u && ltB i xs.length) with
      | false => simp [e3] at hp
      | true =>
        simp only [e3, cond_true] at hp
        simp only [Bool.and_eq_true] at e3
        obtain ⟨⟨hs, hf⟩, hi⟩ := e3
        have hi := ltB_iff.1 hi
        have hsz := fits_down hf hs
        have hsd : stor (down u) = true := by cases u <;> simp_all [stor, down]
        have hr := rd_vrel h e2 (stor_good hs)
        have hpl := Plain.of hr hsd (pl_down u)
        have hfl := flat_splice hz hsz hi
        have hb' := hb.splice (off := i * sizeT C.P e) hpl
        rw [← hfl] at hb'
        have hz' : ∀ y ∈ splice xs i [down u], (cellsOf y).length = sizeT C.P e := fun y hy => by
          simp only [splice, List.mem_append, List.mem_cons, List.not_mem_nil, or_false] at hy
          rcases hy with hy | hy | hy
          · exact hz y (List.mem_of_mem_take hy)
          · rw [hy]; exact hsz
          · exact hz y (List.mem_of_mem_drop hy)
        obtain ⟨l', q1, q2, q3, q4⟩ := fill_putRow h e r _ _ xs' hb' hz' hp
        refine ⟨l', ?_, q2, q3, by rw [q4]; simp [splice]; omega⟩
        have hll := hb.len
        rw [flat_length xs _ hz] at hll
        have hcl : (a.eval x).cells.toList.length = sizeT C.P e := by rw [hpl.len]; exact hsz
        have hcs : (a.eval x).cells.size = sizeT C.P e := by rw [← hcl]; simp
        have hmul : i * sizeT C.P e + sizeT C.P e ≤ xs.length * sizeT C.P e := by
          have := Nat.mul_le_mul_right (sizeT C.P e) hi
          rw [Nat.succ_mul] at this
          exact this
        simp only [List.map_cons, Instr.fill]
        rw [if_neg (by simp [hcs]; omega), ← q1]
        congr 1
        have := foldl_lay (i * sizeT C.P e) (a.eval x).cells.toList 0 l.toArray (by simp; omega)
        rw [Nat.add_zero] at this
        rw [← Array.foldl_toList, Array.toList_zipIdx]
        rw [this]
        simp [Mu.lay]

theorem flat_replicate (z : V) : ∀ n : Nat, flat (List.replicate n z) = (List.replicate n (cellsOf z)).flatten
  | 0 => rfl
  | n + 1 => by simp [List.replicate_succ, flat, flat_replicate z n]

/-- The zeros of a new row. -/
theorem zeros_plain {z : V} {c : Value} {sz : Nat} (h : Plain G (cellsOf z) c.cells.toList) (hs : (cellsOf z).length = sz) (hz : 0 < sz) (n : Nat) :
    Plain G (flat (List.replicate n z)) ((Array.range (n * sz)).map (c.cells[· % c.cells.size]!)).toList := by
  have hfl : (flat (List.replicate n z)).length = n * sz := by
    rw [flat_length _ sz (fun x hx => by rw [(List.mem_replicate.1 hx).2, hs])]; simp
  have hcs : c.cells.size = sz := by rw [← hs, ← h.len]; simp
  refine ⟨by simp [hfl], fun j u hu => ?_⟩
  have hj : j < n * sz := by
    rcases Nat.lt_or_ge j (n * sz) with g | g
    · exact g
    · rw [List.getElem?_eq_none (by omega)] at hu; cases hu
  have hdiv : j / sz < n := Nat.div_lt_of_lt_mul (by rw [Nat.mul_comm]; exact hj)
  have hmod : j % sz < sz := Nat.mod_lt _ hz
  have hcell : (cellsOf z)[j % sz]? = some ((cellsOf z)[j % sz]'(by omega)) := List.getElem?_eq_getElem (by omega)
  have hu' := flat_get (List.replicate n z) sz (fun x hx => by rw [(List.mem_replicate.1 hx).2, hs]) (j / sz) z (by simp [hdiv]) (j % sz) _ hcell
  have hjj : j / sz * sz + j % sz = j := by rw [Nat.mul_comm]; exact Nat.div_add_mod j sz
  rw [hjj, hu] at hu'
  obtain ⟨q1, q2, x, q3, q4⟩ := h.cell (j % sz) _ hcell
  have hu'' := Option.some.inj hu'
  rw [hu'']
  refine ⟨q1, q2, x, ?_, q4⟩
  rw [Array.toList_map, List.getElem?_map]
  simp only [Array.toList_range, List.getElem?_range hj, Option.map_some, hcs]
  rw [Array.getElem?_toList] at q3
  rw [getElem!_def, q3]
end
end Go.Mu
end
section
/- Operations that lay new rows. -/
set_option linter.unusedSimpArgs false
set_option linter.unusedVariables false
set_option linter.constructorNameAsVariable false
namespace Go.Mu
section
variable {C : Cfg} {vars nt : Nat} {G G' : Gh} {lb lb' : Nat → Option Nat} {κ κ' : Nat → Bool} {w w' : World} {a : Act} {m m' : M} {o : Oper} {v : V} {P : Program}

theorem Keeps.shift {w1 : World} (hw : w1.heap = w.heap) (hs : w1.os = w.os ∧ w1.output = w.output) (h : Keeps G w1 w') : Keeps G w w' := ⟨by rw [← hw]; exact h.size, fun B hB ho => by rw [← hw] at hB ⊢; exact h.old B hB ho, h.same.1.trans hs.1, h.same.2.trans hs.2⟩
theorem Ext.shift {w1 : World} (hw : w1.heap = w.heap) (h : Ext G G' w1) : Ext G G' w := ⟨h.le, h.fr, fun B hB hn => h.free B (by rw [hw]; exact hB) hn⟩

/-- A new row that holds its elements alone, as an object. -/
theorem op_newRow_sm (h : Rel C vars nt G lb κ w a m) {w1 : World} (hw : w1.heap = w.heap) {cc : Array Value} {T : TypeId} {sz len cap : Nat} (hr : (execOp a.eval o).run C.P w = .ok (.value (.slice (some ⟨w1.heap.size, 0, none⟩) len cap)) (w1.alloc (.cells cc T (0, 0))))
    {cs : List V} {n : Nat} (hcs : cs.length = n) (hp : Plain G cs (cc.toList.take n)) (hn : n ≤ cc.size) (hc : len ≤ cap) (hl : cap * sz ≤ cc.size) (hos : w1.os = w.os ∧ w1.output = w.output := by exact ⟨rfl, rfl⟩) :
    OpOk C vars nt G lb κ w a m { m with st := m.st.new (.cells cs) } o (.sm m.st.nx 0 len sz) := by
  obtain ⟨r1, r2, r3⟩ := Rel.newOb (x := .cells cs) (sz := cc.size) (l := []) (h.tape hw) (takes_le (uses o.op)) (fun B hB => nomatch hB) (ob := .cells cc T (0, 0)) (by
    refine ⟨cc, T, World.alloc_new, rfl, by omega, ?_⟩
    rw [List.drop_zero, hcs]
    exact hp.heldL ⟨fun _ _ _ h => h, Nat.le_succ _, fun id hid => if_neg (by omega)⟩)
  refine .of_rel hr r1 ?_ rfl (r2.shift hw hos) (r3.shift hw)
  exact .sm (s := 0) (l := cc.size) (by rw [← h.heap.nx]; exact Nat.lt_succ_self _) (if_pos h.heap.nx.symm) hc (by omega)

/-- A new row that never changes. -/
theorem op_newRow_sl (h : Rel C vars nt G lb κ w a m) {w1 : World} (hw : w1.heap = w.heap) {cc : Array Value} {T : TypeId} {fz : Nat × Nat} {xs : List V} {sz cap ow : Nat} (hr : (execOp a.eval o).run C.P w = .ok (.value (.slice (some ⟨w1.heap.size, 0, none⟩) xs.length cap)) (w1.alloc (.cells cc T fz)))
    (hsz : ∀ x ∈ xs, (cellsOf x).length = sz) (hp : Plain G (flat xs) (cc.toList.take (xs.length * sz))) (hn : xs.length * sz ≤ cc.size) (hcap : xs.length ≤ cap)
    (how : ow = 0 ∨ (ow = 1 ∧ cap = xs.length) ∨ (ow = 2 ∧ xs ≠ [] ∧ cap * sz ≤ cc.size ∧ (cc.size ≤ fz.1 ∨ fz = (0, 0)))) (hos : w1.os = w.os ∧ w1.output = w.output := by exact ⟨rfl, rfl⟩) :
    OpOk C vars nt G lb κ w a m m o (.sl ow false xs) := by
  have h1 := h.tape hw
  have ok := h1.heap.ok
  have hc : ∀ (j : Nat) c, (flat xs)[j]? = some c → pl c = true ∧ isCell c = true ∧ ∃ x, cc[j]? = some x ∧ VRel G c x := fun j c hj => by
    obtain ⟨q1, q2, x, q3, q4⟩ := hp.cell j c hj
    refine ⟨q1, q2, x, ?_, q4⟩
    rw [List.getElem?_take] at q3
    split at q3
    · rw [← Array.getElem?_toList]; exact q3
    · cases q3
  by_cases e : ow = 2
  · subst e
    have hx : xs ≠ [] ∧ cap * sz ≤ cc.size ∧ (cc.size ≤ fz.1 ∨ fz = (0, 0)) := by
      rcases how with g | ⟨g, _⟩ | g
      · cases g
      · cases g
      · exact g.2
    obtain ⟨r1, r2, r3⟩ := Rel.newRow (κ' := takes vars κ (uses o.op)) h1 (takes_le (uses o.op)) (cc := cc) (T := T) (fz := fz) (n := xs.length * sz) (some (xs.length * sz, cc.size)) (fun e l he => by
      cases he
      refine ⟨Nat.le_refl _, Nat.le_refl _, fun o' ho hl => ?_⟩
      rcases hx.2.2 with g | g
      · omega
      · rw [g]; simp)
    have hv := row_vrel (tl := some (xs.length * sz, cc.size)) (ow := 2) ok hsz rfl hc hcap (fun e => by cases e) (fun _ => ⟨hx.1, cc.size, rfl, hx.2.1⟩)
    refine ⟨_, _, lb, _, _, hr, .inl rfl, r1, ⟨hv, by simp [rs], fun B hB => .inl ?_⟩, fun B hB => ?_, r2.shift hw hos, r3.shift hw⟩
    · simp only [rs, if_true, List.mem_singleton] at hB
      subst hB
      cases e : G.own w1.heap.size with
      | none => exact e
      | some x => exact absurd (ok.lt _ _ e) (Nat.lt_irrefl _)
    · simp only [rs, if_true, List.mem_singleton] at hB
      subst hB
      exact ⟨by rw [World.alloc_size]; omega, fun hlt => absurd hlt (by rw [hw]; exact Nat.lt_irrefl _)⟩
  · obtain ⟨r1, r2, r3⟩ := Rel.newRow (κ' := takes vars κ (uses o.op)) h1 (takes_le (uses o.op)) (cc := cc) (T := T) (fz := fz) (n := xs.length * sz) none (fun e l he => by cases he)
    have hv := row_vrel (tl := none) (ow := ow) ok hsz rfl hc hcap (fun e1 => by
      rcases how with g | ⟨_, g⟩ | g
      · rw [g] at e1; cases e1
      · exact g
      · exact absurd g.1 e) (fun e1 => absurd e1 e)
    exact .of_rel hr r1 hv (by simp [pl, beq_ne e]) (r2.shift hw hos) (r3.shift hw)

/-- What a slice literal lays. -/
theorem run_literal (h : Rel C vars nt G lb κ w a m) {t e : TypeId} {len : Nat} {ps : Array (Nat × Operand)} {z : V} {xs : List V} (hop : o.op = .buildSlice t len ps) (ht : C.P.underlying t = some (.slice e)) (hz : zeroT C.P e = some z) (hf : fits C.P e z = true)
    (hm : len * sizeT C.P e ≤ 16777216) (hp : 0 < sizeT C.P e) (hv : putRow C.P e (rdM false m) ps.toList (List.replicate len z) = some xs) :
    ∃ cc : Array Value, (execOp a.eval o).run C.P w = .ok (.value (.slice (some ⟨w.heap.size, 0, none⟩) xs.length len)) (w.alloc (.cells cc e)) ∧ Plain G (flat xs) cc.toList ∧ (∀ x ∈ xs, (cellsOf x).length = sizeT C.P e) ∧ xs.length = len := by
  obtain ⟨i, c, h1, h2, h3, h4, h5⟩ := zeroT_ok hz G
  have hzp := Plain.of h3 h5 h4
  have hsz := fits_size hf
  have hz0 := zeros_plain hzp hsz hp len
  obtain ⟨l', q1, q2, q3, q4⟩ := fill_putRow h e ps.toList (List.replicate len z) _ xs hz0 (fun x hx => by rw [(List.mem_replicate.1 hx).2, hsz]) hv
  have hi : i.size = sizeT C.P e := by simp [sizeT, h1]
  have hlen : xs.length = len := by rw [q4]; simp
  refine ⟨l'.toArray, ?_, q2, q3, hlen⟩
  rw [hlen]
  by_cases hl0 : len = 0
  · subst hl0
    have hps : ps.toList = [] := by
      cases hh : ps.toList with
      | nil => rfl
      | cons p r =>
        exfalso
        rw [hh] at hv
        obtain ⟨i', x'⟩ := p
        simp only [putRow] at hv
        cases hu : rdM false m x' with
        | none => rw [hu] at hv; cases hv
        | some u =>
          rw [hu] at hv
          have e0 : ltB i' (List.replicate 0 z).length = false := rfl
          simp only [e0, Bool.and_false, cond_false, reduceCtorEq] at hv
    have hps' : ps = #[] := by apply Array.ext'; simpa using hps
    subst hps'
    simp [Instr.fill] at q1
    subst q1
    simp only [execOp, hop, Instr.buildSlice, Sem.run_bind, run_underlying ht, Result.andThen_ok, run_size' (Nat.ne_of_gt hp)]
    simp [newRow, Instr.fill, show Array.range 0 = #[] from rfl]
  · have hrun := run_buildSlice (P := C.P) w t e len (ps.map fun (i, x) => (i, a.eval x)) l'.toArray i c ht h1 h2 (by rw [hi]; omega) (by rw [hi]; exact Nat.mul_ne_zero hl0 (Nat.ne_of_gt hp)) (by rw [hi, Array.toList_map]; rw [Array.toArray_toList] at q1; exact q1)
    simp only [execOp, hop, Sem.run_bind, hrun, Result.andThen_ok, Sem.run_pure]

theorem op_buildSlice_sl (h : Rel C vars nt G lb κ w a m) {t e : TypeId} {len : Nat} {ps : Array (Nat × Operand)} {z : V} {xs : List V} (hop : o.op = .buildSlice t len ps) (ht : C.P.underlying t = some (.slice e)) (hz : zeroT C.P e = some z) (hf : fits C.P e z = true)
    (hm : len * sizeT C.P e ≤ 16777216) (hp : 0 < sizeT C.P e) (hv : putRow C.P e (rdM false m) ps.toList (List.replicate len z) = some xs) : OpOk C vars nt G lb κ w a m m o (.sl 1 false xs) := by
  obtain ⟨cc, q1, q2, q3, q4⟩ := run_literal h hop ht hz hf hm hp hv
  have hfl := flat_length xs _ q3
  have hcs : cc.size = xs.length * sizeT C.P e := by rw [← hfl, ← q2.len]; simp
  refine op_newRow_sl h rfl q1 q3 (by rw [← hcs, ← Array.length_toList, List.take_length]; exact q2) (by omega) (by omega) (.inr (.inl ⟨rfl, q4.symm⟩))
theorem op_buildSlice_sm (h : Rel C vars nt G lb κ w a m) {t e : TypeId} {len : Nat} {ps : Array (Nat × Operand)} {z : V} {xs : List V} (hop : o.op = .buildSlice t len ps) (ht : C.P.underlying t = some (.slice e)) (hz : zeroT C.P e = some z) (hf : fits C.P e z = true)
    (hm : len * sizeT C.P e ≤ 16777216) (hp : 0 < sizeT C.P e) (hv : putRow C.P e (rdM false m) ps.toList (List.replicate len z) = some xs) : OpOk C vars nt G lb κ w a m { m with st := m.st.new (.cells (flat xs)) } o (.sm m.st.nx 0 len (sizeT C.P e)) := by
  obtain ⟨cc, q1, q2, q3, q4⟩ := run_literal h hop ht hz hf hm hp hv
  have hfl := flat_length xs _ q3
  have hcs : cc.size = xs.length * sizeT C.P e := by rw [← hfl, ← q2.len]; simp
  rw [q4] at q1
  refine op_newRow_sm h rfl q1 (n := cc.size) (by omega) (by rw [← Array.length_toList, List.take_length]; exact q2) (Nat.le_refl _) (Nat.le_refl _) (by rw [hcs, q4]; exact Nat.le_refl _)

/-- What 'make' lays. -/
theorem run_make (h : Rel C vars nt G lb κ w a m) {t e : TypeId} {x y : Operand} {l c : Nat} {z : V} (hop : o.op = .makeSlice t x y) (ht : C.P.underlying t = some (.slice e)) (hx : (rdM false m x).bind asNat = some l) (hy : (rdM false m y).bind asNat = some c) (hz : zeroT C.P e = some z)
    (hlc : l ≤ c) (hsm : small C.P e c = true) (hm : c * sizeT C.P e ≤ 16777216) :
    ∃ cc : Array Value, (execOp a.eval o).run C.P w = .ok (.value (.slice (some ⟨w.heap.size, 0, none⟩) l c)) (w.alloc (.cells cc e)) ∧ Plain G (flat (List.replicate c z)) cc.toList ∧ (cellsOf z).length = sizeT C.P e ∧ 0 < sizeT C.P e := by
  obtain ⟨i, cz, h1, h2, h3, h4, h5⟩ := zeroT_ok hz G
  unfold small at hsm
  simp only [h1, hz, Bool.and_eq_true] at hsm
  obtain ⟨⟨⟨s1, s2⟩, s3⟩, s4⟩ := hsm
  have s1 := leB_iff.1 s1
  have s2 := ltB_iff.1 s2
  have s3 := ltB_iff.1 s3
  have hsz := fits_size s4
  have hi : i.size = sizeT C.P e := by simp [sizeT, h1]
  rw [hi] at s3
  have hzp := Plain.of h3 h5 h4
  obtain ⟨k1, e1⟩ := rd_asNat h hx
  obtain ⟨k2, e2⟩ := rd_asNat h hy
  have hc64 : c ≤ 16777216 := Nat.le_trans (Nat.le_mul_of_pos_right c s3) hm
  have hwl : IntKind.i64.wrap (l : Int) = l := by
    have : (l : Int) ≤ 16777216 := by omega
    exact (by rw [IntKind.wrap_i64]; omega)
  have hwc : IntKind.i64.wrap (c : Int) = c := by
    have : (c : Int) ≤ 16777216 := by omega
    exact (by rw [IntKind.wrap_i64]; omega)
  refine ⟨_, ?_, zeros_plain hzp hsz s3 c, hsz, s3⟩
  have hb : ¬ ((i.bytes : Int) * (c : Int) > 2 ^ 48) := by
    have : ((c * i.bytes : Nat) : Int) ≤ 140737488355328 := by omega
    rw [Int.natCast_mul] at this
    rw [Int.mul_comm]
    omega
  simp only [execOp, hop, e1, e2, Instr.makeSlice, Sem.run_bind, run_underlying ht, Result.andThen_ok, asInt, asIntOf, Sem.run_pure, typeInfo, run_program, h1, hwl, hwc]
  rw [if_neg (by simp only [Bool.or_eq_true, decide_eq_true_eq, not_or]; exact ⟨⟨⟨by omega, hb⟩, by omega⟩, by omega⟩)]
  simp only [Sem.run_bind, run_askRoom, Result.andThen_ok, run_size' (Nat.ne_of_gt s3), Int.toNat_natCast, Sem.run_ite]
  by_cases hc0 : c = 0
  · subst hc0
    rw [if_pos (Nat.zero_mul _)]
    simp only [Sem.run_pure, Result.andThen_ok, newRow, Sem.run_bind, run_newObj, Nat.zero_mul, show Array.range 0 = #[] from rfl, Array.map_empty]
    rfl
  · rw [if_neg (Nat.mul_ne_zero hc0 (Nat.ne_of_gt s3))]
    simp only [Sem.run_bind, run_zero h1 h2, Sem.run_pure, Result.andThen_ok, newRow, run_newObj]
    rfl

theorem replicate_fit {z : V} {sz n : Nat} (h : (cellsOf z).length = sz) : ∀ x ∈ List.replicate n z, (cellsOf x).length = sz := fun x hx => by rw [(List.mem_replicate.1 hx).2]; exact h
theorem op_makeSlice_sl (h : Rel C vars nt G lb κ w a m) {t e : TypeId} {x y : Operand} {l : Nat} {z : V} (hop : o.op = .makeSlice t x y) (ht : C.P.underlying t = some (.slice e)) (hx : (rdM false m x).bind asNat = some l) (hy : (rdM false m y).bind asNat = some l) (hz : zeroT C.P e = some z)
    (hsm : small C.P e l = true) (hm : l * sizeT C.P e ≤ 16777216) : OpOk C vars nt G lb κ w a m m o (.sl 1 false (List.replicate l z)) := by
  obtain ⟨cc, q1, q2, q3, q4⟩ := run_make h hop ht hx hy hz (Nat.le_refl _) hsm hm
  have hfl := flat_length _ _ (replicate_fit (n := l) q3)
  have hcs : cc.size = (List.replicate l z).length * sizeT C.P e := by rw [← hfl, ← q2.len]; simp
  have hlen : (List.replicate l z).length = l := List.length_replicate
  refine op_newRow_sl h rfl (cap := l) (by rw [hlen]; exact q1) (replicate_fit q3) (by rw [← hcs, ← Array.length_toList, List.take_length]; exact q2) (by omega) (by omega) (.inr (.inl ⟨rfl, hlen.symm⟩))
theorem op_makeSlice_sm (h : Rel C vars nt G lb κ w a m) {t e : TypeId} {x y : Operand} {l c : Nat} {z : V} (hop : o.op = .makeSlice t x y) (ht : C.P.underlying t = some (.slice e)) (hx : (rdM false m x).bind asNat = some l) (hy : (rdM false m y).bind asNat = some c) (hz : zeroT C.P e = some z)
    (hlc : l ≤ c) (hsm : small C.P e c = true) (hm : c * sizeT C.P e ≤ 16777216) : OpOk C vars nt G lb κ w a m { m with st := m.st.new (.cells (flat (List.replicate c z))) } o (.sm m.st.nx 0 l (sizeT C.P e)) := by
  obtain ⟨cc, q1, q2, q3, q4⟩ := run_make h hop ht hx hy hz hlc hsm hm
  have hfl := flat_length _ _ (replicate_fit (n := c) q3)
  have hcs : cc.size = (List.replicate c z).length * sizeT C.P e := by rw [← hfl, ← q2.len]; simp
  have hlen : (List.replicate c z).length = c := List.length_replicate
  refine op_newRow_sm h rfl q1 (n := cc.size) (by omega) (by rw [← Array.length_toList, List.take_length]; exact q2) (Nat.le_refl _) hlc (by rw [hcs, hlen]; exact Nat.le_refl _)

/-- Bytes out of a text. -/
theorem op_toBytes (h : Rel C vars nt G lb κ w a m) {src dst e : TypeId} {x : Operand} {z : ByteArray} (hop : o.op = .convert src dst x) (hs : C.P.underlying src = some .string) (hd : C.P.underlying dst = some (.slice e)) (he : C.P.underlying e = some (.int .u8)) (hx : rdM false m x = some (.s z)) :
    OpOk C vars nt G lb κ w a m m o (.sl (match z.data.toList with | [] => 0 | _ => 2) false (byteVs z.data.toList)) := by
  have ex := rd_s h hx
  have hrun := run_bytes_of_string (P := C.P) w src dst e z hs hd he
  have hcap := grownCap_ge w z.size 0 e
  have hlen : (byteVs z.data.toList).length = z.size := by rw [byteVs, List.length_map, Array.length_toList]; rfl
  have hd' : z.data.size = z.size := rfl
  have hsz : ∀ y ∈ byteVs z.data.toList, (cellsOf y).length = 1 := fun y hy => by
    obtain ⟨b, _, rfl⟩ := List.mem_map.1 hy; rfl
  have hfl : flat (byteVs z.data.toList) = byteVs z.data.toList := by
    simp only [byteVs]
    induction z.data.toList with
    | nil => rfl
    | cons b r ih => simp [flat, cellsOf, ih]
  have hrow : ∀ cap, z.size ≤ cap → (bytesRow z cap).size = cap := fun cap hc => by
    unfold bytesRow
    rw [Array.size_append, Array.size_map, Array.size_replicate, hd']
    omega
  have hbs : ∀ cap, z.size ≤ cap → Plain G (flat (byteVs z.data.toList)) ((bytesRow z cap).toList.take ((byteVs z.data.toList).length * 1)) := fun cap hc => by
    rw [hfl, Nat.mul_one, hlen]
    have e1 : (bytesRow z cap).toList.take z.size = z.data.toList.map fun b => Value.int .u8 b.toNat := by
      unfold bytesRow
      rw [Array.toList_append, Array.toList_map]
      rw [List.take_append_of_le_length (by rw [List.length_map, Array.length_toList, hd']; exact Nat.le_refl _), List.take_of_length_le (by rw [List.length_map, Array.length_toList, hd']; exact Nat.le_refl _)]
    rw [e1]
    refine ⟨by simp [byteVs], fun j c hj => ?_⟩
    simp only [byteVs, List.getElem?_map] at hj ⊢
    cases hh : z.data.toList[j]? with
    | none => simp [hh] at hj
    | some b =>
      simp [hh] at hj
      subst hj
      exact ⟨rfl, rfl, _, rfl, .i _ _⟩
  have run1 : (execOp a.eval o).run C.P w = .ok (.value (.slice (some ⟨w.heap.size, 0, none⟩) z.size (grownCap w z.size 0 e)))
      (w.drew.alloc (.cells (bytesRow z (grownCap w z.size 0 e)) e ((bytesRow z (grownCap w z.size 0 e)).size, (bytesRow z (grownCap w z.size 0 e)).size + 1))) := by
    simp only [execOp, hop, ex, Sem.run_bind, hrun, Result.andThen_ok, Sem.run_pure]
  generalize grownCap w z.size 0 e = cap at run1 hcap
  have hs := hrow cap hcap
  refine op_newRow_sl h (w1 := w.drew) rfl (cap := cap) (sz := 1) (by rw [hlen]; exact run1) hsz (hbs cap hcap) (by rw [hs]; omega) (by omega) ?_
  cases hh : z.data.toList with
  | nil => exact .inl rfl
  | cons b r => exact .inr (.inr ⟨rfl, by simp [byteVs], by rw [hs]; omega, .inl (Nat.le_refl _)⟩)

theorem bytesOf_eq : ∀ {xs : List V} {l : List UInt8}, bytesOf xs = some l → xs.length = l.length ∧ ∀ (j : Nat) b, l[j]? = some b → ∃ n : Int, xs[j]? = some (.i .u8 n) ∧ b = UInt8.ofNat n.toNat
  | [], l, h => by simp only [bytesOf, Option.some.injEq] at h; subst h; exact ⟨rfl, fun j b h => by simp at h⟩
  | x :: r, l, h => by
    have key : ∃ n q, x = .i .u8 n ∧ bytesOf r = some q ∧ l = UInt8.ofNat n.toNat :: q := by
      cases x with
      | i k n =>
        cases k with
        | u8 =>
          simp only [bytesOf] at h
          cases hr : bytesOf r with
          | none => simp [hr] at h
          | some q =>
            simp only [hr, Option.some.injEq] at h
            exact ⟨n, q, rfl, rfl, h.symm⟩
        | _ => simp [bytesOf] at h
      | _ => simp [bytesOf] at h
    obtain ⟨n, q, rfl, hr, rfl⟩ := key
    obtain ⟨h1, h2⟩ := bytesOf_eq hr
    refine ⟨by simp [h1], fun j b hj => ?_⟩
    cases j with
    | zero => simp at hj; exact ⟨n, by simp, hj.symm⟩
    | succ j => exact h2 j b (by simpa using hj)

/-- A text out of bytes that lie somewhere. -/
theorem run_ofBytes {src dst e : TypeId} {xs : List V} {l : List UInt8} {B s cap : Nat} (hs : P.underlying src = some (.slice e)) (he : P.underlying e = some (.int .u8)) (hd : P.underlying dst = some .string) (hl : bytesOf xs = some l) (hc : ∀ (j : Nat) c, xs[j]? = some c → ∃ x, w.cell? ⟨B, s + j, none⟩ = some x ∧ VRel G c x) :
    (convert src dst (.slice (some ⟨B, s, none⟩) xs.length cap)).run P w = .ok (.string ⟨l.toArray⟩) w := by
  obtain ⟨h1, h2⟩ := bytesOf_eq hl
  rw [run_convert_bytes_string w src dst e _ _ cap hs he hd]
  let ns : List Int := xs.map fun c => match c with | .i _ n => n | _ => 0
  have hcells : (loadCells ⟨B, s, none⟩ xs.length).run P w = .ok (ns.map (Value.int .u8)).toArray w := by
    have := run_loadCellsFrom (P := P) (w := w) (B := B) (o := s) (ns.map (Value.int .u8)) 0 #[] (fun j v hj => by
      rw [List.getElem?_map, List.getElem?_map] at hj
      cases hx : xs[j]? with
      | none => simp [hx] at hj
      | some c =>
        simp [hx] at hj
        subst hj
        have hjl : j < l.length := by
          rw [← h1]
          rcases Nat.lt_or_ge j xs.length with g | g
          · exact g
          · rw [List.getElem?_eq_none g] at hx; cases hx
        obtain ⟨n, q1, q2⟩ := h2 j _ (List.getElem?_eq_getElem hjl)
        rw [hx] at q1
        cases q1
        obtain ⟨x, r1, r2⟩ := hc j _ hx
        rw [Nat.add_zero, r1, r2.inv_i])
    have hlen : (ns.map (Value.int .u8)).length = xs.length := by simp [ns]
    rw [hlen] at this
    simpa [loadCells] using this
  rw [run_bytesToString w _ _ cap ns hcells]
  congr 2
  have : ∀ (l' : List Int) (r : ByteArray), l'.foldl (fun r n => r.push (UInt8.ofNat n.toNat)) r = ⟨r.data ++ (l'.map fun n => UInt8.ofNat n.toNat).toArray⟩ := by
    intro l'
    induction l' with
    | nil => intro r; simp
    | cons n l' ih => intro r; rw [List.foldl_cons, ih]; simp [ByteArray.push]
  rw [this]
  have e0 : ByteArray.empty.data = #[] := rfl
  rw [e0]
  congr 1
  rw [Array.empty_append]
  congr 1
  apply List.ext_getElem?
  intro j
  simp only [ns, List.getElem?_map, List.map_map]
  cases hx : l[j]? with
  | none =>
    have : xs[j]? = none := by
      rw [List.getElem?_eq_none_iff] at hx ⊢
      omega
    simp [this]
  | some b =>
    obtain ⟨n, q1, q2⟩ := h2 j b hx
    simp [q1, q2]
end
end Go.Mu
end
