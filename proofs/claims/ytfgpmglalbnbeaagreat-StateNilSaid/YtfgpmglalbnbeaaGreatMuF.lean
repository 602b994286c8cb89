/- Merged from the texts Mu52 to Sn4: an evaluator for the program's code and its soundness; how a law's statement follows of one run. No conditions. -/
import Derived.Test.YtfgpmglalbnbeaaGreatMuE
import Derived.ProofKit
import Derived.OpenShut
import Derived.JoinedCond
import Derived.Deep.Slices
import Derived.Carry
import Derived.WideKeyArgs
import Derived.Test.YtfgpmglalbnbeaaGreatProg
import Derived.KernelRfl
import Derived.Test.YtfgpmglalbnbeaaGreatRows
section
/- The arguments of a law, as the evaluator has them; how a law's call is concluded. -/
set_option linter.unusedSimpArgs false
set_option linter.unusedVariables false
set_option linter.constructorNameAsVariable false
namespace Go.Mu

/-- The shape of a cell. -/
inductive Sh where
  | b | i (k : IntKind) | s | sl (agg : Bool) (elem : List Sh)

def flatSh : List Sh → Bool
  | [] => true
  | .sl _ _ :: _ => false
  | _ :: r => flatSh r

def shapeFs (g : TypeId → Option (List Sh)) (P : Program) : List Field → Nat → Option (List Sh)
  | [], _ => some []
  | f :: r, pos => match g f.type, shapeFs g P r (pos + P.cellsOf f.type) with
    | some a, some q => bif Nat.beq f.offset pos && Nat.beq a.length (P.cellsOf f.type) then some (a ++ q) else none
    | _, _ => none
def shapeOf (P : Program) : Nat → TypeId → Option (List Sh)
  | 0, _ => none
  | n + 1, t => match P.underlying t with
    | some .bool => some [.b]
    | some (.int k) => some [.i k]
    | some .string => some [.s]
    | some (.slice e) => match shapeOf P n e with
      | some sh => bif Nat.beq sh.length (P.cellsOf e) && flatSh sh && (aggT P e).isSome then some [.sl (isAggT P e) sh] else none
      | none => none
    | some (.struct fs) => match shapeFs (shapeOf P n) P fs.toList 0 with
      | some sh => bif Nat.beq sh.length (P.cellsOf t) then some sh else none
      | none => none
    | _ => none
mutual
def SatC : Sh → V → Prop
  | .b, v => ∃ x, v = .b x
  | .i k, v => ∃ n, v = .i k n ∧ (Lit.int k n).wf = true
  | .s, v => ∃ x, v = .s x ∧ x.size ≤ maxLen
  | .sl agg sh, v => ∃ nil xs, v = .sl 0 nil xs ∧ xs.length ≤ maxLen ∧ (nil = true → xs = []) ∧ ∀ x ∈ xs, isAg x = agg ∧ SatL sh (cellsOf x)
def SatL : List Sh → List V → Prop
  | [], vs => vs = []
  | s :: r, vs => ∃ v q, vs = v :: q ∧ SatC s v ∧ SatL r q
end

theorem SatL.append : ∀ {a b : List Sh} {xs ys : List V}, SatL a xs → SatL b ys → SatL (a ++ b) (xs ++ ys)
  | [], b, xs, ys, h, h' => by
    have : xs = [] := by simpa only [SatL] using h
    subst this
    exact h'
  | s :: r, b, xs, ys, h, h' => by
    simp only [SatL] at h
    obtain ⟨v, q, rfl, h1, h2⟩ := h
    simp only [List.cons_append, SatL]
    exact ⟨v, q ++ ys, rfl, h1, h2.append h'⟩
theorem SatL.len : ∀ {a : List Sh} {xs : List V}, SatL a xs → xs.length = a.length
  | [], xs, h => by
    have : xs = [] := by simpa only [SatL] using h
    subst this; rfl
  | s :: r, xs, h => by
    simp only [SatL] at h
    obtain ⟨v, q, rfl, h1, h2⟩ := h
    simp [h2.len]

/-- The world of an entering call, as the evaluator has it: nothing is its own; all cells stay as they are. -/
def Gh.start (W : World) : Gh := { nx := 0, ob := fun _ => none, ic := fun B o => W.cell? ⟨B, o, none⟩, tl := fun _ => none, own := fun _ => none }
theorem start_rel (C : Cfg) (W : World) : HRel C (Gh.start W) W ⟨0, .leaf⟩ :=
  ⟨rfl, fun id o h => by simp [St.get, PT.get_leaf] at h, ⟨fun B o v h => h, (fun B e l h => by cases h), (fun B e l h => by cases h), (fun B x h => by cases h), (fun B x h => by cases h), fun B h => by rcases h with ⟨_, h⟩ | ⟨_, h⟩ | h <;> cases h⟩⟩

/-- Cells, and what stands for them. -/
structure Fit (G : Gh) (sh : List Sh) (vs : List V) (cs : List Value) : Prop where
  sat : SatL sh vs
  len : vs.length = cs.length
  rel : ∀ (j : Nat) v c, vs[j]? = some v → cs[j]? = some c → VRel G v c
  cell : ∀ v ∈ vs, isCell v = true
  pl : ∀ v ∈ vs, pl v = true

theorem Fit.one {G : Gh} {s : Sh} {v : V} {c : Value} (h1 : SatC s v) (h2 : VRel G v c) (h3 : isCell v = true) (h4 : Mu.pl v = true) : Fit G [s] [v] [c] :=
  ⟨by simp only [SatL]; exact ⟨v, [], rfl, h1, rfl⟩, rfl, fun j u x hu hx => by
    cases j with
    | zero => simp at hu hx; subst hu; subst hx; exact h2
    | succ j => simp at hu, fun u hu => by simp at hu; subst hu; exact h3, fun u hu => by simp at hu; subst hu; exact h4⟩
theorem Fit.append {G : Gh} {a b : List Sh} {xs ys : List V} {cs ds : List Value} (h : Fit G a xs cs) (h' : Fit G b ys ds) : Fit G (a ++ b) (xs ++ ys) (cs ++ ds) :=
  ⟨h.sat.append h'.sat, by simp [h.len, h'.len], fun j u x hu hx => by
    have hl := h.len
    by_cases e : j < xs.length
    · rw [List.getElem?_append_left e] at hu
      rw [List.getElem?_append_left (by omega)] at hx
      exact h.rel j u x hu hx
    · rw [List.getElem?_append_right (by omega)] at hu
      rw [List.getElem?_append_right (by omega), ← hl] at hx
      exact h'.rel _ u x hu hx, fun u hu => (List.mem_append.1 hu).elim (h.cell u) (h'.cell u), fun u hu => (List.mem_append.1 hu).elim (h.pl u) (h'.pl u)⟩

section
variable {H : Type} {enc : TypeId × Value → H} {P : Program} {W : World} {spare : Nat → Bool} {held : Bool}

theorem flatSh_append {a b : List Sh} (h : flatSh (a ++ b) = true) : flatSh a = true ∧ flatSh b = true := by
  induction a with
  | nil => exact ⟨rfl, h⟩
  | cons s r ih => cases s <;> simp_all [flatSh]

theorem fit_fields {n : Nat} (ih : ∀ fuel t cs x sh, DataW.trod enc P W 0 spare held fuel t cs = some x → shapeOf P n t = some sh → (flatSh sh = true ∨ ∀ c ∈ cs, ∀ a l k, c = .slice (some a) l k → a.spot = none) → ∃ vs, Fit (Gh.start W) sh vs cs) {fuel : Nat} :
    ∀ (fs : List Field) (pos : Nat) (cs : List Value) (sh : List Sh), (∀ f ∈ fs, ∃ y, DataW.trod enc P W 0 spare held fuel f.type ((cs.drop f.offset).take (P.cellsOf f.type)) = some y) →
      shapeFs (shapeOf P n) P fs pos = some sh → (flatSh sh = true ∨ ∀ c ∈ cs, ∀ a l k, c = .slice (some a) l k → a.spot = none) → ∃ vs, Fit (Gh.start W) sh vs ((cs.drop pos).take sh.length)
  | [], pos, cs, sh, h, hs, _ => by
    simp only [shapeFs, Option.some.injEq] at hs
    subst hs
    exact ⟨[], by simp only [SatL], by simp, (fun j v c hv => by simp at hv), (fun v hv => by cases hv), (fun v hv => by cases hv)⟩
  | f :: r, pos, cs, sh, h, hs, hsp => by
    obtain ⟨x, hx⟩ := h f (List.mem_cons_self ..)
    simp only [shapeFs] at hs
    split at hs
    · rename_i a q ha hq
      cases hb : (Nat.beq f.offset pos && Nat.beq a.length (P.cellsOf f.type)) with
      | false => simp [hb] at hs
      | true =>
        simp only [hb, cond_true, Option.some.injEq] at hs
        subst hs
        simp only [Bool.and_eq_true] at hb
        have e1 := beq_true hb.1
        have e2 := beq_true hb.2
        rw [e1] at hx
        have hsp1 : flatSh a = true ∨ ∀ c ∈ (cs.drop pos).take (P.cellsOf f.type), ∀ b l k, c = .slice (some b) l k → b.spot = none := hsp.imp (fun h => (flatSh_append h).1) fun h c hc => h c (List.mem_of_mem_drop (List.mem_of_mem_take hc))
        obtain ⟨vs, h1⟩ := ih fuel f.type _ x a hx ha hsp1
        obtain ⟨us, h2⟩ := fit_fields ih r (pos + P.cellsOf f.type) cs q (fun g hg => h g (List.mem_cons_of_mem _ hg)) hq (hsp.imp (fun h => (flatSh_append h).2) id)
        have e3 : (cs.drop pos).take (a ++ q).length = (cs.drop pos).take (P.cellsOf f.type) ++ (cs.drop (pos + P.cellsOf f.type)).take q.length := by
          rw [List.length_append, e2, List.take_add, List.drop_drop]
        rw [e3]
        exact ⟨vs ++ us, h1.append h2⟩
    · cases hs

theorem oneSh (n : Nat) (e : TypeId) (elem : List Sh) (h : shapeOf P n e = some elem) (ha : aggT P e = some false) : elem.length = 1 := by
  cases n with
  | zero => simp [shapeOf] at h
  | succ n =>
    simp only [shapeOf] at h
    unfold aggT at ha
    split at h
    · simp only [Option.some.injEq] at h; subst h; rfl
    · simp only [Option.some.injEq] at h; subst h; rfl
    · simp only [Option.some.injEq] at h; subst h; rfl
    · split at h
      · simp only [cond_eq_ite] at h
        split at h
        · simp only [Option.some.injEq] at h; subst h; rfl
        · cases h
      · cases h
    · rename_i fs hu
      rw [hu] at ha
      cases ha
    · cases h

theorem sl_vrel {e : TypeId} {a : Addr} {len cap : Nat} {elem : List Sh} {agg : Bool} (hsp : a.spot = none) (hle : len ≤ cap) (hel : elem.length = P.cellsOf e) (hag : agg = isAggT P e) (hone : agg = false → P.cellsOf e = 1)
    (h : ∀ i, i < len → ∃ cs', W.cells? 0 (a.add (i * P.cellsOf e)) (P.cellsOf e) = some cs' ∧ ∃ vs, Fit (Gh.start W) elem vs cs') :
    ∃ xs : List V, xs.length = len ∧ (∀ x ∈ xs, isAg x = agg ∧ SatL elem (cellsOf x)) ∧ VRel (Gh.start W) (.sl 0 false xs) (.slice (some a) len cap) := by
  -- one behind the other
  have key : ∀ k, k ≤ len → ∃ xs : List V, xs.length = k ∧ (∀ x ∈ xs, isAg x = agg ∧ SatL elem (cellsOf x) ∧ (cellsOf x).length = P.cellsOf e) ∧
      ∀ (j : Nat) u, (flat xs)[j]? = some u → pl u = true ∧ isCell u = true ∧ ∃ y, W.cell? ⟨a.block, a.off + j, none⟩ = some y ∧ VRel (Gh.start W) u y := by
    intro k
    induction k with
    | zero => exact fun _ => ⟨[], rfl, (fun x hx => by cases hx), (fun j u hu => by simp [flat] at hu)⟩
    | succ k ih =>
      intro hk
      obtain ⟨xs, h1, h2, h3⟩ := ih (by omega)
      obtain ⟨cs', hc, vs, hf⟩ := h k (by omega)
      have hcl := World.cells?_some hc
      have hlen : (flat xs).length = k * P.cellsOf e := by
        have : ∀ (l : List V), (∀ x ∈ l, (cellsOf x).length = P.cellsOf e) → (flat l).length = l.length * P.cellsOf e := by
          intro l
          induction l with
          | nil => intro _; simp [flat]
          | cons y q ihq =>
            intro hq
            rw [flat, List.length_append, hq y (List.mem_cons_self ..), ihq fun z hz => hq z (List.mem_cons_of_mem _ hz), List.length_cons, Nat.succ_mul, Nat.add_comm]
        rw [this xs fun x hx => (h2 x hx).2.2, h1]
      have hvl : vs.length = P.cellsOf e := by rw [hf.sat.len, hel]
      -- the next element
      obtain ⟨x, hx1, hx2⟩ : ∃ x : V, isAg x = agg ∧ cellsOf x = vs := by
        cases hb : agg with
        | true => exact ⟨.ag vs, rfl, rfl⟩
        | false =>
          have h1' := hone hb
          rw [h1'] at hvl
          match vs, hvl, hf with
          | [v], _, hf =>
            have hcv := hf.cell v (List.mem_cons_self ..)
            exact ⟨v, by cases v <;> simp_all [isCell, isAg], by cases v <;> simp_all [isCell, cellsOf]⟩
      refine ⟨xs ++ [x], by simp [h1], fun y hy => ?_, fun j u hu => ?_⟩
      · rcases List.mem_append.1 hy with hy | hy
        · exact h2 y hy
        · simp only [List.mem_singleton] at hy
          subst hy
          exact ⟨hx1, by rw [hx2]; exact hf.sat, by rw [hx2, hvl]⟩
      · have e1 : flat (xs ++ [x]) = flat xs ++ vs := by
          have : ∀ l : List V, flat (l ++ [x]) = flat l ++ cellsOf x := by
            intro l
            induction l with
            | nil => simp [flat]
            | cons y q ihq => simp [flat, ihq, List.append_assoc]
          rw [this, hx2]
        rw [e1] at hu
        by_cases hj : j < (flat xs).length
        · rw [List.getElem?_append_left hj] at hu
          exact h3 j u hu
        · rw [List.getElem?_append_right (by omega), hlen] at hu
          obtain ⟨y, hy⟩ := get_of_len hf.len.symm hu
          have hr := hf.rel _ u y hu hy
          have hjl : j - k * P.cellsOf e < P.cellsOf e := by
            have := (List.getElem?_eq_some_iff.1 hu).1
            omega
          refine ⟨hf.pl u (List.mem_of_getElem? hu), hf.cell u (List.mem_of_getElem? hu), y, ?_, hr⟩
          have hcell := hcl.2.2 (j - k * P.cellsOf e) hjl
          rw [hy] at hcell
          have e2 : (a.add (k * P.cellsOf e)).add (j - k * P.cellsOf e) = ⟨a.block, a.off + j, none⟩ := by
            obtain ⟨blk, off, spot⟩ := a
            simp only at hsp
            subst hsp
            have h5 : k * P.cellsOf e ≤ j := by rw [← hlen]; omega
            rw [Addr.add_none, Addr.add_none, Nat.add_assoc, Nat.add_sub_cancel' h5]
          rw [e2] at hcell
          exact hcell
  obtain ⟨xs, h1, h2, h3⟩ := key len (Nat.le_refl _)
  obtain ⟨blk, off, spot⟩ := a
  simp only at hsp
  subst hsp
  refine ⟨xs, h1, fun x hx => ⟨(h2 x hx).1, (h2 x hx).2.1⟩, ?_⟩
  have := VRel.sl (G := Gh.start W) (ow := 0) (xs := xs) (B := blk) (s := off) (cap := cap) (sz := P.cellsOf e) (fun x hx => (h2 x hx).2.2)
    (fun j c hj => by obtain ⟨q1, q2, y, q3, _⟩ := h3 j c hj; exact ⟨q1, q2, y, q3⟩)
    (fun j c x hj hx => by
      obtain ⟨_, _, y, q3, q4⟩ := h3 j c hj
      have hx' : W.cell? ⟨blk, off + j, none⟩ = some x := hx
      rw [q3] at hx'
      cases hx'
      exact q4) (by omega) (by omega) (by omega)
  rw [h1] at this
  exact this

/-- What is read of cells of a type has its shape. -/
theorem fit_of : ∀ (n fuel : Nat) (t : TypeId) (cs : List Value) (x : DataW H × List MemPlace) (sh : List Sh), DataW.trod enc P W 0 spare held fuel t cs = some x → shapeOf P n t = some sh →
    (flatSh sh = true ∨ ∀ c ∈ cs, ∀ a l k, c = .slice (some a) l k → a.spot = none) → ∃ vs, Fit (Gh.start W) sh vs cs := by
  intro n
  induction n with
  | zero => intro fuel t cs x sh h hs; simp [shapeOf] at hs
  | succ n ih =>
    intro fuel t cs x sh h hs hsp
    simp only [shapeOf] at hs
    split at hs
    · rename_i hu
      simp only [Option.some.injEq] at hs
      subst hs
      obtain ⟨b, rfl, _⟩ := DataW.trod_bool hu h
      exact ⟨_, .one ⟨b, rfl⟩ (.b b) rfl rfl⟩
    · rename_i k hu
      simp only [Option.some.injEq] at hs
      subst hs
      obtain ⟨m, rfl, _, hw⟩ := DataW.trod_int hu h
      exact ⟨_, .one ⟨m, rfl, hw⟩ (.i _ m) rfl rfl⟩
    · rename_i hu
      simp only [Option.some.injEq] at hs
      subst hs
      obtain ⟨s, rfl, _, hm⟩ := DataW.trod_string hu h
      exact ⟨_, .one ⟨s, rfl, hm⟩ (.s s) rfl rfl⟩
    · rename_i e hu
      split at hs
      · rename_i elem hel
        cases hb : (Nat.beq elem.length (P.cellsOf e) && flatSh elem && (aggT P e).isSome) with
        | false => simp [hb] at hs
        | true =>
          simp only [hb, cond_true, Option.some.injEq] at hs
          subst hs
          simp only [Bool.and_eq_true] at hb
          obtain ⟨⟨hb1, hb2⟩, hb3⟩ := hb
          have hb1 := beq_true hb1
          rcases Deep.open_slice hu h with ⟨rfl, _⟩ | ⟨a, len, cap, m, n', D, Pl, rfl, _, hle, hcap, hm, _, hall⟩
          · exact ⟨_, .one (v := .sl 0 true []) (by simp only [SatC]; exact ⟨true, [], rfl, Nat.zero_le _, fun _ => rfl, fun x hx => nomatch hx⟩) (.nl (by omega)) rfl rfl⟩
          · have hspot : a.spot = none := by
              rcases hsp with hf | hf
              · simp [flatSh] at hf
              · exact hf _ (List.mem_singleton.2 rfl) a len cap rfl
            have hlm : len ≤ m := by rw [hm]; split <;> omega
            obtain ⟨xs, h1, h2, h3⟩ := sl_vrel (P := P) (W := W) (e := e) (a := a) (len := len) (cap := cap) (elem := elem) (agg := isAggT P e) hspot hle hb1 rfl (fun hag => by
              rw [← hb1]
              have : aggT P e = some false := by
                unfold isAggT at hag
                cases q : aggT P e with
                | none => rw [q] at hb3; cases hb3
                | some b => rw [q] at hag; simp at hag; rw [hag]
              exact oneSh n e elem hel this) (fun i hi => by
              obtain ⟨cs', q1, q2⟩ := hall i (by omega)
              obtain ⟨vs, q3⟩ := ih n' e cs' _ elem q2 hel (.inl hb2)
              exact ⟨cs', q1, vs, q3⟩)
            exact ⟨_, .one (by simp only [SatC]; exact ⟨false, xs, rfl, by omega, (fun h => by cases h), h2⟩) h3 rfl rfl⟩
      · cases hs
    · rename_i fs hu
      split at hs
      · rename_i sh' hsh
        cases hb : Nat.beq sh'.length (P.cellsOf t) with
        | false => simp [hb] at hs
        | true =>
          simp only [hb, cond_true, Option.some.injEq] at hs
          subst hs
          have hb := beq_true hb
          obtain ⟨xs, m, _, _, hl, hlen, hf⟩ := DataW.trod_struct hu h
          obtain ⟨vs, hv⟩ := fit_fields (enc := enc) (spare := spare) (held := held) (fuel := m) ih fs.toList 0 cs sh' (fun f hfm => by
            obtain ⟨i, hi⟩ := List.mem_iff_getElem?.1 hfm
            rw [Array.getElem?_toList] at hi
            have := hf i f hi
            have hi' : i < xs.length := by rw [hlen]; exact (Array.getElem?_eq_some_iff.1 hi).1
            rw [List.getElem?_eq_getElem hi'] at this
            exact ⟨_, this⟩) hsh hsp
          rw [List.drop_zero, hb, ← hl, List.take_length] at hv
          exact ⟨vs, hv⟩
      · cases hs
    · cases hs

/-- The arguments of a call. -/
theorem given_start {C : Cfg} {W : World} {ts : List TypeId} : True := trivial
end
end Go.Mu
end
section
/- Functions whose answer is fixed; how a law's call is concluded. -/
set_option linter.unusedSimpArgs false
set_option linter.unusedVariables false
set_option linter.constructorNameAsVariable false
namespace Go.Mu
section
variable {C : Cfg} {G G' : Gh} {w w' : World} {v : V} {st st' : St} {T : CallF} {f : FuncId}

theorem scalar_vrel {c : Value} (hs : scalar v = true) (h : VRel G v c) : VRel G' v c := by
  cases h <;> simp [scalar] at hs
  · exact .b _
  · exact .i _ _
  · exact .s _
theorem scalar_pl (hs : scalar v = true) : pl v = true := by cases v <;> simp [scalar] at hs <;> rfl
def scalars : List V → Bool
  | [] => true
  | v :: r => scalar v && scalars r
theorem scalars_get : ∀ {l : List V}, scalars l = true → ∀ v ∈ l, scalar v = true
  | [], _, v, h => nomatch h
  | x :: r, hs, v, h => by
    simp only [scalars, Bool.and_eq_true] at hs
    rcases List.mem_cons.1 h with rfl | h
    · exact hs.1
    · exact scalars_get hs.2 v h

/-- All that is somebody's is a caller's. -/
def Gh.hide (G : Gh) : Gh := { nx := 0, ob := fun _ => none, ic := G.ic, tl := G.tl, own := fun B => match G.own B with | some _ => some .fr | none => none }
theorem HRel.hide (h : HRel C G w st) : HRel C G.hide w ⟨0, .leaf⟩ := by
  have ok := h.ok
  have key : ∀ B x, G.hide.own B = some x → x = .fr ∧ ∃ y, G.own B = some y := fun B x hx => by
    simp only [Gh.hide] at hx
    cases e : G.own B with
    | none => rw [e] at hx; cases hx
    | some y => rw [e] at hx; cases hx; exact ⟨rfl, y, rfl⟩
  refine ⟨rfl, fun id o h => by simp [St.get, PT.get_leaf] at h, ⟨ok.ic, ok.tlic, ok.tl, fun B x hx => ?_, ok.tllt, fun B hB => ?_⟩⟩
  · obtain ⟨_, y, hy⟩ := key B x hx
    exact ok.lt B y hy
  · rcases hB with ⟨_, h⟩ | ⟨_, h⟩ | h <;> have := (key B _ h).1 <;> cases this

/-- A function that is run for what it answers alone. -/
theorem Ret.unhide {c : Value} (hh : HRel C G w st) (hs : scalar v = true) {st1 : St} (hr : Ret C G.hide w v st1 c G' w') :
    ∃ G'', Ret C G w v st c G'' w' := by
  have ok := hh.ok
  have ok' := hr.heap.ok
  have hid : ∀ B y, G.own B = some y → G.hide.own B = some .fr := fun B y hy => by simp only [Gh.hide, hy]
  let G2 : Gh := { nx := G.nx, ob := G.ob, ic := G'.ic, tl := G'.tl, own := G.own }
  have hle : GLe G G2 := ⟨fun B o x h => hr.ext.le.ic B o x h, Nat.le_refl _, fun _ _ => rfl⟩
  have hfr : ∀ B y, G.own B = some y → G'.tl B = G.tl B ∧ ∀ o, G'.ic B o = G.ic B o := fun B y hy => (hr.ext.fr B (hid B y hy)).2
  have hsame : ∀ B y, G.own B = some y → w'.heap[B]? = w.heap[B]? := fun B y hy => hr.keeps.old B (ok.lt B y hy) (.inr (hid B y hy))
  refine ⟨G2, ⟨⟨hh.nx, fun id o ho => ?_, ⟨ok'.ic, ok'.tlic, ok'.tl, fun B x hx => Nat.lt_of_lt_of_le (ok.lt B x hx) hr.keeps.size, ok'.tllt, fun B hB => ?_⟩⟩, scalar_vrel hs hr.rel, hr.nodup, fun B hB => ?_, hr.good, ⟨hr.keeps.size, fun B hB ho => ?_, hr.keeps.same⟩, ⟨hle, fun B hB => ⟨hB, hfr B _ hB⟩, fun B hB hn => hn⟩⟩⟩
  · rcases hh.obj id o ho with ⟨B, s, l, g1, g2, g3, g4⟩ | g
    · exact .inl ⟨B, s, l, g1, g2, g3, g4.xfer hle (hsame B _ g2) fun B hB => ⟨hB, (hfr B _ hB).1⟩⟩
    · exact .inr g
  · obtain ⟨y, hy⟩ : ∃ y, G.own B = some y := by
      rcases hB with ⟨id, h⟩ | ⟨s, h⟩ | h
      · exact ⟨_, h⟩
      · exact ⟨_, h⟩
      · exact ⟨_, h⟩
    obtain ⟨q1, q2⟩ := ok.excl B hB
    obtain ⟨e1, e2⟩ := hfr B y hy
    exact ⟨fun o => (e2 o).trans (q1 o), e1.trans q2⟩
  · rw [rs_pl v c (scalar_pl hs)] at hB
    cases hB
  · rcases ho with ho | ho
    · exact hr.keeps.old B hB (.inl (by simp only [Gh.hide, ho]))
    · exact hr.keeps.old B hB (.inr (hid B _ ho))

theorem fixed_sound (hT : SoundT C T) {args : List V} {st1 : St} (h : T f args ⟨0, .leaf⟩ = some (v, st1)) (ha : scalars args = true) (hs : scalar v = true) :
    (∃ fn, C.P.funcs[f]? = some fn ∧ (fn.name == "runtime.NumGoroutine") = false ∧ fn.body.isNone = false) ∧
    ∀ (st : St) (G : Gh) (w : World) (cs : List Value), HRel C G w st → Given G args cs → ∀ n, CallsIn Fence.wide n C.P f cs.toArray w (fun e w' => ∃ c G', e = .returned c ∧ Ret C G w v st c G' w') := by
  obtain ⟨h1, h2⟩ := hT f args _ v st1 h
  refine ⟨h1, fun st G w cs hh hg n => ?_⟩
  have hg' : Given G.hide args cs := ⟨hg.len, fun j u c hu hc => by
    have hsu := scalars_get ha u (List.mem_of_getElem? hu)
    have := hg.held j u c hu hc
    exact ⟨scalar_vrel hsu this.rel, this.nodup, by rw [rs_pl u c (scalar_pl hsu)]; exact fun B hB => nomatch hB⟩, hg.good⟩
  refine (h2 G.hide w cs hh.hide hg' n).mono fun e w' he => ?_
  obtain ⟨c, G', rfl, hr⟩ := he
  obtain ⟨G'', hr'⟩ := hr.unhide hh hs
  exact ⟨c, G'', rfl, hr'⟩

/-- A law's call. -/
theorem law_calls (hT : SoundT C T) {args : List V} {st1 : St} {W : World} {cs : List Value} {b : Bool} (h : T f args ⟨0, .leaf⟩ = some (.b b, st1)) (hg : Given (Gh.start W) args cs) :
    Calls C.P f cs.toArray W fun e W' => e = .returned (.bool b) ∧ W.heap.size ≤ W'.heap.size ∧ (∀ B, B < W.heap.size → W'.heap[B]? = W.heap[B]?) ∧ W'.os = W.os ∧ W'.output = W.output := by
  obtain ⟨_, h2⟩ := hT f args _ _ st1 h
  refine callsIn_wide.1 ((h2 (Gh.start W) W cs (start_rel C W) hg 0).mono fun e w' he => ?_)
  obtain ⟨c, G', rfl, hr⟩ := he
  rw [hr.rel.inv_b]
  exact ⟨rfl, hr.keeps.size, fun B hB => hr.keeps.old B hB (.inl rfl), hr.keeps.same.1, hr.keeps.same.2⟩
end

section
open Go.ChangeShapes Go.WideShapes Go.ChangeAt Go.RowKit
variable {H : Type} {enc : TypeId × Value → H} {P : Program}

theorem keptBut_of {W W' : World} (hk : ∀ B, B < W.heap.size → W'.heap[B]? = W.heap[B]?) (ho : W'.os = W.os) (hu : W'.output = W.output) {may : MemPlace → Prop} : W.keptBut W' may := by
  refine ⟨ho, hu, fun i hi => ?_⟩
  rw [hk i hi]
  cases h : W.heap[i]? with
  | none => rfl
  | some o =>
    cases o with
    | cells c t fr => exact ⟨rfl, rfl, rfl, fun j _ => rfl⟩
    | map es clock => exact .inr ⟨rfl, rfl⟩
    | _ => rfl

/-- What was read reads as before, where all that lay there lies there yet. -/
theorem post_of_kept {f : Func} {s : ChangeSpec} {apart fresh handsOn again : Bool} {W W' : World} {args : Array Value} {v : Value} {ds gs : List (DataW H)} {before pa pv : List MemPlace}
    (hW : DataW.Whole enc P f.params.toList s.vars apart W args.toList ds gs before)
    (hres : ∀ (b : Nat) (sp : Nat → Bool) (hd : Bool), DataW.TrodAll enc P W' b sp hd f.resultTypes.toList (v.resultList f.resultTypes.size) (s.fn H (ds ++ gs)).results [])
    (hargs : ∀ sp : Nat → Bool, (∀ p ∈ before, sp p.block = true) → DataW.TrodAll enc P W' 0 sp true f.params.toList args.toList (s.fn H (ds ++ gs)).args pa)
    (hvars : ∀ sp : Nat → Bool, (∀ p ∈ before, sp p.block = true) → DataW.TrodVars enc P W' sp s.vars (s.fn H (ds ++ gs)).vars pv)
    (hps : before = pa ++ pv) (hk : W.keptBut W' (· ∈ before)) (hfz : ∀ a : Addr, a.block < W.heap.size → W'.frozen? a = W.frozen? a)
    (hok : ∀ (j : Nat) (t : TypeId) (r : Value), f.resultTypes[j]? = some t → (v.resultList f.resultTypes.size)[j]? = some r → Value.okWide P W' .any 0 t r) :
    s.post enc P f apart fresh handsOn again W args v W' := by
  have hold : ∀ p ∈ before, (fun b => decide (b < W.heap.size)) p.block = true := fun p hp => by simpa using hW.lt p hp
  have hlt := hW.lt
  refine ⟨ds, gs, before, [], pa, pv, hW, hres _ _ _, hargs _ hold, hvars _ hold, World.keptBut_mono (fun p hp => ⟨hp, ?_⟩) hk, fun _ => ?_⟩
  · rw [hps, List.mem_append] at hp
    exact Or.inr hp
  · obtain ⟨_, _, _, _, _, hz, hn⟩ := hW
    refine ⟨hok, _, _, ([] ++ pa) ++ pv, ⟨[] ++ pa, pv, trodAll_append (hargs _ (fun _ _ => rfl)) (hres _ _ _), hvars _ (fun _ _ => rfl), rfl, ?_, ?_⟩, ?_⟩
    · intro b off hp
      have hp' : MemPlace.cell b off ∈ before := by rw [hps]; simpa using hp
      rw [hfz ⟨b, off, none⟩ (hlt _ hp')]
      exact hz b off hp'
    · intro ha
      have := hn ha
      rw [hps] at this
      simpa using this
    · intro p hp _
      rw [hps]
      simpa using hp
end
end Go.Mu
end
section
/- A law's row out of a run of the evaluator. -/
set_option linter.unusedSimpArgs false
set_option linter.unusedVariables false
set_option linter.constructorNameAsVariable false
namespace Go.Mu
open Go.ChangeShapes Go.WideShapes Go.ChangeAt Go.RowKit
section
variable {H : Type} {enc : TypeId × Value → H} {P : Program}

theorem trodAll_stays (hl : laidOutB P = true) {W W' : World} {sp : Nat → Bool} : ∀ {ts : List TypeId} {vs : List Value} {ds : List (DataW H)} {ps : List MemPlace}, (∀ t ∈ ts, P.readableRec t = true ∧ t < P.types.size) →
    DataW.TrodAll enc P W 0 (fun _ => true) true ts vs ds ps → (∀ p ∈ ps, W.sameAt W' p) → (∀ p ∈ ps, sp p.block = true) → DataW.TrodAll enc P W' 0 sp true ts vs ds ps
  | [], vs, ds, ps, _, h, _, _ => by
    obtain ⟨rfl, rfl, rfl⟩ := trodAll_nil h
    exact trodAll_mk0
  | t :: ts, vs, ds, ps, ht, h, hs, hp => by
    obtain ⟨v, vs', d, ds', p, q, rfl, rfl, rfl, h1, h2⟩ := trodAll_cons h
    obtain ⟨r1, r2⟩ := ht t (List.mem_cons_self ..)
    exact ⟨p, q, WideElems.Trod_stays hl r1 r2 h1 (fun x hx => hs x (List.mem_append_left _ hx)) (fun x hx => hp x (List.mem_append_left _ hx)),
      trodAll_stays hl (fun u hu => ht u (List.mem_cons_of_mem _ hu)) h2 (fun x hx => hs x (List.mem_append_right _ hx)) (fun x hx => hp x (List.mem_append_right _ hx)), rfl⟩

/-- The row's end: the law has answered, all that lay there lies there yet. -/
theorem law_post {f : Func} {s : ChangeSpec} {apart fresh handsOn again : Bool} {W W' : World} {args : Array Value} {b : Bool} {ds gs : List (DataW H)} {before : List MemPlace} {tb : TypeId}
    (hl : laidOutB P = true) (hts : ∀ t ∈ f.params.toList, P.readableRec t = true ∧ t < P.types.size) (hvars : s.vars = []) (hrt : f.resultTypes = #[tb]) (hb : P.underlying tb = some .bool)
    (hW : DataW.Whole enc P f.params.toList s.vars apart W args.toList ds gs before) (hfn : gs = [] → s.fn H (ds ++ gs) = { results := [.lit (.bool b)], args := ds })
    (h : W.heap.size ≤ W'.heap.size ∧ (∀ B, B < W.heap.size → W'.heap[B]? = W.heap[B]?) ∧ W'.os = W.os ∧ W'.output = W.output) :
    s.post enc P f apart fresh handsOn again W args (.bool b) W' := by
  obtain ⟨h1, h2, h3, h4⟩ := h
  have hlt := hW.lt
  have hW' := hW
  obtain ⟨p, q, hA, hV, rfl, hfz, hnd⟩ := hW
  rw [hvars] at hV
  obtain ⟨rfl, rfl⟩ := trodVars_none hV
  have hf := hfn rfl
  have hsame : ∀ x ∈ p, W.sameAt W' x := fun x hx => by
    have := hlt x (List.mem_append_left _ hx)
    cases x with
    | cell b o => exact World.cell?_of_block (w := W) (h2 b this)
    | map b => exact h2 b this
  refine post_of_kept (pa := p) (pv := []) hW' (fun bs sp hd => ?_) (fun sp hsp => ?_) (fun sp hsp => ?_) rfl (keptBut_of h2 h3 h4) (fun a ha => (by simp only [World.frozen?, h2 a.block ha])) (fun j t r hj hr => ?_)
  · rw [hf, hrt]
    exact trodAll_mk1 ⟨1, by simp [DataW.trod, Value.cells, hb]⟩
  · rw [hf]
    exact trodAll_stays hl hts hA hsame (fun x hx => hsp x (List.mem_append_left _ hx))
  · rw [hf, hvars]
    rfl
  · rw [hrt] at hj hr
    cases j with
    | zero =>
      simp only [List.getElem?_toArray, List.getElem?_cons_zero, Option.some.injEq] at hj
      subst hj
      have : r = .bool b := by simpa [Value.resultList] using hr.symm
      subst this
      exact okWide_bool_mk hb b
    | succ j => simp at hj
end
end Go.Mu
end
section
/- The arguments that came in, for the evaluator. -/
set_option linter.unusedSimpArgs false
set_option linter.unusedVariables false
set_option linter.constructorNameAsVariable false
namespace Go.Mu
open Go.ChangeShapes Go.WideShapes Go.ChangeAt Go.RowKit
section
variable {H : Type} {enc : TypeId × Value → H} {P : Program} {W : World} {spare : Nat → Bool} {held : Bool}

theorem cell_spot {r : Reach} {base : Nat} {u : TypeId} {a : Addr} {l k : Nat} (h : Cell.okWide P W r base u (.slice (some a) l k)) : a.spot = none := by
  unfold Cell.okWide at h
  have h' : Cell.ok P W r base u (.slice (some a) l k) := by
    split at h <;> first | exact h | (rename_i e; cases e)
  unfold Cell.ok at h'
  split at h' <;> first | (rename_i e; cases e; done) | skip
  · rename_i e a' len cap hu he
    cases he
    exact h'.2.2.2.1
  · exact h'.elim

/-- One argument. -/
theorem arg_of {base n : Nat} {t : TypeId} {v : Value} {d : DataW H} {p : List MemPlace} {sh : List Sh} (h : DataW.Trod enc P W 0 spare held t v d p) (hv : Value.okWide P W .any base t v) (hs : shapeOf P n t = some sh) :
    ∃ a : V, VRel (Gh.start W) a v ∧ pl a = true ∧ isAg a = isAggT P t ∧ SatL sh (cellsOf a) := by
  obtain ⟨fuel, h⟩ := h
  unfold Value.okWide at hv
  have hplain : ∀ vs : List V, (∀ v ∈ vs, pl v = true) → pls vs = true := fun vs h => pls_ofValues vs fun j v hj => h v (List.mem_of_getElem? hj)
  have agg : (∃ cs, v = .agg cs ∧ cs.size = P.cellsOf t ∧ Row.okWide P W .any base t cs) → aggT P t = some true → ∃ a : V, VRel (Gh.start W) a v ∧ pl a = true ∧ isAg a = isAggT P t ∧ SatL sh (cellsOf a) := by
    rintro ⟨cs, rfl, hsz, ts, h1, h2, h3⟩ hag
    obtain ⟨vs, hf⟩ := fit_of n fuel t _ _ sh h hs (.inr fun c hc a l k e => by
      subst e
      obtain ⟨i, hi⟩ := List.mem_iff_getElem?.1 hc
      obtain ⟨u, _, hu⟩ := h3 i _ (by simpa [Value.cells] using hi)
      exact cell_spot hu)
    have hcl : (Value.agg cs).cells.toList = cs.toList := rfl
    rw [hcl] at hf
    refine ⟨.ag vs, ?_, by simp only [pl]; exact hplain vs hf.pl, by simp [isAg, isAggT, hag], hf.sat⟩
    have := VRel.ag (G := Gh.start W) (l := cs.toList) hf.len.symm hf.cell hf.rel
    simpa using this
  have one : Cell.okWide P W .any base t v → aggT P t = some false → ∃ a : V, VRel (Gh.start W) a v ∧ pl a = true ∧ isAg a = isAggT P t ∧ SatL sh (cellsOf a) := by
    intro hc hag
    have hlen := oneSh n t sh hs hag
    have hcells : ∀ c ∈ v.cells.toList, ∀ a l k, c = .slice (some a) l k → a.spot = none := by
      intro c hcm a l k e
      subst e
      by_cases hv' : ∃ cs, v = .agg cs
      · obtain ⟨cs, rfl⟩ := hv'
        exfalso
        unfold Cell.okWide at hc
        have h' : Cell.ok P W .any base t (.agg cs) := by
          split at hc <;> first | exact hc | (rename_i e; cases e)
        unfold Cell.ok at h'
        split at h' <;> first | (rename_i e; cases e; done) | exact h'
      · have : v.cells = #[v] := by cases v <;> first | rfl | exact absurd ⟨_, rfl⟩ hv'
        rw [this] at hcm
        simp only [List.mem_singleton] at hcm
        subst hcm
        exact cell_spot hc
    obtain ⟨vs, hf⟩ := fit_of n fuel t _ _ sh h hs (.inr hcells)
    have hvl : vs.length = 1 := by rw [hf.sat.len, hlen]
    match vs, hvl, hf with
    | [a], _, hf =>
      have hca := hf.cell a (List.mem_cons_self ..)
      have hco : cellsOf a = [a] := by cases a <;> simp_all [isCell, cellsOf]
      have hna : isAg a = false := by cases a <;> simp_all [isCell, isAg]
      have hl2 : v.cells.toList.length = 1 := by rw [← hf.len]; rfl
      obtain ⟨c, hcv⟩ : ∃ c, v.cells.toList = [c] := by
        match hq : v.cells.toList, hl2 with
        | [c], _ => exact ⟨c, rfl⟩
      have hr := hf.rel 0 a c rfl (by rw [hcv]; rfl)
      have hvc : v = c := by
        by_cases hv' : ∃ cs, v = .agg cs
        · obtain ⟨cs, rfl⟩ := hv'
          exfalso
          unfold Cell.okWide at hc
          have h' : Cell.ok P W .any base t (.agg cs) := by
            split at hc <;> first | exact hc | (rename_i e; cases e)
          unfold Cell.ok at h'
          split at h' <;> first | (rename_i e; cases e; done) | exact h'
        · have : v.cells = #[v] := by cases v <;> first | rfl | exact absurd ⟨_, rfl⟩ hv'
          rw [this] at hcv
          simpa using hcv
      rw [hvc]
      exact ⟨a, hr, hf.pl a (List.mem_cons_self ..), by rw [hna]; simp [isAggT, hag], by rw [hco]; exact hf.sat⟩
  cases hu : P.underlying t with
  | none =>
    cases n with
    | zero => simp [shapeOf] at hs
    | succ n => simp [shapeOf, hu] at hs
  | some dsc =>
    rw [hu] at hv
    cases dsc with
    | struct fs => exact agg hv (by simp [aggT, hu])
    | array m e => exact agg hv (by simp [aggT, hu])
    | _ => exact one hv (by simp [aggT, hu])

theorem given_nil {G : Gh} : Given G [] [] := ⟨rfl, (fun j v c h => by simp at h), (fun v h => by cases h)⟩
/-- Arguments that own nothing. -/
theorem given_plain {G : Gh} {args : List V} {cs : List Value} (hl : cs.length = args.length) (h : ∀ (j : Nat) v c, args[j]? = some v → cs[j]? = some c → VRel G v c ∧ pl v = true) : Given G args cs :=
  ⟨hl, fun j v c hv hc => ⟨(h j v c hv hc).1, by rw [rs_pl _ _ (h j v c hv hc).2]; exact List.nodup_nil, by rw [rs_pl _ _ (h j v c hv hc).2]; exact fun B hB => nomatch hB⟩, fun v hv => by
    obtain ⟨j, hj⟩ := List.mem_iff_getElem?.1 hv
    obtain ⟨c, hc⟩ := get_of_len hl hj
    exact (h j v c hj hc).1.isGood⟩
end
end Go.Mu
end
section
/- The evaluator with what comes behind as a function: where a test isn't decided both ways stand in its result. -/
set_option linter.unusedSimpArgs false
set_option linter.unusedVariables false
set_option linter.constructorNameAsVariable false
namespace Go.Mu

abbrev Ans := Option (V × St)

/-- A slot's value, once a test is decided. -/
def learn (m : M) (d : Nat) (x : Bool) : M := match getE m.tp d with
  | some _ => { m with tp := setE m.tp d (.b x) }
  | none => match getE m.env d with
    | some _ => { m with env := setE m.env d (.b x) }
    | none => m
def learnO (m : M) (x : Operand) (b : Bool) : M := match x with
  | .tmp t => learn m t b
  | _ => m

theorem setE_same {e : Env} {t : Nat} {v : V} (h : getE e t = some v) : setE e t v = e := by
  induction e with
  | nil => simp [getE] at h
  | cons p r ih =>
    obtain ⟨k, x⟩ := p
    simp only [getE] at h
    simp only [setE]
    cases hb : Nat.beq k t with
    | true => simp only [hb, cond_true, Option.some.injEq] at h ⊢; rw [h]
    | false => simp only [hb, cond_false] at h ⊢; rw [ih h]
theorem learn_same {m : M} {d : Nat} {x : Bool} (h : rdM false m (.tmp d) = some (.b x)) : learn m d x = m := by
  simp only [rdM] at h
  unfold learn
  cases h1 : getE m.tp d with
  | some v =>
    simp only [h1, Option.some.injEq] at h
    simp only
    rw [h] at h1
    rw [setE_same h1]
  | none =>
    simp only [h1] at h
    cases h2 : getE m.env d with
    | none => rfl
    | some v =>
      simp only [h2, cond_false, Option.some.injEq] at h
      have hv : v = .b x := by cases v <;> simp [down] at h; rw [h]
      simp only
      rw [hv] at h2
      rw [setE_same h2]
theorem learnO_same {m : M} {g : Operand} {x : Bool} (h : rdM false m g = some (.b x)) : learnO m g x = m := by
  cases g with
  | tmp t => exact learn_same h
  | _ => rfl

def guardV (m : M) (d : Nat) (want : Bool) (kt kf : M → Ans) : Option V → Ans
  | some (.b x) => bif x then (bif want then kt (learn m d true) else kf (learn m d true)) else (bif want then kf (learn m d false) else kt (learn m d false))
  | some (.tu _) => kf m
  | _ => none
def guardD (m : M) (want : Bool) (kt kf : M → Ans) : Option Nat → Ans
  | some d => guardV m d want kt kf (rdM false m (.tmp d))
  | none => none
def guardQ (m : M) (want : Bool) (kt kf : M → Ans) : Option Oper → Ans
  | some q => guardD m want kt kf q.dst
  | none => none
def guardK (all : Array Oper) (m : M) (kt kf : M → Ans) : Option (Nat × Bool) → Ans
  | none => kt m
  | some (j, want) => guardQ m want kt kf all[j]?
def pickG (m : M) (kt kf : M → Ans) : Option Bool → Ans
  | some true => kt m
  | some false => kf m
  | none => none
theorem guardK_eq (all : Array Oper) (m : M) (o : Oper) (kt kf : M → Ans) : guardK all m kt kf o.guard = pickG m kt kf (guardM all m o) := by
  unfold guardM
  cases o.guard with
  | none => rfl
  | some p =>
    obtain ⟨j, want⟩ := p
    simp only [guardK]
    cases all[j]? with
    | none => rfl
    | some q =>
      simp only [guardQ]
      cases q.dst with
      | none => rfl
      | some d =>
        simp only [guardD]
        cases h : rdM false m (.tmp d) with
        | none => rfl
        | some v =>
          cases v with
          | b x =>
            simp only [guardV]
            cases x <;> cases want <;> simp only [cond_true, cond_false] <;> rw [learn_same h] <;> rfl
          | _ => rfl

/-- What an operation leaves goes to what comes behind. -/
def opA (C : Cfg) (f : FuncId) (mv : Bool) (m : M) (o : Oper) (k : M → Ans) : Option (V × Eff) → Ans
  | some (v, e) => bif freeEff m e && lpOk v e then k (wrM (C.vars f) (effM (unown mv m o) e) o.dst v) else none
  | none => none
def valA (C : Cfg) (f : FuncId) (m : M) (o : Oper) (k : M → Ans) : Option V → Ans
  | some v => bif lpOk v .no then k (wrM (C.vars f) m o.dst v) else none
  | none => none
def pickA (C : Cfg) (f : FuncId) (rd : M → Operand → Option V) (m : M) (o : Oper) (c a b : Operand) (k : M → Ans) : Option V → Ans
  | some (.b x) => bif x then valA C f (learnO m c true) o k (rd (learnO m c true) a) else valA C f (learnO m c false) o k (rd (learnO m c false) b)
  | _ => none
def opK (C : Cfg) (T : CallF) (Y : YieldF) (f : FuncId) (mv : Bool) (m : M) (o : Oper) (k : M → Ans) : Op → Ans
  | .pick c a b => pickA C f (rdM false) m o c a b k (rdM false m c)
  | _ => opA C f mv m o k (evalOpF C T Y (rdM (mvo mv o) m) (getE m.L) m.st f mv o)
theorem opK_eq (C : Cfg) (T : CallF) (Y : YieldF) (f : FuncId) (mv : Bool) (m : M) (o : Oper) (k : M → Ans) : opK C T Y f mv m o k o.op = opA C f mv m o k (evalOp C T Y (rdM (mvo mv o) m) (getE m.L) m.st f mv o) := by
  cases hop : o.op with
  | pick c a b =>
    have hst : still o = true := by simp [still, hop]
    simp only [opK, evalOp, hop, still_rd hst]
    cases h : rdM false m c with
    | none => rfl
    | some v =>
      cases v with
      | b x =>
        simp only [pickA]
        cases x
        · simp only [cond_false]
          rw [learnO_same h]
          cases rdM false m b with
          | none => rfl
          | some u => simp only [valA, opA, Option.map_some, freeEff, effM, Bool.true_and, still_un hst]
        · simp only [cond_true]
          rw [learnO_same h]
          cases rdM false m a with
          | none => rfl
          | some u => simp only [valA, opA, Option.map_some, freeEff, effM, Bool.true_and, still_un hst]
      | _ => rfl
  | _ => simp only [opK, evalOpF_eq]

noncomputable def evalOpsK (C : Cfg) (T : CallF) (Y : YieldF) (f : FuncId) (mvs : Nat) (all : Array Oper) (l : List Oper) : Nat → M → (M → Ans) → Ans :=
  List.rec (motive := fun _ => Nat → M → (M → Ans) → Ans) (fun _ m k => k m)
    (fun o _ ih i m k => guardK all m (fun m => opK C T Y f (bit mvs i) m o (fun m => ih (i + 1) m k) o.op) (fun m => ih (i + 1) (wrM (C.vars f) m o.dst (.tu [])) k) o.guard) l
def andThen (r : Option (M × List Kind)) (k : M → Ans) : Ans := match r with
  | some (m, _) => k m
  | none => none
theorem evalOpsK_eq (C : Cfg) (T : CallF) (Y : YieldF) (f : FuncId) (mvs : Nat) (all : Array Oper) : ∀ (l : List Oper) (i : Nat) (m : M) (k : M → Ans), evalOpsK C T Y f mvs all l i m k = andThen (evalOps C T Y f mvs all l i m) k
  | [], i, m, k => rfl
  | o :: r, i, m, k => by
    have ih := evalOpsK_eq C T Y f mvs all r
    show guardK all m (fun m => opK C T Y f (bit mvs i) m o (fun m => evalOpsK C T Y f mvs all r (i + 1) m k) o.op) (fun m => evalOpsK C T Y f mvs all r (i + 1) (wrM (C.vars f) m o.dst (.tu [])) k) o.guard = _
    rw [guardK_eq]
    unfold evalOps
    cases guardM all m o with
    | none => rfl
    | some b =>
      cases b with
      | true =>
        simp only [pickG]
        rw [opK_eq]
        cases evalOp C T Y (rdM (mvo (bit mvs i) o) m) (getE m.L) m.st f (bit mvs i) o with
        | none => rfl
        | some p =>
          obtain ⟨v, e⟩ := p
          simp only [opA, ih]
          cases (freeEff m e && lpOk v e) with
          | false => rfl
          | true =>
            simp only [cond_true]
            cases evalOps C T Y f mvs all r (i + 1) (wrM (C.vars f) (effM (unown (bit mvs i) m o) e) o.dst v) with
            | none => rfl
            | some q => rfl
      | false =>
        simp only [pickG, ih]
        cases evalOps C T Y f mvs all r (i + 1) (wrM (C.vars f) m o.dst (.tu [])) with
        | none => rfl
        | some q => rfl

/-- A region that draws: its kinds go along. -/
def opB (C : Cfg) (f : FuncId) (mv : Bool) (m : M) (o : Oper) (k : Kind → M → Ans) : Option (V × Eff) → Ans
  | some (v, e) => bif freeEff m e && lpOk v e then k (kindOf m.st v e) (wrM (C.vars f) (effM (unown mv m o) e) o.dst v) else none
  | none => none
def valB (C : Cfg) (f : FuncId) (m : M) (o : Oper) (k : Kind → M → Ans) : Option V → Ans
  | some v => bif lpOk v .no then k (kindOf m.st v .no) (wrM (C.vars f) m o.dst v) else none
  | none => none
def pickB (C : Cfg) (f : FuncId) (rd : M → Operand → Option V) (m : M) (o : Oper) (c a b : Operand) (k : Kind → M → Ans) : Option V → Ans
  | some (.b x) => bif x then valB C f (learnO m c true) o k (rd (learnO m c true) a) else valB C f (learnO m c false) o k (rd (learnO m c false) b)
  | _ => none
def opD (C : Cfg) (T : CallF) (Y : YieldF) (f : FuncId) (mv : Bool) (m : M) (o : Oper) (k : Kind → M → Ans) : Op → Ans
  | .pick c a b => pickB C f (rdM false) m o c a b k (rdM false m c)
  | _ => opB C f mv m o k (evalOpF C T Y (rdM (mvo mv o) m) (getE m.L) m.st f mv o)
theorem opD_eq (C : Cfg) (T : CallF) (Y : YieldF) (f : FuncId) (mv : Bool) (m : M) (o : Oper) (k : Kind → M → Ans) : opD C T Y f mv m o k o.op = opB C f mv m o k (evalOp C T Y (rdM (mvo mv o) m) (getE m.L) m.st f mv o) := by
  cases hop : o.op with
  | pick c a b =>
    have hst : still o = true := by simp [still, hop]
    simp only [opD, evalOp, hop, still_rd hst]
    cases h : rdM false m c with
    | none => rfl
    | some v =>
      cases v with
      | b x =>
        simp only [pickB]
        cases x
        · simp only [cond_false]
          rw [learnO_same h]
          cases rdM false m b with
          | none => rfl
          | some u => simp only [valB, opB, Option.map_some, freeEff, effM, Bool.true_and, still_un hst]
        · simp only [cond_true]
          rw [learnO_same h]
          cases rdM false m a with
          | none => rfl
          | some u => simp only [valB, opB, Option.map_some, freeEff, effM, Bool.true_and, still_un hst]
      | _ => rfl
  | _ => simp only [opD, evalOpF_eq]
noncomputable def evalOpsL (C : Cfg) (T : CallF) (Y : YieldF) (f : FuncId) (all : Array Oper) (l : List Oper) : Nat → M → (List Kind → List Kind) → (List Kind → M → Ans) → Ans :=
  List.rec (motive := fun _ => Nat → M → (List Kind → List Kind) → (List Kind → M → Ans) → Ans) (fun _ m g k => k (g []) m)
    (fun o _ ih i m g k => guardK all m (fun m => opD C T Y f false m o (fun x m => ih (i + 1) m (fun r => g (x :: r)) k) o.op) (fun m => ih (i + 1) (wrM (C.vars f) m o.dst (.tu [])) (fun r => g (.p :: r)) k) o.guard) l
def andThenD (r : Option (M × List Kind)) (g : List Kind → List Kind) (k : List Kind → M → Ans) : Ans := match r with
  | some (m, ks) => k (g ks) m
  | none => none
theorem evalOpsL_eq (C : Cfg) (T : CallF) (Y : YieldF) (f : FuncId) (all : Array Oper) : ∀ (l : List Oper) (i : Nat) (m : M) (g : List Kind → List Kind) (k : List Kind → M → Ans), evalOpsL C T Y f all l i m g k = andThenD (evalOps C T Y f 0 all l i m) g k
  | [], i, m, g, k => rfl
  | o :: r, i, m, g, k => by
    have ih := evalOpsL_eq C T Y f all r
    have hb : bit 0 i = false := by rw [show bit 0 i = Nat.beq (Nat.land (Nat.shiftRight 0 i) 1) 1 from rfl]; have : Nat.shiftRight 0 i = 0 := Nat.zero_shiftRight i; rw [this]; rfl
    show guardK all m (fun m => opD C T Y f false m o (fun x m => evalOpsL C T Y f all r (i + 1) m (fun r => g (x :: r)) k) o.op) (fun m => evalOpsL C T Y f all r (i + 1) (wrM (C.vars f) m o.dst (.tu [])) (fun r => g (.p :: r)) k) o.guard = _
    rw [guardK_eq]
    unfold evalOps
    rw [hb]
    cases guardM all m o with
    | none => rfl
    | some b =>
      cases b with
      | true =>
        simp only [pickG]
        rw [opD_eq]
        cases evalOp C T Y (rdM (mvo false o) m) (getE m.L) m.st f false o with
        | none => rfl
        | some p =>
          obtain ⟨v, e⟩ := p
          simp only [opB, ih]
          cases (freeEff m e && lpOk v e) with
          | false => rfl
          | true =>
            simp only [cond_true]
            cases evalOps C T Y f 0 all r (i + 1) (wrM (C.vars f) (effM (unown false m o) e) o.dst v) with
            | none => rfl
            | some q => rfl
      | false =>
        simp only [pickG, ih]
        cases evalOps C T Y f 0 all r (i + 1) (wrM (C.vars f) m o.dst (.tu [])) with
        | none => rfl
        | some q => rfl

def seqK (kb : M → Ans) (k : Ex → M → Ans) : Ex → M → Ans
  | .normal, m => kb m
  | .exit id, m => k (.exit id) m
  | .ret, m => k .ret m
def blockK (id : Nat) (k : Ex → M → Ans) : Ex → M → Ans
  | .exit id', m => bif Nat.beq id' id then k .normal m else k (.exit id') m
  | .normal, m => k .normal m
  | .ret, m => k .ret m
def condK (g : Operand) (m : M) (ka kb : M → Ans) : Option V → Ans
  | some (.b x) => bif x then ka (learnO m g true) else kb (learnO m g false)
  | _ => none
def restK (k : Ex → M → Ans) : Option (Ex × M) → Ans
  | some (ex, m) => k ex m
  | none => none
def drawK (env : Env) (bs : List Nat) (k : Ex → M → Ans) (ks : List Kind) (m : M) : Ans := bif okAll env bs [] ks then k .normal { m with tp := [] } else none
noncomputable def codeK (C : Cfg) (T : CallF) (Y : YieldF) (f : FuncId) (ih : Code → M → (Ex → M → Ans) → Ans) (whole : Code → M → Option (Ex × M)) (c : Code) (m : M) (k : Ex → M → Ans) : Ans :=
  match c with
  | .skip => k .normal m
  | .region id ops draw => bif C.news f id then restK k (whole (.region id ops draw) m) else bif draw then evalOpsL C T Y f ops ops.toList 0 m (fun r => r) (drawK m.env (C.befs f id) k)
    else evalOpsK C T Y f (C.moves f id) ops ops.toList 0 m (fun m => k .normal { m with tp := [] })
  | .seq a b => ih a m (seqK (fun m => ih b m k) k)
  | .cond g a b => condK g m (fun m => ih a m k) (fun m => ih b m k) (rdM false m g)
  | .block id a => ih a m (blockK id k)
  | .loop a => ih a m (seqK (fun m => ih (.loop a) m k) k)
  | .exit id => k (.exit id) m
  | .ret => k .ret m
  | c => restK k (whole c m)
noncomputable def evalCodeK (C : Cfg) (T : CallF) (Y : YieldF) (f : FuncId) (n : Nat) : Code → M → (Ex → M → Ans) → Ans :=
  Nat.rec (motive := fun _ => Code → M → (Ex → M → Ans) → Ans) (fun _ _ _ => none) (fun n ih => codeK C T Y f ih (evalCode C T Y f (n + 1))) n
theorem evalCodeK_eq (C : Cfg) (T : CallF) (Y : YieldF) (f : FuncId) : ∀ (n : Nat) (c : Code) (m : M) (k : Ex → M → Ans), evalCodeK C T Y f n c m k = restK k (evalCode C T Y f n c m)
  | 0, c, m, k => by unfold evalCode; rfl
  | n + 1, c, m, k => by
    have ih := evalCodeK_eq C T Y f n
    show codeK C T Y f (evalCodeK C T Y f n) (evalCode C T Y f (n + 1)) c m k = _
    cases c with
    | skip => simp only [codeK, evalCode, restK]
    | exit id => simp only [codeK, evalCode, restK]
    | ret => simp only [codeK, evalCode, restK]
    | region id ops draw =>
      simp only [codeK]
      cases hn : C.news f id with
      | true => simp only [cond_true]
      | false =>
        simp only [cond_false, evalOpsK_eq, evalOpsL_eq, evalCode, hn]
        cases draw with
        | true =>
          simp only [cond_true, Bool.not_true, Bool.false_or]
          cases evalOps C T Y f 0 ops ops.toList 0 m with
          | none => rfl
          | some p =>
            obtain ⟨m', ks⟩ := p
            simp only [andThenD, drawK]
            cases okAll m.env (C.befs f id) [] ks <;> rfl
        | false =>
          simp only [cond_false, Bool.not_false, Bool.true_or, cond_true]
          cases evalOps C T Y f (C.moves f id) ops ops.toList 0 m with
          | none => rfl
          | some p => rfl
    | seq a b =>
      simp only [codeK, evalCode, ih]
      cases evalCode C T Y f n a m with
      | none => rfl
      | some p =>
        obtain ⟨ex, m1⟩ := p
        cases ex with
        | normal => simp only [restK, seqK, ih]
        | _ => rfl
    | cond g a b =>
      simp only [codeK, evalCode, ih]
      cases h : rdM false m g with
      | none => rfl
      | some v =>
        cases v with
        | b x =>
          simp only [condK]
          cases x
          · simp only [cond_false]; rw [learnO_same h]
          · simp only [cond_true]; rw [learnO_same h]
        | _ => rfl
    | block id a =>
      simp only [codeK, evalCode, ih]
      cases evalCode C T Y f n a m with
      | none => rfl
      | some p =>
        obtain ⟨ex, m1⟩ := p
        cases ex with
        | exit id' =>
          simp only [restK, blockK]
          cases Nat.beq id' id <;> rfl
        | _ => rfl
    | loop a =>
      simp only [codeK, evalCode, ih]
      cases evalCode C T Y f n a m with
      | none => rfl
      | some p =>
        obtain ⟨ex, m1⟩ := p
        cases ex with
        | normal => simp only [restK, seqK, ih]
        | _ => rfl
    | _ => simp only [codeK, evalCode, restK]

/-- How a function ends. -/
def endR (st : St) : Option (List V) → Ans
  | some [v] => some (v, st)
  | some vs => some (.tu vs, st)
  | none => none
def endK (C : Cfg) (fn : Func) : Ex → M → Ans
  | .exit _, _ => none
  | .normal, m => endR m.st (resultsV C.P m fn.results.toList)
  | .ret, m => endR m.st (resultsV C.P m fn.results.toList)
theorem evalFn_K (C : Cfg) (T : CallF) (Y : YieldF) (n : Nat) {f : FuncId} {fn : Func} {c : Code} (hf : C.P.funcs[f]? = some fn) (hc : fn.body = some c) (args : List V) (st : St) (hl : Nat.beq args.length (fn.params.size + fn.nfree) = true) :
    evalFn C T Y n f args st = evalCodeK C T Y f n c { env := bindArgs args 0, tp := [], L := [], st := st } (endK C fn) := by
  rw [evalCodeK_eq]
  unfold evalFn
  simp only [hf, hc, hl, Bool.not_true, cond_false]
  cases evalCode C T Y f n c { env := bindArgs args 0, tp := [], L := [], st := st } with
  | none => rfl
  | some p =>
    obtain ⟨ex, m⟩ := p
    cases ex with
    | exit id => rfl
    | normal =>
      simp only [restK, endK]
      unfold endR
      rfl
    | ret =>
      simp only [restK, endK]
      unfold endR
      rfl
end Go.Mu
end
section
/- The seat's figures, as its evaluator takes them. -/
open Go Go.Mu Go.Proofs
set_option maxRecDepth 100000
set_option linter.unusedVariables false
namespace Go.Sn
def hv : List Nat := [0, 0, 0, 332307078493547899447264150294618071, 2923003274661972010268480546231341776737975533559, 11692013101369482280996986369441877206354021056503, 332306998946531199825111349001732087, 19807040647048857406554046455, 1151, 1099780064509, 7, 2063, 4194575, 288247968338297403, 45, 524799, 21, 1049139, 339, 21, 21, 179, 8311, 290142198869238823067321005, 8223, 56330179781608571, 127, 967, 1237940048508752311753900093, 21, 1048947, 8590000381, 11419375343539500463202935237340955061482717181, 2055, 1, 35184373141535, 63, 1, 21, 13, 7, 21, 31, 524429, 16403, 19, 27, 18014406564381373, 13, 7, 8053063771, 7, 18084768333693055, 17592186175931, 5575191637313828835066814916022866433269755, 36029346909028603, 33571891, 36898132484534829119, 16781363, 8392755, 5, 173, 7, 77371252459839866809614589, 15, 21, 5, 304592638145229555238909, 8590459379, 131135, 9223653519489769343, 63, 16777971, 77, 5, 51, 51, 13, 75560169568923671334909, 67108893, 5, 262381, 1, 295284205047871702871, 1965, 8389151, 19, 15, 16439, 27, 262235, 268435483, 27, 27, 604463198038790317805627, 21, 5, 5, 8363, 31, 1, 115, 27, 5, 5, 8363, 8363, 40564828878709897764927900223487, 70378407855229, 528495, 5070762130236978312851293729727, 11, 2199157768167, 317222144511611696368729454783, 268436595, 19599674374948650847, 6207, 35219876874223, 147573990110510775743, 633825918965629006242157493439, 19599737048719703935, 4611686018695823675, 7, 13, 15, 2077, 21, 68719478259, 1073743357, 576460752320201213, 7, 7, 7, 7, 7, 7, 4785114768736271, 17448335485, 17179869683, 4722943225096958903283, 268435965, 72057594071498749, 524541, 1211287038884867458728063, 5, 7, 51, 66483, 151189807163439864348607, 167, 1125900980600807, 2260603458551743, 5773380009951, 6207, 69827822831, 1152921646340775359, 1171498870270598335, 36031146500294527, 1, 247, 10384593871817177683247510831234831, 5, 2147514407, 247, 10384593871817177683247510831234831, 5, 7, 2097715, 5, 1272921521542562413016168529151, 575, 2668881467057444406138411764519403519, 16499, 536871399, 73787540345377127999, 72057628531886047, 3647, 31, 863, 29, 115, 35, 70368744308861, 259, 5, 4196269, 13, 158329674404095, 71, 19, 5, 315, 77380697188583756326894847, 134349427, 31, 159, 51, 38685626236675608797007871, 18447026098442108479, 691, 66227, 27, 2147485663, 3647, 7, 183, 31, 34655, 66399, 1073746119, 1074268103, 8804682991559, 20829169751433159, 8391, 83087207854311395603287443752634311, 19, 19023213622105999119, 22458641409078797123448399039441150152463, 277, 16661, 1073746119, 1074268103, 8804682991559, 20829169751433159, 8391, 83087207854311395603287443752634311, 19, 19023213622105999119, 22458641409078797123448399039441150152463, 63, 7, 143, 4456479, 33554547, 29, 29, 9007215369272559, 67108877, 19, 31, 63, 17389, 604275, 5, 19, 15, 7, 137980052479, 143, 4503668346913551, 5, 5, 71, 1055, 5, 4503668346913551, 71, 1055, 5, 61, 531911, 2147618775, 287, 66483, 65631, 262927, 262927, 1, 1, 1, 1, 1, 1, 1, 1, 1, 1, 1, 1, 1, 1, 1, 1, 1, 1]
def hl : List Nat := [0, 0, 0, 1425424, 70660, 16900, 10756, 12292, 2, 0, 2, 2, 2, 24, 0, 120, 4, 0, 32, 0, 0, 48, 4, 0, 2, 24, 12, 0, 0, 4, 48, 0, 4128, 2, 0, 10, 8, 0, 0, 0, 0, 0, 2, 0, 0, 0, 8, 0, 0, 0, 72, 0, 2, 8, 36056, 120, 0, 12, 16, 0, 0, 0, 2, 160, 2, 0, 0, 0, 0, 16, 4, 0, 0, 0, 0, 0, 0, 12, 1024, 12, 0, 0, 0, 322, 32, 18, 0, 4, 4, 24, 56, 24, 24, 24, 56, 0, 0, 0, 0, 0, 1, 0, 8, 0, 0, 0, 0, 2, 0, 2, 21259136, 8, 14560, 526464, 0, 67392, 2048, 360, 5536, 5280, 9584, 8, 6, 0, 2, 0, 0, 0, 20, 0, 0, 0, 0, 0, 0, 0, 10, 0, 0, 0, 4, 1300, 0, 2, 0, 2, 0, 0, 0, 32, 3808, 0, 0, 2048, 104, 1440, 1184, 1392, 0, 0, 0, 0, 0, 0, 0, 0, 2, 0, 0, 1168608, 28, 77180, 16, 32, 30240, 464, 2592, 12, 336, 0, 0, 0, 108, 0, 0, 32, 0, 34, 0, 0, 0, 8, 21728, 48, 12, 28, 0, 1908, 13856, 32, 32, 8, 464, 2592, 6, 2, 12, 336, 848, 0, 0, 0, 0, 0, 0, 0, 0, 0, 0, 0, 0, 0, 0, 0, 0, 0, 0, 0, 0, 12, 6, 6, 6, 0, 12, 0, 162, 0, 0, 12, 12, 0, 0, 0, 0, 4, 6, 348, 6, 0, 0, 0, 0, 0, 0, 0, 0, 0, 0, 0, 0, 16, 12, 0, 22, 0, 0, 0, 0, 0, 0, 0, 0, 0, 0, 0, 0, 0, 0, 0, 0, 0, 0, 0, 0]
def hm : List (List (Nat × Nat)) := [[], [], [], [(1, 4), (2, 96), (4, 77), (8, 32), (7, 4), (11, 96), (16, 2), (18, 1), (23, 4), (21, 4), (26, 32), (29, 4539562)], [(1, 4), (2, 96), (4, 566), (10, 4), (17, 1), (15, 4), (19, 65), (20, 8), (26, 1), (23, 4), (8, 4), (27, 2)], [(1, 4), (2, 96), (4, 566), (9, 4), (11, 8), (12, 96), (14, 96), (15, 8192), (17, 1), (18, 512), (20, 1), (7, 4), (21, 2)], [(1, 4), (2, 96), (4, 566), (9, 4), (13, 8), (16, 1), (7, 4), (17, 2)], [(1, 4), (3, 2), (4, 96), (5, 96), (7, 1230), (11, 32), (15, 8), (16, 512), (18, 1), (10, 4), (19, 1062)], [(1, 4), (3, 2), (5, 96), (6, 9443023289266958)], [(2, 2), (3, 96), (4, 96), (6, 1230), (8, 1), (9, 8), (10, 4406)], [(1, 1106)], [(2, 3), (3, 193)], [(5, 1), (3, 4), (6, 36213028)], [(1, 4), (3, 8), (5, 8), (7, 8192), (10, 4096), (12, 16), (14, 52)], [(2, 3), (3, 921)], [(1, 96), (3, 1), (8, 96), (9, 329811314986)], [(3, 9)], [(5, 1), (3, 4), (6, 1)], [(2, 1), (3, 2048), (4, 3)], [(2, 1), (3, 41)], [(2, 1), (3, 73)], [(5, 1)], [(1, 4), (2, 4), (4, 1207), (5, 76983)], [(2, 1), (3, 4194304), (4, 8192), (5, 128), (8, 4), (9, 256), (11, 128), (14, 4), (15, 8), (17, 3)], [(1, 4), (3, 3), (4, 97)], [(1, 4), (14, 8), (18, 2), (19, 2), (20, 2), (21, 2), (22, 2), (23, 3), (24, 3)], [(1, 32), (2, 32), (3, 5005158743)], [(1, 96), (2, 128), (3, 19487014669903)], [(1, 8192), (2, 129), (3, 129), (4, 129), (5, 513), (6, 257), (10, 1025), (9, 4), (11, 257), (15, 1025), (14, 4), (16, 3)], [(3, 9)], [(3, 2048), (5, 1), (7, 1)], [(2, 128), (4, 3), (5, 8), (6, 8), (8, 3), (9, 7)], [(1, 4), (5, 96), (7, 3), (11, 384), (13, 3), (15, 4), (21, 3), (22, 16), (18, 4), (23, 4), (27, 4), (29, 3), (30, 16), (26, 4), (32, 3), (33, 7)], [(2, 10), (3, 38186)], [(1, 8)], [(1, 512), (2, 128), (3, 1), (4, 256), (5, 256), (6, 256), (7, 1), (8, 16384), (9, 1), (10, 1)], [(1, 96), (2, 17)], [(1, 3072)], [(2, 1), (3, 137)], [(1, 4), (3, 3)], [(1, 2)], [(2, 1), (3, 10)], [(1, 8), (2, 8), (3, 2183915)], [(5, 1), (3, 4), (6, 281)], [(1, 64), (2, 4), (5, 65), (4, 4), (6, 35)], [(1, 83)], [(1, 165)], [(2, 1), (5, 1), (16, 3)], [(1, 4), (3, 3)], [(1, 2)], [(1, 1024), (2, 2048), (6, 128), (8, 3)], [(1, 2)], [(1, 4), (2, 8), (3, 16), (4, 16), (6, 2), (7, 2), (8, 2), (9, 23), (10, 2), (11, 2), (12, 11415), (13, 2), (14, 2), (15, 2), (16, 23), (17, 2), (18, 183), (19, 3)], [(1, 96), (5, 1024), (7, 1), (4, 4), (8, 1)], [(2, 2), (3, 150994944), (6, 15), (7, 2), (8, 32), (11, 134217728), (12, 7), (13, 2), (14, 3145728), (17, 1), (18, 2), (19, 524288), (22, 3), (23, 262144), (25, 1)], [(6, 2), (7, 2048), (8, 2), (9, 32768), (10, 2), (11, 32768), (5, 4096), (13, 3)], [(2, 1), (7, 1), (5, 4), (8, 1)], [(2, 1), (7, 1), (5, 4), (8, 1)], [(5, 89), (3, 4), (6, 1)], [(5, 1), (3, 4), (6, 1)], [(1, 41)], [(5, 129), (6, 4), (7, 35)], [(1, 146)], [(1, 64), (6, 2049), (7, 65), (12, 33), (13, 33), (14, 33), (15, 33), (10, 4), (16, 33), (18, 33), (4, 4), (19, 3)], [(1, 128), (2, 33), (3, 33), (4, 33), (5, 37)], [(2, 1), (3, 10)], [(1, 17)], [(1, 96), (2, 96), (3, 384), (5, 3), (6, 512), (7, 512), (8, 512), (10, 3), (11, 96), (13, 7), (14, 1024), (15, 15)], [(1, 96), (6, 96), (8, 1), (9, 2), (4, 4), (10, 3)], [(1, 128), (3, 3), (5, 14)], [(5, 4), (7, 4), (11, 96), (12, 96), (14, 4), (15, 2), (19, 4), (20, 5)], [(1, 96), (3, 15)], [(2, 3), (3, 768), (5, 3), (7, 7)], [(1, 4), (2, 1), (3, 64), (4, 1), (5, 1)], [(1, 9)], [(1, 192), (2, 3)], [(1, 192), (2, 3)], [(1, 128), (2, 1)], [(1, 4), (2, 4), (3, 4), (7, 4), (8, 4), (9, 128), (11, 3), (12, 16), (6, 4), (14, 3), (15, 7)], [(8, 4), (11, 1)], [(1, 140905)], [(3, 2), (5, 1), (7, 141)], [(1, 25165824)], [(3, 4), (5, 1), (11, 1), (17, 1), (19, 1024), (20, 512), (21, 145041751)], [(1, 2), (7, 37)], [(2, 4), (3, 6482), (4, 4), (5, 100), (6, 3)], [(1, 19)], [(1, 298281)], [(1, 256), (2, 1), (3, 8), (4, 21), (5, 1206)], [(3, 1)], [(1, 8192), (5, 1)], [(4, 1)], [(3, 1)], [(3, 1)], [(4, 2), (6, 2), (8, 2), (13, 1)], [(2, 1), (3, 17)], [(1, 5)], [(0, 4)], [(2, 4)], [(1, 2)], [], [(4, 11)], [(1, 8192), (2, 2048), (3, 165)], [(1, 5)], [(0, 4)], [(2, 4)], [(2, 4)], [(1, 1073741824), (2, 1024), (3, 16384), (4, 512), (5, 32), (9, 128), (10, 128), (12, 1), (8, 4), (13, 638382812599)], [(4, 64), (5, 64), (7, 1), (12, 1), (10, 4), (3, 4), (13, 281)], [(2, 2), (3, 2), (4, 26), (5, 2), (6, 2), (7, 2), (8, 26), (9, 2), (10, 2), (11, 2), (12, 2), (13, 100), (14, 3)], [(1, 4), (3, 36), (10, 1024), (12, 10485760), (14, 78), (19, 16385), (9, 4), (21, 37), (22, 73)], [], [(1, 4), (3, 16), (4, 32), (6, 16), (7, 65536), (10, 39)], [(1, 4), (3, 3), (9, 1024), (11, 1025), (12, 262144), (14, 7), (16, 4), (18, 8193), (8, 4), (20, 7)], [(0, 8), (4, 4), (5, 256), (6, 17), (7, 257)], [(1, 4), (3, 4), (8, 1024), (10, 131072), (12, 11), (14, 2), (7, 4), (15, 10)], [(1, 379)], [(2, 4), (3, 4), (5, 5), (7, 5), (9, 5), (11, 5), (15, 5)], [(2, 4), (3, 64), (4, 4), (6, 5), (8, 5), (10, 5), (12, 5), (13, 4462)], [(2, 4), (3, 4), (5, 5), (6, 256), (8, 5), (11, 5), (12, 79), (15, 5), (16, 5), (19, 5), (20, 5), (22, 5), (24, 5), (25, 79)], [(2, 8), (3, 128), (5, 5), (7, 5), (12, 5), (14, 5), (15, 2346)], [(4, 4), (5, 256), (6, 17), (8, 4), (9, 257)], [(2, 1)], [(2, 2), (3, 2)], [(1, 512), (2, 65), (3, 65), (4, 33), (5, 33), (6, 33), (7, 37)], [(1, 8), (5, 257), (6, 257), (4, 4), (7, 3)], [(2, 1), (3, 10)], [(2, 3), (3, 768), (5, 3), (6, 1024), (8, 7)], [(2, 4), (4, 96), (5, 96), (8, 4), (9, 19)], [(1, 16), (2, 2), (4, 4), (7, 4), (9, 2048), (6, 4), (12, 3), (13, 7)], [(1, 128), (2, 3)], [(1, 128), (2, 3)], [(1, 64), (2, 3)], [(1, 128), (2, 3)], [(1, 128), (2, 3)], [(1, 64), (2, 3)], [(2, 1), (5, 2), (6, 2), (7, 2), (8, 2), (9, 2), (10, 10), (12, 1), (14, 1), (15, 18), (16, 1)], [(4, 24), (5, 256), (8, 3), (9, 27), (11, 3)], [(1, 16), (2, 192), (6, 3), (8, 206233)], [(6, 8192), (7, 64), (11, 7), (13, 4), (5, 4), (15, 3)], [(1, 16), (2, 96), (3, 96), (7, 4), (8, 19)], [(2, 4), (8, 2), (9, 32), (10, 16), (6, 4), (18, 32), (19, 16), (20, 128), (22, 4), (23, 2273903)], [(2, 4), (6, 4), (7, 4), (8, 65), (5, 4), (9, 3)], [(1, 256), (2, 256), (3, 8), (4, 16), (6, 2), (7, 2263639), (8, 2), (9, 2), (10, 8887), (11, 2), (12, 183), (13, 2), (14, 1111), (15, 1)], [(1, 77)], [(1, 298)], [(1, 4), (2, 36237)], [(3, 2), (5, 3), (7, 1)], [(1, 8), (3, 4), (7, 1), (10, 81920), (11, 4), (12, 6), (13, 4), (14, 1), (15, 2), (16, 1), (18, 1), (19, 1)], [], [(1, 16384), (2, 16), (3, 8), (4, 16), (5, 524288), (8, 39)], [(1, 8), (3, 1), (7, 1), (9, 2048), (11, 1), (17, 1)], [(1, 8), (3, 2), (7, 1024), (10, 2), (11, 2), (12, 3), (13, 2)], [(1, 40653)], [(2, 256), (3, 5), (4, 8), (5, 5), (6, 8), (7, 5), (8, 16), (9, 5), (10, 512), (13, 5)], [(3, 5), (4, 4), (6, 11), (8, 5), (9, 4462)], [(3, 5), (5, 271), (6, 4), (7, 8192), (8, 5), (9, 4), (10, 11), (11, 16), (12, 5), (13, 524288), (14, 5), (15, 79)], [(3, 5), (6, 2), (7, 2), (8, 5), (9, 2), (11, 4096), (12, 5), (13, 8), (14, 5), (15, 533)], [], [(2, 1), (3, 1), (4, 3)], [(2, 8), (4, 7), (6, 7), (9, 4), (10, 384), (13, 64), (18, 32), (19, 2), (20, 768), (21, 2), (22, 192), (23, 4), (25, 8), (27, 4), (28, 8), (30, 2)], [(1, 9), (2, 5)], [(2, 4)], [(2, 1), (3, 1), (4, 3)], [(2, 8), (4, 7), (6, 7), (9, 4), (10, 384), (13, 64), (18, 32), (19, 2), (20, 768), (21, 2), (22, 192), (23, 4), (25, 8), (27, 4), (28, 8), (30, 2)], [(1, 77)], [(1, 304426)], [(5, 1), (3, 4), (6, 2265)], [(1, 77)], [(4, 40), (5, 1306), (7, 84), (13, 4), (22, 41), (24, 40), (25, 41)], [(1, 8), (3, 1), (4, 1)], [(3, 136), (8, 64), (6, 4), (10, 64), (12, 265), (14, 128), (16, 128), (18, 64), (22, 4), (24, 64), (29, 67)], [(1, 192), (4, 153)], [(1, 192), (2, 256), (3, 65), (5, 4), (6, 257)], [(4, 5), (6, 5), (8, 128), (9, 4), (11, 4), (12, 2), (15, 5)], [(2, 20), (7, 4), (5, 4), (8, 4)], [(2, 323826278)], [(1, 567978)], [(2, 46), (3, 22)], [(1, 768), (3, 3)], [(1, 1536), (3, 3)], [], [(2, 4), (7, 2), (4, 4), (14, 1)], [], [(1, 77)], [(1, 2), (6, 1), (9, 35609)], [(1, 96), (2, 3)], [(4, 128), (6, 1), (3, 4), (8, 18), (9, 128), (10, 16), (11, 4407)], [(1, 315)], [(1, 19)], [(1, 77)], [(1, 4), (2, 1), (3, 8), (4, 1), (5, 1)], [(2, 65536), (5, 87), (6, 32768), (7, 85), (8, 192), (9, 8), (10, 5446), (11, 2048), (12, 43), (13, 1382)], [(6, 4), (9, 1)], [(1, 4426)], [(2, 1), (3, 1)], [(1, 4), (2, 36237)], [(3, 2048), (4, 136), (5, 16), (6, 68), (7, 2048), (8, 68), (9, 262144), (10, 281), (11, 512), (13, 68), (17, 71)], [(4, 5), (6, 128), (8, 4), (9, 2), (11, 5)], [(2, 16)], [(2, 16)], [(1, 554)], [(1, 131072), (2, 20), (3, 128), (4, 4), (5, 4)], [(2, 323826278)], [(2, 1)], [(2, 2), (3, 1), (4, 2), (5, 1), (6, 1)], [(1, 19)], [(1, 8), (2, 5), (3, 32768), (4, 5), (5, 79)], [(4, 1)], [(0, 4), (3, 2), (5, 4), (2, 4)], [(0, 2), (2, 8), (3, 8), (5, 4), (7, 4), (9, 4)], [(0, 8), (3, 4), (4, 64), (7, 32), (9, 8), (6, 4)], [(1, 8), (3, 32), (4, 32), (5, 32), (8, 8), (9, 8), (10, 8), (11, 32), (14, 2), (15, 7), (16, 2), (17, 7), (13, 7)], [(0, 2), (1, 4), (4, 4), (5, 4)], [(1, 4), (6, 4), (8, 1), (10, 1), (13, 4), (15, 4), (19, 4), (21, 4), (4, 4), (24, 1)], [(1, 5005)], [(2, 48), (4, 4), (6, 4), (9, 4), (10, 4), (11, 3)], [(2, 48), (4, 4), (6, 4), (9, 7), (11, 4), (12, 4), (14, 4), (16, 4), (19, 4), (20, 4), (22, 7)], [(2, 4), (5, 4), (6, 4), (7, 67)], [(2, 4), (5, 4), (6, 4), (8, 4), (9, 4), (10, 67)], [(0, 4), (3, 2), (5, 4), (2, 4)], [(0, 2), (2, 8), (3, 8), (5, 4), (7, 4), (9, 4)], [(0, 8), (3, 4), (4, 64), (7, 32), (9, 8), (6, 4)], [(1, 8), (3, 32), (4, 32), (5, 32), (8, 8), (9, 8), (10, 8), (11, 32), (14, 2), (15, 7), (16, 2), (17, 7), (13, 7)], [(0, 2), (1, 4), (4, 4), (5, 4)], [(1, 4), (6, 4), (8, 1), (10, 1), (13, 4), (15, 4), (19, 4), (21, 4), (4, 4), (24, 1)], [(1, 5005)], [(2, 48), (4, 4), (6, 4), (9, 4), (10, 4), (11, 3)], [(2, 48), (4, 4), (6, 4), (9, 7), (11, 4), (12, 4), (14, 4), (16, 4), (19, 4), (20, 4), (22, 7)], [(1, 8), (2, 5)], [(2, 1)], [(2, 4), (3, 1290)], [(1, 4), (3, 4), (5, 34), (6, 138)], [(3, 4), (4, 3355431)], [(1, 1024), (3, 1)], [(1, 768), (3, 3)], [(1, 2), (5, 33), (8, 65), (11, 16), (13, 1), (15, 278)], [(3, 13465), (5, 3)], [(1, 11)], [(1, 19)], [(1, 384), (2, 3)], [(4, 4), (6, 3), (8, 3)], [(1, 4), (2, 4), (5, 1), (6, 1), (8, 1), (10, 1), (12, 1), (13, 1)], [(1, 77)], [(1, 19)], [(1, 82)], [(2, 1)], [(1, 128), (3, 128), (5, 10), (10, 4), (11, 5)], [(2, 4), (3, 1290)], [(0, 2), (1, 8), (4, 4), (7, 2)], [(1, 17)], [(4, 13)], [(1, 347)], [(1, 768), (2, 768), (3, 768), (4, 3)], [(1, 11)], [(0, 2), (1, 8), (4, 4), (7, 2)], [(1, 347)], [(1, 768), (2, 768), (3, 768), (4, 3)], [(1, 11)], [(1, 96), (2, 29)], [(3, 12), (5, 3), (6, 1)], [(1, 4), (2, 4), (4, 64), (6, 4), (7, 2), (8, 50935)], [(2, 1), (3, 1)], [(3, 2), (5, 3), (7, 1)], [(2, 256), (3, 4), (4, 8), (5, 34), (7, 5)], [(3, 15), (4, 15)], [(3, 15), (4, 15)], [], [], [], [], [], [], [], [], [], [], [], [], [], [], [], [], [], []]
def hb : List (List (Nat × List Nat)) := [[], [], [], [], [(16, [0, 0, 0, 6, 14, 31, 63, 127, 255, 511, 1023, 2047, 4095, 8191, 16383, 32767, 65535, 131071, 262143, 524287, 131071, 131071, 3276799, 7471103, 16777215, 33554431, 67108863]), (24, [0, 1, 0, 0, 12, 28, 63, 0, 255]), (25, [0, 1, 0, 0, 12, 28, 63, 127, 255, 511, 1023, 2047, 4095, 8191, 16383, 32767, 4095, 69631, 200703, 524287, 1048575, 2097151, 4194303, 8388607, 16777215, 33554431, 67108863, 134217727, 268435455, 33554431, 570425343, 1644167167, 4294967295, 8589934591, 17179869183])], [], [], [(19, [0, 1, 3, 7, 15, 3, 47, 111, 255, 511, 1023])], [], [(10, [0, 1, 3, 7, 15, 31, 63, 127, 31, 287, 1023, 2047, 4095])], [], [(3, [0, 0, 0, 0, 15, 31, 63, 127])], [], [(7, [0, 1, 3, 7, 15, 31, 15, 79, 207, 463, 975, 2047, 4095, 8191]), (8, [0, 0, 0, 4, 0, 16, 13, 77, 205, 511, 1023, 2047]), (10, [0, 1, 3, 7, 15, 31, 15, 79, 207, 463, 1023, 2047, 4095]), (14, [0, 0, 2, 7, 0, 0, 63, 127])], [(3, [0, 1, 3, 7, 0, 16, 48, 112, 15, 511])], [], [], [(4, [0, 0, 3, 7, 0, 0, 48, 112, 255])], [], [], [], [], [], [(3, [0, 1, 3, 7, 15, 31, 0, 64, 192, 448, 960, 2047, 0, 4096, 12288, 28672, 65535, 0, 131072, 393216, 917504, 2097151, 4194303]), (4, [0, 0, 2, 6, 14, 31, 0, 64, 192, 448, 1023, 2047, 4095, 8191])], [], [(7, [0, 1, 0, 4, 12, 28, 60, 127]), (12, [0, 1, 0, 4, 12, 28, 63])], [], [(3, [0, 1, 3, 3, 11, 27, 59, 127, 255, 511, 1023, 1023, 3071, 7167, 15359, 32767, 65535, 131071, 262143, 524287, 262143, 1310719, 3407871, 7602175, 16777215, 33554431, 67108863, 134217727, 268435455, 134217727, 671088639, 1744830463, 3892314111, 8589934591, 17179869183, 34359738367, 68719476735, 68719476735, 274877906943, 68719476735, 68719476735, 2199023255551, 4398046511103, 8796093022207, 17592186044415])], [(1, [0, 1, 3, 7, 15, 31, 0, 64, 192, 448, 960, 2047, 4095, 8191])], [], [], [], [(20, [0, 1, 3, 7, 15, 31, 63, 127, 255, 511, 1023, 127, 2175, 8191, 16383, 32767, 127, 65663, 262143, 524287, 1048575]), (22, [0, 0, 2, 6, 14, 0, 32, 126, 255, 511, 1023])], [], [], [(1, [0, 0, 2, 7, 15, 31, 31, 0, 191, 511])], [], [], [], [], [], [], [], [], [], [], [(1, [0, 0, 2, 7, 0, 16, 63, 127])], [(7, [0, 0, 3, 0, 8, 24, 63, 127]), (11, [0, 0, 2, 7, 0, 16, 63, 0, 128, 511, 0, 1024, 4095, 8191])], [], [], [(1, [0, 0, 2, 7, 0, 16, 63, 0, 128, 511, 1023]), (2, [0, 0, 2, 7, 0, 16, 63, 0, 128, 384, 1023, 2047]), (6, [0, 0, 2, 7, 0, 16, 63, 127])], [], [], [(5, [0, 1, 3, 7, 0, 0, 48, 112, 240, 511, 1023]), (6, [0, 1, 3, 7, 7, 31, 63, 127, 7, 263, 775, 1799, 3847, 8191, 16383])], [(3, [0, 1, 3, 7, 0, 16, 0, 64, 0, 256, 0, 1024, 3072, 0, 8192, 24576, 65535, 131071, 262143, 262143, 262143, 262143, 0, 0, 13107199, 30408703, 65011711, 134217727]), (11, [0, 1, 3, 7, 0, 16, 48, 0, 128, 0, 512, 0, 2048, 0, 8192, 0, 32768, 130944, 262143, 524287, 1048575, 1048575, 1048575, 0, 0, 27262975, 62914559, 134217727]), (14, [0, 1, 3, 7, 0, 16, 0, 64, 192, 0, 512, 1536, 0, 4096, 0, 16384, 65535, 131071, 262143, 262143, 524287, 2097151]), (19, [0, 1, 3, 7, 0, 16, 0, 64, 192, 0, 512, 0, 2048, 8191, 16383, 32767, 32767, 0, 196607, 524287]), (23, [0, 1, 3, 7, 0, 16, 48, 0, 128, 384, 0, 1024, 3072, 0, 8192, 0, 32768, 131071, 262143])], [], [(6, [0, 0, 3, 7, 0, 0, 48, 112, 255])], [(6, [0, 1, 0, 7, 15, 0, 32, 0, 224, 480, 1023])], [], [], [], [], [(1, [0, 1, 3, 0, 8, 31, 63, 127])], [], [(1, [0, 1, 3, 0, 8, 31, 63, 127])], [], [], [], [], [(4, [0, 1, 3, 7, 0, 16, 0, 127])], [], [], [], [], [], [], [], [], [(12, [0, 0, 2, 6, 14, 0, 0, 96, 224, 510, 1023, 2047, 4095])], [], [(1, [0, 1, 3, 7, 15, 31, 63, 127, 255, 511, 63, 1087, 3135, 7231, 15423, 32767, 65535, 131071])], [], [], [], [], [(1, [0, 0, 2, 7, 0, 31]), (3, [0, 1, 3, 0, 8, 24, 56, 120, 248, 504, 1016, 127, 4095])], [], [(1, [0, 1, 3, 7, 0, 16, 63, 127, 255, 511, 1023, 511, 2559, 6655, 14847, 31231, 65535, 131071, 262143])], [], [(1, [0, 1, 3, 7, 0, 16, 0, 64, 0, 256, 0, 1024, 3072, 0, 8192, 24576, 65535, 131071, 262143, 262143, 262143, 262143, 524287, 4718591, 13631487, 30408703, 65011711, 132120575, 268435455, 536870911])], [(1, [0, 1, 3, 7, 0, 16, 48, 127, 255, 511, 511, 0, 3071, 8191]), (4, [0, 1, 3, 7, 0, 16, 48, 0, 128, 0, 512, 0, 2048, 0, 8192, 0, 32768, 130944, 262143, 524287, 1048575, 1048575, 1048575, 2097151, 10485759, 29360127, 62914559, 134217727, 268435455])], [(1, [0, 1, 3, 7, 0, 16, 0, 64, 192, 0, 512, 1536, 0, 4096, 0, 16384, 65535, 131071, 262143, 262143, 1048575, 2097151]), (3, [0, 1, 3, 7, 0, 16, 48, 0, 255])], [(1, [0, 1, 3, 7, 0, 16, 0, 64, 192, 0, 512, 0, 2048, 8191, 16383, 32767, 32767, 65535, 196607, 524287, 1048575])], [(1, [0, 1, 3, 7, 0, 16, 48, 0, 128, 384, 0, 1024, 3072, 0, 8192, 0, 32768, 131071, 262143, 524287])], [(11, [0, 1, 3, 7, 0, 16, 48, 0, 128, 511])], [], [], [], [], [], [], [], [(1, [0, 0, 2, 6, 15, 0, 32, 96, 255, 0, 512, 1536, 4095, 8191]), (2, [0, 0, 2, 6, 15, 0, 32, 127, 0, 256, 1023, 2047]), (3, [0, 0, 2, 7, 0, 16, 63, 127])], [], [], [], [], [], [(11, [0, 0, 3, 7, 15, 0, 0, 96, 224, 480, 1023])], [], [(10, [0, 0, 2, 6, 14, 0, 62, 126, 254, 511, 1023]), (12, [0, 1, 3, 7, 0, 31, 63, 127, 0, 0, 0, 0, 4095, 8191, 16383, 16383, 16383, 16383, 0, 0, 819199, 1900543, 4063231, 8388607]), (14, [0, 0, 0, 0, 9, 27, 63]), (19, [0, 0, 2, 6, 14, 0, 62, 126, 254, 0, 512, 2046, 4094, 8191, 16383]), (21, [0, 0, 0, 5, 15, 31])], [(1, [0, 0, 2, 6, 14, 0, 62, 127, 255, 511])], [(7, [0, 0, 3, 0, 15, 31, 63, 63, 63, 63, 0, 0, 0, 7295, 15615, 32255, 65535]), (10, [0, 0, 0, 1, 11, 31])], [(9, [0, 0, 2, 6, 14, 0, 62, 126, 254, 511, 1023]), (12, [0, 1, 3, 7, 0, 31, 63, 127, 0, 0, 0, 0, 4095, 8191, 16383, 16383, 0, 98303, 262143]), (18, [0, 0, 2, 6, 14, 0, 62, 126, 254, 0, 1022, 2046, 4095, 8191])], [], [(8, [0, 0, 2, 6, 14, 0, 62, 126, 254, 511, 1023]), (10, [0, 1, 3, 7, 0, 31, 63, 127, 0, 0, 0, 2047, 4095, 8191, 8191, 0, 49151, 131071])], [(1, [0, 0, 3, 0, 0, 0, 0, 127, 255])], [], [(13, [0, 1, 0, 0, 0, 16, 0, 112, 0, 511, 1023, 2047, 4095])], [], [], [(3, [0, 0, 2, 6, 14, 30, 63, 127, 255, 511, 1023, 2047, 255, 8191, 16383, 32767, 255, 65791, 262143, 524287]), (7, [0, 0, 2, 6, 14, 30, 63, 127, 255, 511, 1023, 2047, 255, 8191, 16383, 32767, 255, 65791, 262143, 524287])], [], [], [(1, [0, 1, 3, 7, 0, 16, 48, 127, 255, 511])], [], [], [], [], [(9, [0, 1, 3, 7, 0, 0, 32, 0, 127, 383, 895, 2047])], [], [], [], [], [], [], [], [], [(3, [0, 1, 3, 7, 7, 23, 55, 119, 247, 7, 519, 1543, 3591, 8183, 16383, 32767]), (8, [0, 1, 3, 7, 0, 16, 48, 112, 0, 496, 0, 1024, 3072, 7168, 16383, 32767, 65535, 131071])], [(4, [0, 1, 3, 7, 15, 31, 63, 7, 255, 7, 519, 1543, 3591, 7687, 16383, 32767]), (6, [0, 1, 3, 7, 0, 16, 48, 112, 0, 496, 1023, 2047, 4095, 8191])], [], [(23, [0, 0, 2, 6, 14, 30, 62, 126, 254, 510, 1022, 2046, 4094, 8190, 16382, 32766, 65534, 131070, 262142, 524286, 65535, 2097151])], [], [], [], [], [], [], [(12, [0, 0, 0, 0, 9, 27, 63])], [(2, [0, 0, 2, 6, 14, 0, 62, 127, 255, 511])], [(5, [0, 1, 3, 7, 0, 31, 0, 127, 255, 511, 511, 511, 511, 0, 0, 0, 58367, 124927, 258047, 524287]), (7, [0, 1, 3, 7, 0, 0, 63]), (8, [0, 0, 0, 1, 11, 31])], [(15, [0, 1, 3, 7, 0, 31])], [(13, [0, 0, 1, 7])], [(1, [0, 1, 3, 7, 15, 31, 63, 7, 255, 7, 7, 7, 7, 8191, 16383, 32767])], [], [(9, [0, 1, 0, 0, 0, 16, 0, 112, 0, 496, 1023, 2047, 4095])], [], [], [], [], [(17, [0, 1, 3, 7, 7, 23, 63, 127, 7, 7, 775, 1799, 4095, 8191, 16383])], [], [], [], [(17, [0, 1, 3, 7, 7, 23, 63, 127, 7, 7, 775, 1799, 4095, 8191, 16383])], [], [], [], [], [(7, [0, 0, 2, 1, 9, 31, 63])], [], [(3, [0, 0, 0, 4, 1, 19, 63, 127]), (7, [0, 1, 0, 7, 15, 31, 0, 64, 192, 511]), (12, [0, 1, 0, 4, 0, 3, 47, 127, 255]), (29, [0, 0, 0, 1, 11, 31, 63])], [], [], [], [(6, [0, 1, 0, 7, 15, 31, 0, 127, 255, 511, 1023, 2047, 1023, 8191, 16383, 32767, 1023, 131071, 262143])], [], [], [], [], [], [], [(11, [0, 0, 2, 0, 14, 0, 62, 0, 254, 511, 1023, 2047])], [], [], [], [], [(5, [0, 1, 3, 7, 15, 31, 63, 127, 63, 319, 1023, 2047, 4095, 63, 8255, 63, 57407, 122943, 254015, 524287, 1048575, 2097151, 4194303])], [], [], [], [], [(5, [0, 0, 0, 1, 11, 31, 63]), (7, [0, 0, 2, 1, 9, 31, 63]), (8, [0, 0, 3, 0, 0, 31, 63, 127]), (10, [0, 1, 0, 4, 15, 31, 63, 127, 0, 255, 767, 2047, 4095]), (12, [0, 0, 1, 5, 15, 31]), (13, [0, 1, 0, 4, 15, 31, 0, 63, 191, 511, 1023])], [(7, [0, 0, 0, 6, 14, 0, 63, 127])], [(1, [0, 1, 0, 4, 15, 0, 32, 0, 128, 511, 1023, 2047, 4095])], [], [], [(4, [0, 0, 0, 4, 1, 19, 63, 127]), (6, [0, 0, 0, 1, 11, 31, 63]), (8, [0, 0, 0, 1, 11, 31, 63]), (10, [0, 1, 0, 4, 0, 3, 47, 127, 255]), (13, [0, 0, 0, 1, 11, 31, 63]), (15, [0, 0, 2, 7, 15]), (17, [0, 0, 0, 1, 11, 31, 63])], [], [], [], [], [(3, [0, 0, 3, 0, 0, 31, 63, 127])], [], [], [], [], [], [(3, [0, 0, 2, 7, 15])], [(4, [0, 0, 3, 7, 15, 15, 63, 127, 15, 15, 527, 1807, 3855, 8191, 16383]), (6, [0, 0, 0, 0, 8, 0, 0, 64, 224, 480, 0, 0, 3072, 7168, 16355, 32739, 65535, 131071])], [(10, [0, 0, 0, 0, 0, 24, 0, 0, 0, 384, 960, 1984, 0, 0, 12288, 28672, 65475, 131011, 262143, 524287])], [(10, [0, 0, 0, 0, 0, 24, 0, 0, 0, 384, 960, 1984, 0, 0, 12288, 28672, 65475, 131011, 262143, 524287])], [], [(3, [0, 0, 0, 0, 0, 0, 48, 112, 0, 0, 768, 1792, 4083, 8179, 16383, 32767])], [(5, [0, 0, 3, 7, 15, 15, 63, 127, 15, 15, 527, 1807, 3855, 8191, 16383, 32767]), (11, [0, 0, 0, 0, 8, 0, 0, 64, 224, 480, 0, 0, 3072, 7168, 16355, 32739, 65535, 131071]), (16, [0, 0, 3, 7, 0, 0, 32, 112, 240, 511, 1023]), (17, [0, 0, 0, 0, 8, 0, 0, 64, 224, 480, 0, 0, 3072, 7168, 16355, 32739, 65535, 131071]), (22, [0, 0, 3, 7, 0, 0, 32, 112, 240, 511, 1023]), (23, [0, 0, 0, 0, 8, 0, 0, 64, 224, 480, 0, 0, 3072, 7168, 16355, 32739, 65535, 131071])], [], [(1, [0, 0, 0, 0, 0, 0, 48, 112, 0, 0, 768, 1792, 4083, 8179, 16383, 32767]), (3, [0, 0, 3, 7, 15, 15, 63, 127, 15, 15, 783, 1807, 4095, 8191, 16383]), (5, [0, 0, 3, 7, 15, 15, 63, 127, 15, 15, 783, 1807, 4095, 8191]), (8, [0, 0, 0, 0, 0, 0, 48, 112, 0, 0, 768, 1792, 4083, 8179, 16383, 32767])], [(1, [0, 0, 0, 0, 0, 0, 48, 112, 0, 0, 768, 1792, 4083, 8179, 16383, 32767]), (3, [0, 0, 3, 7, 15, 15, 63, 127, 15, 15, 783, 1807, 4095, 8191]), (5, [0, 0, 3, 7, 15, 15, 63, 127, 15, 15, 783, 1807, 4095, 8191, 16383]), (8, [0, 0, 0, 0, 0, 0, 48, 112, 0, 0, 768, 1792, 4083, 8179, 16383, 32767]), (10, [0, 0, 0, 0, 0, 0, 48, 112, 0, 0, 768, 1792, 4083, 8179, 16383, 32767]), (13, [0, 0, 3, 7, 15, 15, 63, 127, 15, 15, 783, 1807, 4095, 8191]), (15, [0, 0, 3, 7, 15, 15, 63, 127, 15, 15, 783, 1807, 4095, 8191, 16383]), (18, [0, 0, 0, 0, 0, 0, 48, 112, 0, 0, 768, 1792, 4083, 8179, 16383, 32767]), (21, [0, 0, 0, 0, 0, 0, 48, 112, 0, 0, 768, 1792, 4083, 8179, 16383, 32767])], [], [], [(4, [0, 0, 3, 7, 15, 15, 63, 127, 15, 15, 527, 1807, 3855, 8191, 16383]), (6, [0, 0, 0, 0, 8, 0, 0, 64, 224, 480, 0, 0, 3072, 7168, 16355, 32739, 65535, 131071])], [(10, [0, 0, 0, 0, 0, 24, 0, 0, 0, 384, 960, 1984, 0, 0, 12288, 28672, 65475, 131011, 262143, 524287])], [(10, [0, 0, 0, 0, 0, 24, 0, 0, 0, 384, 960, 1984, 0, 0, 12288, 28672, 65475, 131011, 262143, 524287])], [], [(3, [0, 0, 0, 0, 0, 0, 48, 112, 0, 0, 768, 1792, 4083, 8179, 16383, 32767])], [(5, [0, 0, 3, 7, 15, 15, 63, 127, 15, 15, 527, 1807, 3855, 8191, 16383, 32767]), (11, [0, 0, 0, 0, 8, 0, 0, 64, 224, 480, 0, 0, 3072, 7168, 16355, 32739, 65535, 131071]), (16, [0, 0, 3, 7, 0, 0, 32, 112, 240, 511, 1023]), (17, [0, 0, 0, 0, 8, 0, 0, 64, 224, 480, 0, 0, 3072, 7168, 16355, 32739, 65535, 131071]), (22, [0, 0, 3, 7, 0, 0, 32, 112, 240, 511, 1023]), (23, [0, 0, 0, 0, 8, 0, 0, 64, 224, 480, 0, 0, 3072, 7168, 16355, 32739, 65535, 131071])], [], [(1, [0, 0, 0, 0, 0, 0, 48, 112, 0, 0, 768, 1792, 4083, 8179, 16383, 32767]), (3, [0, 0, 3, 7, 15, 15, 63, 127, 15, 15, 783, 1807, 4095, 8191, 16383]), (5, [0, 0, 3, 7, 15, 15, 63, 127, 15, 15, 783, 1807, 4095, 8191]), (8, [0, 0, 0, 0, 0, 0, 48, 112, 0, 0, 768, 1792, 4083, 8179, 16383, 32767])], [(1, [0, 0, 0, 0, 0, 0, 48, 112, 0, 0, 768, 1792, 4083, 8179, 16383, 32767]), (3, [0, 0, 3, 7, 15, 15, 63, 127, 15, 15, 783, 1807, 4095, 8191]), (5, [0, 0, 3, 7, 15, 15, 63, 127, 15, 15, 783, 1807, 4095, 8191, 16383]), (8, [0, 0, 0, 0, 0, 0, 48, 112, 0, 0, 768, 1792, 4083, 8179, 16383, 32767]), (10, [0, 0, 0, 0, 0, 0, 48, 112, 0, 0, 768, 1792, 4083, 8179, 16383, 32767]), (13, [0, 0, 3, 7, 15, 15, 63, 127, 15, 15, 783, 1807, 4095, 8191]), (15, [0, 0, 3, 7, 15, 15, 63, 127, 15, 15, 783, 1807, 4095, 8191, 16383]), (18, [0, 0, 0, 0, 0, 0, 48, 112, 0, 0, 768, 1792, 4083, 8179, 16383, 32767]), (21, [0, 0, 0, 0, 0, 0, 48, 112, 0, 0, 768, 1792, 4083, 8179, 16383, 32767])], [], [], [], [], [(4, [0, 0, 0, 4, 12, 28, 60, 126, 254, 510, 1022, 2046, 4094, 510, 16382, 32766, 65534, 510, 262142, 524286, 511, 2097151])], [], [], [(12, [0, 1, 3, 7, 15, 31, 63, 127, 127, 383, 1023, 2047, 127, 8191, 16383, 32767, 65535])], [(1, [0, 1, 3, 7, 0, 16, 48, 112, 240, 511, 1023, 2047, 4095, 8191, 16383, 2047, 34815, 100351, 231423, 524287, 1048575, 2097151, 4194303]), (3, [0, 1, 3, 7, 0, 16, 48, 112, 240, 511, 1023, 2047, 4095, 8191])], [], [], [], [], [], [], [], [], [], [], [], [(3, [0, 1, 0, 7, 15, 31, 31, 31, 223, 511, 1023, 31, 31, 31, 12319, 28703, 63519, 129055, 262143, 524287]), (5, [0, 0, 0, 6, 15, 31, 0, 0, 0, 384, 960, 1984, 4095, 8191]), (6, [0, 0, 0, 6, 0, 0, 0, 96, 0, 0, 0, 1536, 3840, 7936, 0, 0, 0, 98304, 245760, 507904, 1048335, 2096911, 4194303, 8388607])], [], [(1, [0, 1, 3, 0, 8, 24, 56, 127, 255, 511]), (2, [0, 1, 3, 0, 8, 24, 56, 127, 255, 511]), (3, [0, 1, 3, 0, 8, 24, 56, 127, 255, 511])], [], [], [], [(3, [0, 1, 0, 7, 15, 31, 31, 31, 223, 511, 1023, 31, 31, 31, 12319, 28703, 63519, 129055, 262143, 524287]), (5, [0, 0, 0, 6, 15, 31, 0, 0, 0, 384, 960, 1984, 4095, 8191]), (6, [0, 0, 0, 6, 0, 0, 0, 96, 0, 0, 0, 1536, 3840, 7936, 0, 0, 0, 98304, 245760, 507904, 1048335, 2096911, 4194303, 8388607])], [], [], [], [], [], [(5, [0, 0, 0, 6, 14, 0, 63, 127]), (8, [0, 0, 0, 6, 14, 30, 30, 30, 222, 478, 30, 2046, 4094, 8190, 4095, 32767])], [], [], [], [(1, [0, 0, 3, 7, 0, 0, 48, 112, 255])], [(1, [0, 0, 3, 7, 0, 0, 48, 112, 255])], [], [], [], [], [], [], [], [], [], [], [], [], [], [], [], [], [], []]
def hn : List (List Nat) := [[], [], [], [], [], [], [], [], [], [], [], [3], [], [], [], [], [], [], [], [], [], [], [], [], [], [], [], [], [], [], [], [], [], [], [], [], [], [], [], [], [], [], [], [], [], [], [], [], [], [], [], [], [], [], [], [], [], [], [], [], [], [], [], [], [], [], [], [], [], [], [], [], [], [], [], [], [], [], [], [], [], [], [], [], [], [], [], [], [], [], [], [], [], [], [], [], [], [], [], [], [], [], [], [], [], [], [], [], [], [], [], [], [], [], [], [], [], [], [], [], [], [], [], [], [], [], [], [], [], [], [], [], [], [], [], [], [], [], [], [], [], [], [], [], [], [], [], [], [], [], [], [], [], [], [], [], [], [], [], [], [], [], [], [], [], [], [], [], [], [], [], [], [], [], [], [], [], [], [], [], [], [], [], [], [], [], [], [], [], [], [], [], [], [], [], [], [], [], [], [], [], [], [], [], [], [], [], [], [], [], [], [], [], [], [], [], [], [], [], [], [], [], [], [], [], [], [], [], [], [], [], [], [], [], [], [], [], [], [], [], [], [], [], [], [], [], [], [], [], [], [], [], [], [], [], [], [], [], [], [], [], [], [], [], [], [], [], [], [], [], [], [], [], [], [], [], [], [], [], [], [], [], [], [], []]

def nthN {α : Type} (d : α) : List α → Nat → α
  | [], _ => d
  | a :: _, 0 => a
  | _ :: r, n + 1 => nthN d r n
def look {α : Type} (d : α) (l : List (Nat × α)) (k : Nat) : α := match l with
  | [] => d
  | (a, b) :: r => bif Nat.beq a k then b else look d r k
def memN (k : Nat) : List Nat → Bool
  | [] => false
  | a :: r => bif Nat.beq a k then true else memN k r
noncomputable def C : Cfg := { P := Tryz.prog, memT := fun _ => false, vars := fun f => nthN 0 hv f, locals := fun f => nthN 0 hl f, moves := fun f r => look 0 (nthN [] hm f) r, befs := fun f r => look [] (nthN [] hb f) r, news := fun f r => memN r (nthN [] hn f) }
def isTrue : Option (V × St) → Bool
  | some (.b true, _) => true
  | _ => false
noncomputable def okFrom (C : Cfg) : List Func → Nat → Bool := fun l => List.rec (motive := fun _ => Nat → Bool) (fun _ => true) (fun fn _ ih n => bif funcOk C n fn then ih (n + 1) else false) l
theorem okFrom_get (C : Cfg) : ∀ (l : List Func) (n : Nat), okFrom C l n = true → ∀ j fn, l[j]? = some fn → funcOk C (n + j) fn = true
  | [], _, _, j, fn, h => by simp at h
  | x :: r, n, h, j, fn, hj => by
    simp only [okFrom] at h
    cases hx : funcOk C n x with
    | false => rw [hx] at h; cases h
    | true =>
      rw [hx] at h
      cases j with
      | zero => simp at hj; subst hj; simpa using hx
      | succ j => have := okFrom_get C r (n + 1) h j fn (by simpa using hj); rwa [show n + 1 + j = n + (j + 1) by omega] at this
theorem mixed : C.P.follows .mixedOrders = true := by kernel_rfl
theorem allOk : okFrom C C.P.funcs.toList 0 = true := by kernel_rfl
theorem fnOk : ∀ f fn, C.P.funcs[f]? = some fn → funcOk C f fn = true := fun f fn h => by
  have := okFrom_get C _ 0 allOk f fn (by rw [← Array.getElem?_toList] at h; exact h)
  simpa using this
def S0 : FuncId → Option (List V → St → Option (V × St)) := fun f => none
theorem S0_ok : SoundS C S0 := fun f g h => by cases h
theorem alive0 : isTrue ((runG C S0 400).1 15 [] { nx := 0, ob := .leaf }) = true := by kernel_rfl
end Go.Sn
end
section
/- What Fits answers. -/
open Go Go.Mu Go.Proofs
set_option maxRecDepth 100000
set_option linter.unusedVariables false
namespace Go.Sn
def cellsC (z : Nat → Int) (a x y v : ByteArray) (g c s nil : Bool) (ws : List V) : List V := [.i .i64 (z 0), .i .i64 (z 1), .i .i64 (z 2), .i .i64 (z 3), .i .i64 (z 4), .i .i64 (z 5), .s a, .i .i64 (z 7), .i .i64 (z 8), .i .i64 (z 9), .s x, .s y, .s v, .b g, .i .i64 (z 14), .i .i64 (z 15), .i .i64 (z 16), .i .i64 (z 17), .b c, .b s, .sl 0 nil ws, .i .i64 (z 21)]
def wr (k : ByteArray) (n : Int) : V := .ag [.s k, .i .i64 n]
def st0 : St := { nx := 0, ob := .leaf }
noncomputable def bd12 : Code := match Tryz.f12.body with | some c => c | none => .skip
def no : Ans := some (.b false, st0)
def tailT (a x y v : ByteArray) : Ans := bif decide ((a.size : Int) ≤ 400) then (bif decide ((x.size : Int) ≤ 400) then (bif decide ((y.size : Int) ≤ 400) then some (.b (decide ((v.size : Int) ≤ 400)), st0) else no) else no) else no
def keysT (e : Ans) : List ByteArray → Ans
  | [] => e
  | k :: r => bif decide ((400 : Int) < (k.size : Int)) then no else keysT e r
noncomputable def go12 (T : CallF) (Y : YieldF) (z : Nat → Int) (a x y v : ByteArray) (g c s nil : Bool) (ws : List V) : Ans :=
  evalCodeK C T Y 12 398 bd12 { env := [(0, .ag (cellsC z a x y v g c s nil ws))], tp := [], L := [], st := st0 } (endK C Tryz.f12)

theorem fits0 (T : CallF) (Y : YieldF) (z : Nat → Int) (a x y v : ByteArray) (g c s nil : Bool) : go12 T Y z a x y v g c s nil [] = keysT (tailT a x y v) [] := by kernel_rfl
theorem fits1 (T : CallF) (Y : YieldF) (z : Nat → Int) (a x y v : ByteArray) (g c s nil : Bool) (k0 : ByteArray) (n0 : Int) : go12 T Y z a x y v g c s nil [wr k0 n0] = keysT (tailT a x y v) [k0] := by kernel_rfl
theorem fits2 (T : CallF) (Y : YieldF) (z : Nat → Int) (a x y v : ByteArray) (g c s nil : Bool) (k0 k1 : ByteArray) (n0 n1 : Int) : go12 T Y z a x y v g c s nil [wr k0 n0, wr k1 n1] = keysT (tailT a x y v) [k0, k1] := by kernel_rfl
theorem fits3 (T : CallF) (Y : YieldF) (z : Nat → Int) (a x y v : ByteArray) (g c s nil : Bool) (k0 k1 k2 : ByteArray) (n0 n1 n2 : Int) : go12 T Y z a x y v g c s nil [wr k0 n0, wr k1 n1, wr k2 n2] = keysT (tailT a x y v) [k0, k1, k2] := by kernel_rfl
theorem fits4 (T : CallF) (Y : YieldF) (z : Nat → Int) (a x y v : ByteArray) (g c s nil : Bool) (k0 k1 k2 k3 : ByteArray) (n0 n1 n2 n3 : Int) : go12 T Y z a x y v g c s nil [wr k0 n0, wr k1 n1, wr k2 n2, wr k3 n3] = keysT (tailT a x y v) [k0, k1, k2, k3] := by kernel_rfl
theorem fits5 (T : CallF) (Y : YieldF) (z : Nat → Int) (a x y v : ByteArray) (g c s nil : Bool) (k0 k1 k2 k3 k4 : ByteArray) (n0 n1 n2 n3 n4 : Int) : go12 T Y z a x y v g c s nil [wr k0 n0, wr k1 n1, wr k2 n2, wr k3 n3, wr k4 n4] = keysT (tailT a x y v) [k0, k1, k2, k3, k4] := by kernel_rfl
theorem fits6 (T : CallF) (Y : YieldF) (z : Nat → Int) (a x y v : ByteArray) (g c s nil : Bool) (k0 k1 k2 k3 k4 k5 : ByteArray) (n0 n1 n2 n3 n4 n5 : Int) : go12 T Y z a x y v g c s nil [wr k0 n0, wr k1 n1, wr k2 n2, wr k3 n3, wr k4 n4, wr k5 n5] = keysT (tailT a x y v) [k0, k1, k2, k3, k4, k5] := by kernel_rfl
theorem fits7 (T : CallF) (Y : YieldF) (z : Nat → Int) (a x y v : ByteArray) (g c s nil : Bool) (k0 k1 k2 k3 k4 k5 k6 : ByteArray) (n0 n1 n2 n3 n4 n5 n6 : Int) : go12 T Y z a x y v g c s nil [wr k0 n0, wr k1 n1, wr k2 n2, wr k3 n3, wr k4 n4, wr k5 n5, wr k6 n6] = keysT (tailT a x y v) [k0, k1, k2, k3, k4, k5, k6] := by kernel_rfl
theorem fits8 (T : CallF) (Y : YieldF) (z : Nat → Int) (a x y v : ByteArray) (g c s nil : Bool) (k0 k1 k2 k3 k4 k5 k6 k7 : ByteArray) (n0 n1 n2 n3 n4 n5 n6 n7 : Int) : go12 T Y z a x y v g c s nil [wr k0 n0, wr k1 n1, wr k2 n2, wr k3 n3, wr k4 n4, wr k5 n5, wr k6 n6, wr k7 n7] = keysT (tailT a x y v) [k0, k1, k2, k3, k4, k5, k6, k7] := by kernel_rfl
theorem fits9 (T : CallF) (Y : YieldF) (z : Nat → Int) (a x y v : ByteArray) (g c s nil : Bool) (k0 k1 k2 k3 k4 k5 k6 k7 k8 : ByteArray) (n0 n1 n2 n3 n4 n5 n6 n7 n8 : Int) : go12 T Y z a x y v g c s nil [wr k0 n0, wr k1 n1, wr k2 n2, wr k3 n3, wr k4 n4, wr k5 n5, wr k6 n6, wr k7 n7, wr k8 n8] = keysT (tailT a x y v) [k0, k1, k2, k3, k4, k5, k6, k7, k8] := by kernel_rfl
theorem fits10 (T : CallF) (Y : YieldF) (z : Nat → Int) (a x y v : ByteArray) (g c s nil : Bool) (k0 k1 k2 k3 k4 k5 k6 k7 k8 k9 : ByteArray) (n0 n1 n2 n3 n4 n5 n6 n7 n8 n9 : Int) : go12 T Y z a x y v g c s nil [wr k0 n0, wr k1 n1, wr k2 n2, wr k3 n3, wr k4 n4, wr k5 n5, wr k6 n6, wr k7 n7, wr k8 n8, wr k9 n9] = keysT (tailT a x y v) [k0, k1, k2, k3, k4, k5, k6, k7, k8, k9] := by kernel_rfl
theorem fits11 (T : CallF) (Y : YieldF) (z : Nat → Int) (a x y v : ByteArray) (g c s nil : Bool) (k0 k1 k2 k3 k4 k5 k6 k7 k8 k9 k10 : ByteArray) (n0 n1 n2 n3 n4 n5 n6 n7 n8 n9 n10 : Int) : go12 T Y z a x y v g c s nil [wr k0 n0, wr k1 n1, wr k2 n2, wr k3 n3, wr k4 n4, wr k5 n5, wr k6 n6, wr k7 n7, wr k8 n8, wr k9 n9, wr k10 n10] = keysT (tailT a x y v) [k0, k1, k2, k3, k4, k5, k6, k7, k8, k9, k10] := by kernel_rfl
theorem fits12 (T : CallF) (Y : YieldF) (z : Nat → Int) (a x y v : ByteArray) (g c s nil : Bool) (k0 k1 k2 k3 k4 k5 k6 k7 k8 k9 k10 k11 : ByteArray) (n0 n1 n2 n3 n4 n5 n6 n7 n8 n9 n10 n11 : Int) : go12 T Y z a x y v g c s nil [wr k0 n0, wr k1 n1, wr k2 n2, wr k3 n3, wr k4 n4, wr k5 n5, wr k6 n6, wr k7 n7, wr k8 n8, wr k9 n9, wr k10 n10, wr k11 n11] = keysT (tailT a x y v) [k0, k1, k2, k3, k4, k5, k6, k7, k8, k9, k10, k11] := by kernel_rfl
theorem fits13 (T : CallF) (Y : YieldF) (z : Nat → Int) (a x y v : ByteArray) (g c s nil : Bool) (k0 k1 k2 k3 k4 k5 k6 k7 k8 k9 k10 k11 k12 : ByteArray) (n0 n1 n2 n3 n4 n5 n6 n7 n8 n9 n10 n11 n12 : Int) : go12 T Y z a x y v g c s nil [wr k0 n0, wr k1 n1, wr k2 n2, wr k3 n3, wr k4 n4, wr k5 n5, wr k6 n6, wr k7 n7, wr k8 n8, wr k9 n9, wr k10 n10, wr k11 n11, wr k12 n12] = keysT (tailT a x y v) [k0, k1, k2, k3, k4, k5, k6, k7, k8, k9, k10, k11, k12] := by kernel_rfl
theorem fits14 (T : CallF) (Y : YieldF) (z : Nat → Int) (a x y v : ByteArray) (g c s nil : Bool) (k0 k1 k2 k3 k4 k5 k6 k7 k8 k9 k10 k11 k12 k13 : ByteArray) (n0 n1 n2 n3 n4 n5 n6 n7 n8 n9 n10 n11 n12 n13 : Int) : go12 T Y z a x y v g c s nil [wr k0 n0, wr k1 n1, wr k2 n2, wr k3 n3, wr k4 n4, wr k5 n5, wr k6 n6, wr k7 n7, wr k8 n8, wr k9 n9, wr k10 n10, wr k11 n11, wr k12 n12, wr k13 n13] = keysT (tailT a x y v) [k0, k1, k2, k3, k4, k5, k6, k7, k8, k9, k10, k11, k12, k13] := by kernel_rfl
theorem fits15 (T : CallF) (Y : YieldF) (z : Nat → Int) (a x y v : ByteArray) (g c s nil : Bool) (k0 k1 k2 k3 k4 k5 k6 k7 k8 k9 k10 k11 k12 k13 k14 : ByteArray) (n0 n1 n2 n3 n4 n5 n6 n7 n8 n9 n10 n11 n12 n13 n14 : Int) : go12 T Y z a x y v g c s nil [wr k0 n0, wr k1 n1, wr k2 n2, wr k3 n3, wr k4 n4, wr k5 n5, wr k6 n6, wr k7 n7, wr k8 n8, wr k9 n9, wr k10 n10, wr k11 n11, wr k12 n12, wr k13 n13, wr k14 n14] = keysT (tailT a x y v) [k0, k1, k2, k3, k4, k5, k6, k7, k8, k9, k10, k11, k12, k13, k14] := by kernel_rfl
theorem fits16 (T : CallF) (Y : YieldF) (z : Nat → Int) (a x y v : ByteArray) (g c s nil : Bool) (k0 k1 k2 k3 k4 k5 k6 k7 k8 k9 k10 k11 k12 k13 k14 k15 : ByteArray) (n0 n1 n2 n3 n4 n5 n6 n7 n8 n9 n10 n11 n12 n13 n14 n15 : Int) : go12 T Y z a x y v g c s nil [wr k0 n0, wr k1 n1, wr k2 n2, wr k3 n3, wr k4 n4, wr k5 n5, wr k6 n6, wr k7 n7, wr k8 n8, wr k9 n9, wr k10 n10, wr k11 n11, wr k12 n12, wr k13 n13, wr k14 n14, wr k15 n15] = keysT (tailT a x y v) [k0, k1, k2, k3, k4, k5, k6, k7, k8, k9, k10, k11, k12, k13, k14, k15] := by kernel_rfl
theorem fits17 (T : CallF) (Y : YieldF) (z : Nat → Int) (a x y v : ByteArray) (g c s nil : Bool) (k0 k1 k2 k3 k4 k5 k6 k7 k8 k9 k10 k11 k12 k13 k14 k15 k16 : ByteArray) (n0 n1 n2 n3 n4 n5 n6 n7 n8 n9 n10 n11 n12 n13 n14 n15 n16 : Int) : go12 T Y z a x y v g c s nil [wr k0 n0, wr k1 n1, wr k2 n2, wr k3 n3, wr k4 n4, wr k5 n5, wr k6 n6, wr k7 n7, wr k8 n8, wr k9 n9, wr k10 n10, wr k11 n11, wr k12 n12, wr k13 n13, wr k14 n14, wr k15 n15, wr k16 n16] = keysT (tailT a x y v) [k0, k1, k2, k3, k4, k5, k6, k7, k8, k9, k10, k11, k12, k13, k14, k15, k16] := by kernel_rfl
theorem fits18 (T : CallF) (Y : YieldF) (z : Nat → Int) (a x y v : ByteArray) (g c s nil : Bool) (k0 k1 k2 k3 k4 k5 k6 k7 k8 k9 k10 k11 k12 k13 k14 k15 k16 k17 : ByteArray) (n0 n1 n2 n3 n4 n5 n6 n7 n8 n9 n10 n11 n12 n13 n14 n15 n16 n17 : Int) : go12 T Y z a x y v g c s nil [wr k0 n0, wr k1 n1, wr k2 n2, wr k3 n3, wr k4 n4, wr k5 n5, wr k6 n6, wr k7 n7, wr k8 n8, wr k9 n9, wr k10 n10, wr k11 n11, wr k12 n12, wr k13 n13, wr k14 n14, wr k15 n15, wr k16 n16, wr k17 n17] = keysT (tailT a x y v) [k0, k1, k2, k3, k4, k5, k6, k7, k8, k9, k10, k11, k12, k13, k14, k15, k16, k17] := by kernel_rfl
theorem fits19 (T : CallF) (Y : YieldF) (z : Nat → Int) (a x y v : ByteArray) (g c s nil : Bool) (k0 k1 k2 k3 k4 k5 k6 k7 k8 k9 k10 k11 k12 k13 k14 k15 k16 k17 k18 : ByteArray) (n0 n1 n2 n3 n4 n5 n6 n7 n8 n9 n10 n11 n12 n13 n14 n15 n16 n17 n18 : Int) : go12 T Y z a x y v g c s nil [wr k0 n0, wr k1 n1, wr k2 n2, wr k3 n3, wr k4 n4, wr k5 n5, wr k6 n6, wr k7 n7, wr k8 n8, wr k9 n9, wr k10 n10, wr k11 n11, wr k12 n12, wr k13 n13, wr k14 n14, wr k15 n15, wr k16 n16, wr k17 n17, wr k18 n18] = keysT (tailT a x y v) [k0, k1, k2, k3, k4, k5, k6, k7, k8, k9, k10, k11, k12, k13, k14, k15, k16, k17, k18] := by kernel_rfl
theorem fits20 (T : CallF) (Y : YieldF) (z : Nat → Int) (a x y v : ByteArray) (g c s nil : Bool) (k0 k1 k2 k3 k4 k5 k6 k7 k8 k9 k10 k11 k12 k13 k14 k15 k16 k17 k18 k19 : ByteArray) (n0 n1 n2 n3 n4 n5 n6 n7 n8 n9 n10 n11 n12 n13 n14 n15 n16 n17 n18 n19 : Int) : go12 T Y z a x y v g c s nil [wr k0 n0, wr k1 n1, wr k2 n2, wr k3 n3, wr k4 n4, wr k5 n5, wr k6 n6, wr k7 n7, wr k8 n8, wr k9 n9, wr k10 n10, wr k11 n11, wr k12 n12, wr k13 n13, wr k14 n14, wr k15 n15, wr k16 n16, wr k17 n17, wr k18 n18, wr k19 n19] = keysT (tailT a x y v) [k0, k1, k2, k3, k4, k5, k6, k7, k8, k9, k10, k11, k12, k13, k14, k15, k16, k17, k18, k19] := by kernel_rfl
def longT (e : Ans) (len : Nat) : Nat → List ByteArray → Ans
  | j, [] => bif decide (Int.ofNat j < (len : Int)) then no else e
  | j, k :: r => bif decide (Int.ofNat j < (len : Int)) then (bif decide ((400 : Int) < (k.size : Int)) then no else longT e len (j + 1) r) else e
theorem fitsL (T : CallF) (Y : YieldF) (z : Nat → Int) (a x y v : ByteArray) (g c s nil : Bool) (k0 k1 k2 k3 k4 k5 k6 k7 k8 k9 k10 k11 k12 k13 k14 k15 k16 k17 k18 k19 : ByteArray) (n0 n1 n2 n3 n4 n5 n6 n7 n8 n9 n10 n11 n12 n13 n14 n15 n16 n17 n18 n19 : Int) (r : List V) : go12 T Y z a x y v g c s nil (wr k0 n0 :: wr k1 n1 :: wr k2 n2 :: wr k3 n3 :: wr k4 n4 :: wr k5 n5 :: wr k6 n6 :: wr k7 n7 :: wr k8 n8 :: wr k9 n9 :: wr k10 n10 :: wr k11 n11 :: wr k12 n12 :: wr k13 n13 :: wr k14 n14 :: wr k15 n15 :: wr k16 n16 :: wr k17 n17 :: wr k18 n18 :: wr k19 n19 :: r) = longT (tailT a x y v) (wr k0 n0 :: wr k1 n1 :: wr k2 n2 :: wr k3 n3 :: wr k4 n4 :: wr k5 n5 :: wr k6 n6 :: wr k7 n7 :: wr k8 n8 :: wr k9 n9 :: wr k10 n10 :: wr k11 n11 :: wr k12 n12 :: wr k13 n13 :: wr k14 n14 :: wr k15 n15 :: wr k16 n16 :: wr k17 n17 :: wr k18 n18 :: wr k19 n19 :: r).length 0 [k0, k1, k2, k3, k4, k5, k6, k7, k8, k9, k10, k11, k12, k13, k14, k15, k16, k17, k18, k19] := by kernel_rfl
end Go.Sn
end
section
/- StateNil: what Fits answers it knows; true it answers. -/
open Go Go.Mu Go.Proofs
set_option maxRecDepth 100000
set_option linter.unusedVariables false
namespace Go.Sn
def boolA (r : Ans) : Prop := ∃ b, r = some (.b b, st0)
theorem no_b : boolA no := ⟨false, rfl⟩
theorem bif_b {p : Bool} {x y : Ans} (hx : boolA x) (hy : boolA y) : boolA (bif p then x else y) := by cases p <;> assumption
theorem tailT_b (a x y v : ByteArray) : boolA (tailT a x y v) := bif_b (bif_b (bif_b ⟨_, rfl⟩ no_b) no_b) no_b
theorem keysT_b {e : Ans} (he : boolA e) : ∀ l, boolA (keysT e l)
  | [] => he
  | k :: r => bif_b no_b (keysT_b he r)
theorem longT_b {e : Ans} (he : boolA e) (len : Nat) : ∀ j l, boolA (longT e len j l)
  | j, [] => bif_b no_b he
  | j, k :: r => bif_b (bif_b no_b (longT_b he len (j + 1) r)) he
theorem fits_b (T : CallF) (Y : YieldF) (z : Nat → Int) (a x y v : ByteArray) (g c s nil : Bool) (ws : List V) (h : ∀ w ∈ ws, ∃ k n, w = wr k n) : boolA (go12 T Y z a x y v g c s nil ws) := by
  have ht := tailT_b a x y v
  rcases ws with _ | ⟨w, ws⟩
  · rw [fits0]; exact keysT_b ht _
  obtain ⟨k0, n0, rfl⟩ := h w (List.mem_cons_self ..)
  replace h := fun w hw => h w (List.mem_cons_of_mem _ hw)
  rcases ws with _ | ⟨w, ws⟩
  · rw [fits1]; exact keysT_b ht _
  obtain ⟨k1, n1, rfl⟩ := h w (List.mem_cons_self ..)
  replace h := fun w hw => h w (List.mem_cons_of_mem _ hw)
  rcases ws with _ | ⟨w, ws⟩
  · rw [fits2]; exact keysT_b ht _
  obtain ⟨k2, n2, rfl⟩ := h w (List.mem_cons_self ..)
  replace h := fun w hw => h w (List.mem_cons_of_mem _ hw)
  rcases ws with _ | ⟨w, ws⟩
  · rw [fits3]; exact keysT_b ht _
  obtain ⟨k3, n3, rfl⟩ := h w (List.mem_cons_self ..)
  replace h := fun w hw => h w (List.mem_cons_of_mem _ hw)
  rcases ws with _ | ⟨w, ws⟩
  · rw [fits4]; exact keysT_b ht _
  obtain ⟨k4, n4, rfl⟩ := h w (List.mem_cons_self ..)
  replace h := fun w hw => h w (List.mem_cons_of_mem _ hw)
  rcases ws with _ | ⟨w, ws⟩
  · rw [fits5]; exact keysT_b ht _
  obtain ⟨k5, n5, rfl⟩ := h w (List.mem_cons_self ..)
  replace h := fun w hw => h w (List.mem_cons_of_mem _ hw)
  rcases ws with _ | ⟨w, ws⟩
  · rw [fits6]; exact keysT_b ht _
  obtain ⟨k6, n6, rfl⟩ := h w (List.mem_cons_self ..)
  replace h := fun w hw => h w (List.mem_cons_of_mem _ hw)
  rcases ws with _ | ⟨w, ws⟩
  · rw [fits7]; exact keysT_b ht _
  obtain ⟨k7, n7, rfl⟩ := h w (List.mem_cons_self ..)
  replace h := fun w hw => h w (List.mem_cons_of_mem _ hw)
  rcases ws with _ | ⟨w, ws⟩
  · rw [fits8]; exact keysT_b ht _
  obtain ⟨k8, n8, rfl⟩ := h w (List.mem_cons_self ..)
  replace h := fun w hw => h w (List.mem_cons_of_mem _ hw)
  rcases ws with _ | ⟨w, ws⟩
  · rw [fits9]; exact keysT_b ht _
  obtain ⟨k9, n9, rfl⟩ := h w (List.mem_cons_self ..)
  replace h := fun w hw => h w (List.mem_cons_of_mem _ hw)
  rcases ws with _ | ⟨w, ws⟩
  · rw [fits10]; exact keysT_b ht _
  obtain ⟨k10, n10, rfl⟩ := h w (List.mem_cons_self ..)
  replace h := fun w hw => h w (List.mem_cons_of_mem _ hw)
  rcases ws with _ | ⟨w, ws⟩
  · rw [fits11]; exact keysT_b ht _
  obtain ⟨k11, n11, rfl⟩ := h w (List.mem_cons_self ..)
  replace h := fun w hw => h w (List.mem_cons_of_mem _ hw)
  rcases ws with _ | ⟨w, ws⟩
  · rw [fits12]; exact keysT_b ht _
  obtain ⟨k12, n12, rfl⟩ := h w (List.mem_cons_self ..)
  replace h := fun w hw => h w (List.mem_cons_of_mem _ hw)
  rcases ws with _ | ⟨w, ws⟩
  · rw [fits13]; exact keysT_b ht _
  obtain ⟨k13, n13, rfl⟩ := h w (List.mem_cons_self ..)
  replace h := fun w hw => h w (List.mem_cons_of_mem _ hw)
  rcases ws with _ | ⟨w, ws⟩
  · rw [fits14]; exact keysT_b ht _
  obtain ⟨k14, n14, rfl⟩ := h w (List.mem_cons_self ..)
  replace h := fun w hw => h w (List.mem_cons_of_mem _ hw)
  rcases ws with _ | ⟨w, ws⟩
  · rw [fits15]; exact keysT_b ht _
  obtain ⟨k15, n15, rfl⟩ := h w (List.mem_cons_self ..)
  replace h := fun w hw => h w (List.mem_cons_of_mem _ hw)
  rcases ws with _ | ⟨w, ws⟩
  · rw [fits16]; exact keysT_b ht _
  obtain ⟨k16, n16, rfl⟩ := h w (List.mem_cons_self ..)
  replace h := fun w hw => h w (List.mem_cons_of_mem _ hw)
  rcases ws with _ | ⟨w, ws⟩
  · rw [fits17]; exact keysT_b ht _
  obtain ⟨k17, n17, rfl⟩ := h w (List.mem_cons_self ..)
  replace h := fun w hw => h w (List.mem_cons_of_mem _ hw)
  rcases ws with _ | ⟨w, ws⟩
  · rw [fits18]; exact keysT_b ht _
  obtain ⟨k18, n18, rfl⟩ := h w (List.mem_cons_self ..)
  replace h := fun w hw => h w (List.mem_cons_of_mem _ hw)
  rcases ws with _ | ⟨w, ws⟩
  · rw [fits19]; exact keysT_b ht _
  obtain ⟨k19, n19, rfl⟩ := h w (List.mem_cons_self ..)
  replace h := fun w hw => h w (List.mem_cons_of_mem _ hw)
  rcases ws with _ | ⟨w, ws⟩
  · rw [fits20]; exact keysT_b ht _
  exact (fitsL T Y z a x y v g c s nil _ _ _ _ _ _ _ _ _ _ _ _ _ _ _ _ _ _ _ _ _ _ _ _ _ _ _ _ _ _ _ _ _ _ _ _ _ _ _ _ (w :: ws)) ▸ longT_b ht _ _ _
def S1 : FuncId → Option (List V → St → Option (V × St)) := fun f => bif Nat.beq f 15 then some (fun args st => match args with | [] => some (.b true, st) | _ => none) else none
noncomputable def bd8 : Code := match Tryz.f8.body with | some c => c | none => .skip
noncomputable def ops8 : Array Oper := match bd8 with | .seq _ (.seq (.region _ ops _) _) => ops | _ => #[]
noncomputable def rest8 : Code := match bd8 with | .seq _ (.seq _ r) => r | _ => .skip
noncomputable def call8 : Oper := match ops8.toList with | [_, o, _] => o | _ => default
noncomputable def last8 : List Oper := match ops8.toList with | [_, _, o] => [o] | _ => []
def callE : Ans → Option (V × Eff)
  | some (v, st) => some (v, .hw st)
  | none => none
noncomputable def cutK (T : CallF) (Y : YieldF) (cs : List V) (k : Ex → M → Ans) (r : Ans) : Ans :=
  opA C 8 (bit (C.moves 8 1) 1) { env := [(0, .ag cs), (1, .lp 1 0), (2, .b false)], tp := [(7, .ag cs)], L := [(1, .ag cs)], st := st0 } call8
    (fun m => evalOpsK C T Y 8 (C.moves 8 1) ops8 last8 2 m (fun m => seqK (fun m => evalCodeK C T Y 8 397 rest8 m k) k .normal { m with tp := [] })) (callE r)
theorem cut8 (T : CallF) (Y : YieldF) (k : Ex → M → Ans) (z : Nat → Int) (a x y v : ByteArray) (g c s nil : Bool) (ws : List V) :
    evalCodeK C T Y 8 399 bd8 { env := [(0, .ag (cellsC z a x y v g c s nil ws))], tp := [], L := [], st := st0 } k = cutK T Y (cellsC z a x y v g c s nil ws) k (T 12 [.ag (cellsC z a x y v g c s nil ws)] st0) := by kernel_rfl
theorem end8 (b : Bool) (z : Nat → Int) (a x y v : ByteArray) (g c s nil : Bool) (ws : List V) :
    isTrue (cutK (runG C S1 399).1 (runG C S1 399).2 (cellsC z a x y v g c s nil ws) (endK C Tryz.f8) (some (.b b, st0))) = true := by
  cases b
  · kernel_rfl
  · kernel_rfl
end Go.Sn
end
section
/- StateNil, whole. -/
set_option maxRecDepth 100000
set_option linter.unusedVariables false
set_option linter.constructorNameAsVariable false
namespace Go.Proofs.YtfgpmglalbnbeaaGreat
open Go.ChangeShapes Go.WideShapes Go.ChangeAt Go.RowKit Go.Mu Go.Sn

theorem trueOf {r : Ans} (h : Sn.isTrue r = true) : ∃ st1, r = some (.b true, st1) := by
  unfold Sn.isTrue at h
  split at h
  · exact ⟨_, rfl⟩
  · cases h
theorem S1_ok : SoundS Sn.C S1 := by
  intro f g hg args st v st' h
  simp only [S1] at hg
  cases hb : Nat.beq f 15 with
  | false => rw [hb] at hg; cases hg
  | true =>
    rw [hb] at hg
    obtain rfl : f = 15 := Nat.eq_of_beq_eq_true hb
    simp only [cond_true, Option.some.injEq] at hg
    subst hg
    cases args with
    | cons a r => cases h
    | nil =>
      simp only [Option.some.injEq, Prod.mk.injEq] at h
      obtain ⟨rfl, rfl⟩ := h
      obtain ⟨st1, h1⟩ := trueOf alive0
      rw [(runG_eq Sn.C S0 400).1] at h1
      obtain ⟨k1, k2⟩ := fixed_sound ((run_ok mixed fnOk S0_ok 400).1) h1 rfl rfl
      exact ⟨k1, k2 st⟩
theorem run12 (z : Nat → Int) (a x y v : ByteArray) (g c s nil : Bool) (ws : List V) (h : ∀ w ∈ ws, ∃ k n, w = wr k n) :
    ∃ b, runF Sn.C S1 399 12 [.ag (cellsC z a x y v g c s nil ws)] st0 = some (.b b, st0) := by
  obtain ⟨b, hb⟩ := fits_b (runF Sn.C S1 398) (runY Sn.C S1 398) z a x y v g c s nil ws h
  refine ⟨b, Eq.trans ?_ hb⟩
  have e : ∀ args st, runF Sn.C S1 (398 + 1) 12 args st = evalFn Sn.C (runF Sn.C S1 398) (runY Sn.C S1 398) 398 12 args st := fun args st => by rw [runF]; rfl
  rw [show (399 : Nat) = 398 + 1 from rfl, e]
  exact evalFn_K Sn.C _ _ 398 (fn := Tryz.f12) (c := bd12) Tryz.func12 (by kernel_rfl) _ _ rfl
theorem run8 (z : Nat → Int) (a x y v : ByteArray) (g c s nil : Bool) (ws : List V) (h : ∀ w ∈ ws, ∃ k n, w = wr k n) :
    ∃ st1, runF Sn.C S1 400 8 [.ag (cellsC z a x y v g c s nil ws)] st0 = some (.b true, st1) := by
  obtain ⟨b, hb⟩ := run12 z a x y v g c s nil ws h
  obtain ⟨st1, h1⟩ := trueOf (end8 b z a x y v g c s nil ws)
  refine ⟨st1, Eq.trans ?_ h1⟩
  rw [(runG_eq Sn.C S1 399).1, (runG_eq Sn.C S1 399).2, ← hb, ← cut8]
  have e : ∀ args st, runF Sn.C S1 (399 + 1) 8 args st = evalFn Sn.C (runF Sn.C S1 399) (runY Sn.C S1 399) 399 8 args st := fun args st => by rw [runF]; rfl
  rw [show (400 : Nat) = 399 + 1 from rfl, e]
  exact evalFn_K Sn.C _ _ 399 (fn := Tryz.f8) (c := bd8) Tryz.func8 (by kernel_rfl) _ _ rfl

/-- A Command's cells. -/
theorem cells_of {n : Nat} {vs : List V} {sh : List Sh} (hsh : shapeOf Tryz.prog 20 38 = some sh) (h : SatL sh vs) : ∃ z a x y v g c s nil ws, vs = cellsC z a x y v g c s nil ws ∧ ∀ w ∈ ws, ∃ k n, w = wr k n := by
  have e : shapeOf Tryz.prog 20 38 = some [.i .i64, .i .i64, .i .i64, .i .i64, .i .i64, .i .i64, .s, .i .i64, .i .i64, .i .i64, .s, .s, .s, .b, .i .i64, .i .i64, .i .i64, .i .i64, .b, .b, .sl true [.s, .i .i64], .i .i64] := by kernel_rfl
  rw [e, Option.some.injEq] at hsh
  subst hsh
  simp only [SatL, SatC] at h
  obtain ⟨_, _, rfl, ⟨z0, rfl, _⟩, _, _, rfl, ⟨z1, rfl, _⟩, _, _, rfl, ⟨z2, rfl, _⟩, _, _, rfl, ⟨z3, rfl, _⟩, _, _, rfl, ⟨z4, rfl, _⟩, _, _, rfl, ⟨z5, rfl, _⟩, _, _, rfl, ⟨a, rfl, _⟩, _, _, rfl, ⟨z7, rfl, _⟩, _, _, rfl, ⟨z8, rfl, _⟩, _, _, rfl, ⟨z9, rfl, _⟩,
    _, _, rfl, ⟨x, rfl, _⟩, _, _, rfl, ⟨y, rfl, _⟩, _, _, rfl, ⟨v, rfl, _⟩, _, _, rfl, ⟨g, rfl⟩, _, _, rfl, ⟨z14, rfl, _⟩, _, _, rfl, ⟨z15, rfl, _⟩, _, _, rfl, ⟨z16, rfl, _⟩, _, _, rfl, ⟨z17, rfl, _⟩, _, _, rfl, ⟨c, rfl⟩, _, _, rfl, ⟨s, rfl⟩, _, _, rfl, ⟨nil, ws, rfl, _, _, hw⟩, _, _, rfl, ⟨z21, rfl, _⟩, rfl⟩ := h
  refine ⟨fun | 0 => z0 | 1 => z1 | 2 => z2 | 3 => z3 | 4 => z4 | 5 => z5 | 7 => z7 | 8 => z8 | 9 => z9 | 14 => z14 | 15 => z15 | 16 => z16 | 17 => z17 | _ => z21, a, x, y, v, g, c, s, nil, ws, rfl, fun w hm => ?_⟩
  obtain ⟨h1, h2⟩ := hw w hm
  cases w <;> simp only [isAg] at h1 <;> try cases h1
  simp only [cellsOf] at h2
  obtain ⟨_, _, rfl, ⟨k, rfl, _⟩, _, _, rfl, ⟨n, rfl, _⟩, rfl⟩ := h2
  exact ⟨k, n, rfl⟩

theorem own : ownKnob Tryz.prog.godebug = none := by kernel_rfl

theorem contract (H : Type) (enc : TypeId × Value → H) (W : World) (base : Nat) (args : Array Value) (ds gs : List (DataW H)) (before : List MemPlace)
    (hval : ∀ (j : Nat) t v, Tryz.f8.params[j]? = some t → args[j]? = some v → Value.okWide Tryz.prog W .any base t v)
    (hW : DataW.Whole enc Tryz.prog Tryz.f8.params.toList Rows.stateNilSpec.vars false W args.toList ds gs before) :
    Calls Tryz.prog 8 args W fun e W' => ∃ v, e = .returned v ∧ Rows.stateNilSpec.post enc Tryz.prog Tryz.f8 false true false false W args v W' := by
  have hW' := hW
  obtain ⟨p, q, hA0, hV, rfl, hfz, hnd⟩ := hW
  have hA : DataW.TrodAll enc Tryz.prog W 0 (fun _ => true) true Tryz.f8.params.toList args.toList ds p := hA0
  rw [Tryz.params8] at hA hval
  obtain ⟨v0, vs0, d0, ds0, p0, q0, hargs, rfl, rfl, h0, r0⟩ := trodAll_cons hA
  obtain ⟨rfl, rfl, rfl⟩ := trodAll_nil r0
  obtain rfl : args = #[v0] := by cases args; simp_all
  obtain ⟨sh, hsh⟩ : ∃ sh, shapeOf Tryz.prog 20 38 = some sh := by
    have : (shapeOf Tryz.prog 20 38).isSome = true := by kernel_rfl
    exact Option.isSome_iff_exists.1 this
  obtain ⟨u, hu, hp, ha, hsat⟩ := arg_of h0 (hval 0 38 v0 rfl rfl) hsh
  have hag : isAggT Tryz.prog 38 = true := by kernel_rfl
  rw [hag] at ha
  cases u <;> simp only [isAg] at ha <;> try cases ha
  rename_i vs
  simp only [cellsOf] at hsat
  obtain ⟨z, a, x, y, v, g, c, s, nil, ws, rfl, hws⟩ := cells_of (n := 0) hsh hsat
  obtain ⟨st1, hr⟩ := run8 z a x y v g c s nil ws hws
  have hg : Given (Gh.start W) [.ag (cellsC z a x y v g c s nil ws)] [v0] := given_plain rfl fun j w c hj hc => by
    cases j with
    | zero => simp at hj hc; subst hj; subst hc; exact ⟨hu, hp⟩
    | succ j => simp at hj
  refine (law_calls (run_ok mixed fnOk S1_ok 400).1 hr hg).mono fun e W' he => ?_
  obtain ⟨rfl, h1, h2, h3, h4⟩ := he
  refine ⟨_, rfl, law_post (tb := 4) (by kernel_rfl) ?_ rfl (by kernel_rfl) (by kernel_rfl) hW' (fun e => by subst e; rfl) ⟨h1, h2, h3, h4⟩⟩
  have : Tryz.f8.params.toList.all (fun t => Tryz.prog.readableRec t && decide (t < Tryz.prog.types.size)) = true := by kernel_rfl
  intro t ht
  have := List.all_eq_true.1 this t ht
  rw [Bool.and_eq_true] at this
  exact ⟨this.1, of_decide_eq_true this.2⟩

theorem lifted (os : Os) (started : os.Started) (H : Type) (enc : TypeId × Value → H) :
    ReturnsInHanded {} Tryz.checked os 8 .any (Rows.stateNilSpec.pre6 enc Tryz.prog Tryz.f8 Rows.stateNilRow.domain false) (Rows.stateNilSpec.post enc Tryz.prog Tryz.f8 false true false false) := by
  refine returnsInHanded_of_change (C := Tryz.checked) own started (by kernel_rfl) Tryz.func8
    (ChangeSpec.witness6 (enc := enc) (C := Tryz.checked) false ⟨#[], #[.agg #[.int .i64 0, .int .i64 0, .int .i64 0, .int .i64 0, .int .i64 0, .int .i64 0, .string ⟨#[]⟩, .int .i64 0, .int .i64 0, .int .i64 0, .string ⟨#[]⟩, .string ⟨#[]⟩, .string ⟨#[]⟩, .bool false, .int .i64 0, .int .i64 0, .int .i64 0, .int .i64 0, .bool false, .bool false, .slice none 0 0, .int .i64 0]], []⟩ 30 (by kernel_rfl) (by kernel_rfl) (by kernel_rfl) (by kernel_rfl)) ?_
  intro W base args ds gs before hval hW _ _
  exact contract H enc W base args ds gs before hval hW

theorem stateNil_holds : Rows.StateNilSaid :=
  OpenClaim.holds_of_wide 8 Tryz.f8 rfl rfl rfl rfl rfl rfl rfl ⟨rfl, rfl, rfl, rfl, rfl⟩ rfl rfl rfl rfl rfl (by kernel_rfl) Tryz.func8 (by kernel_rfl)
    (of_decide_eq_true (by kernel_rfl)) (by unfold Func.isWrapper; first | (rw [if_pos (by decide +kernel)]; kernel_rfl) | (rw [if_neg (by decide +kernel)]; exact ⟨rfl, rfl⟩))
    (fun os started H enc _ => lifted os started H enc)
#print axioms stateNil_holds
end Go.Proofs.YtfgpmglalbnbeaaGreat
end
