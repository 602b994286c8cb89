/- Merged from the texts Mu52 to Mu56: an evaluator for the program's code and its soundness; how a law's statement follows of one run. No conditions. -/
import Derived.Test.YtmckgecnalaogaaGreatMuE
import Derived.ProofKit
import Derived.OpenShut
import Derived.JoinedCond
import Derived.Deep.Slices
import Derived.Carry
import Derived.WideKeyArgs
section
/- The arguments of a law, as the evaluator has them; how a law's call is concluded. -/
set_option linter.unusedSimpArgs false
set_option linter.unusedVariables false
set_option linter.constructorNameAsVariable false
namespace Go.Mu

/-- The shape of a cell. -/
inductive Sh where
  | b | i (k : IntKind) | s | sl (agg : Bool) (elem : List Sh)

def flatSh : List Sh → Bool
  | [] => true
  | .sl _ _ :: _ => false
  | _ :: r => flatSh r

def shapeFs (g : TypeId → Option (List Sh)) (P : Program) : List Field → Nat → Option (List Sh)
  | [], _ => some []
  | f :: r, pos => match g f.type, shapeFs g P r (pos + P.cellsOf f.type) with
    | some a, some q => bif Nat.beq f.offset pos && Nat.beq a.length (P.cellsOf f.type) then some (a ++ q) else none
    | _, _ => none
def shapeOf (P : Program) : Nat → TypeId → Option (List Sh)
  | 0, _ => none
  | n + 1, t => match P.underlying t with
    | some .bool => some [.b]
    | some (.int k) => some [.i k]
    | some .string => some [.s]
    | some (.slice e) => match shapeOf P n e with
      | some sh => bif Nat.beq sh.length (P.cellsOf e) && flatSh sh && (aggT P e).isSome then some [.sl (isAggT P e) sh] else none
      | none => none
    | some (.struct fs) => match shapeFs (shapeOf P n) P fs.toList 0 with
      | some sh => bif Nat.beq sh.length (P.cellsOf t) then some sh else none
      | none => none
    | _ => none
mutual
def SatC : Sh → V → Prop
  | .b, v => ∃ x, v = .b x
  | .i k, v => ∃ n, v = .i k n ∧ (Lit.int k n).wf = true
  | .s, v => ∃ x, v = .s x ∧ x.size ≤ maxLen
  | .sl agg sh, v => ∃ nil xs, v = .sl 0 nil xs ∧ xs.length ≤ maxLen ∧ (nil = true → xs = []) ∧ ∀ x ∈ xs, isAg x = agg ∧ SatL sh (cellsOf x)
def SatL : List Sh → List V → Prop
  | [], vs => vs = []
  | s :: r, vs => ∃ v q, vs = v :: q ∧ SatC s v ∧ SatL r q
end

theorem SatL.append : ∀ {a b : List Sh} {xs ys : List V}, SatL a xs → SatL b ys → SatL (a ++ b) (xs ++ ys)
  | [], b, xs, ys, h, h' => by
    have : xs = [] := by simpa only [SatL] using h
    subst this
    exact h'
  | s :: r, b, xs, ys, h, h' => by
    simp only [SatL] at h
    obtain ⟨v, q, rfl, h1, h2⟩ := h
    simp only [List.cons_append, SatL]
    exact ⟨v, q ++ ys, rfl, h1, h2.append h'⟩
theorem SatL.len : ∀ {a : List Sh} {xs : List V}, SatL a xs → xs.length = a.length
  | [], xs, h => by
    have : xs = [] := by simpa only [SatL] using h
    subst this; rfl
  | s :: r, xs, h => by
    simp only [SatL] at h
    obtain ⟨v, q, rfl, h1, h2⟩ := h
    simp [h2.len]

/-- The world of an entering call, as the evaluator has it: nothing is its own; all cells stay as they are. -/
def Gh.start (W : World) : Gh := { nx := 0, ob := fun _ => none, ic := fun B o => W.cell? ⟨B, o, none⟩, tl := fun _ => none, own := fun _ => none }
theorem start_rel (C : Cfg) (W : World) : HRel C (Gh.start W) W ⟨0, .leaf⟩ :=
  ⟨rfl, fun id o h => by simp [St.get, PT.get_leaf] at h, ⟨fun B o v h => h, (fun B e l h => by cases h), (fun B e l h => by cases h), (fun B x h => by cases h), (fun B x h => by cases h), fun B h => by rcases h with ⟨_, h⟩ | ⟨_, h⟩ | h <;> cases h⟩⟩

/-- Cells, and what stands for them. -/
structure Fit (G : Gh) (sh : List Sh) (vs : List V) (cs : List Value) : Prop where
  sat : SatL sh vs
  len : vs.length = cs.length
  rel : ∀ (j : Nat) v c, vs[j]? = some v → cs[j]? = some c → VRel G v c
  cell : ∀ v ∈ vs, isCell v = true
  pl : ∀ v ∈ vs, pl v = true

theorem Fit.one {G : Gh} {s : Sh} {v : V} {c : Value} (h1 : SatC s v) (h2 : VRel G v c) (h3 : isCell v = true) (h4 : Mu.pl v = true) : Fit G [s] [v] [c] :=
  ⟨by simp only [SatL]; exact ⟨v, [], rfl, h1, rfl⟩, rfl, fun j u x hu hx => by
    cases j with
    | zero => simp at hu hx; subst hu; subst hx; exact h2
    | succ j => simp at hu, fun u hu => by simp at hu; subst hu; exact h3, fun u hu => by simp at hu; subst hu; exact h4⟩
theorem Fit.append {G : Gh} {a b : List Sh} {xs ys : List V} {cs ds : List Value} (h : Fit G a xs cs) (h' : Fit G b ys ds) : Fit G (a ++ b) (xs ++ ys) (cs ++ ds) :=
  ⟨h.sat.append h'.sat, by simp [h.len, h'.len], fun j u x hu hx => by
    have hl := h.len
    by_cases e : j < xs.length
    · rw [List.getElem?_append_left e] at hu
      rw [List.getElem?_append_left (by omega)] at hx
      exact h.rel j u x hu hx
    · rw [List.getElem?_append_right (by omega)] at hu
      rw [List.getElem?_append_right (by omega), ← hl] at hx
      exact h'.rel _ u x hu hx, fun u hu => (List.mem_append.1 hu).elim (h.cell u) (h'.cell u), fun u hu => (List.mem_append.1 hu).elim (h.pl u) (h'.pl u)⟩

section
variable {H : Type} {enc : TypeId × Value → H} {P : Program} {W : World} {spare : Nat → Bool} {held : Bool}

theorem flatSh_append {a b : List Sh} (h : flatSh (a ++ b) = true) : flatSh a = true ∧ flatSh b = true := by
  induction a with
  | nil => exact ⟨rfl, h⟩
  | cons s r ih => cases s <;> simp_all [flatSh]

theorem fit_fields {n : Nat} (ih : ∀ fuel t cs x sh, DataW.trod enc P W 0 spare held fuel t cs = some x → shapeOf P n t = some sh → (flatSh sh = true ∨ ∀ c ∈ cs, ∀ a l k, c = .slice (some a) l k → a.spot = none) → ∃ vs, Fit (Gh.start W) sh vs cs) {fuel : Nat} :
    ∀ (fs : List Field) (pos : Nat) (cs : List Value) (sh : List Sh), (∀ f ∈ fs, ∃ y, DataW.trod enc P W 0 spare held fuel f.type ((cs.drop f.offset).take (P.cellsOf f.type)) = some y) →
      shapeFs (shapeOf P n) P fs pos = some sh → (flatSh sh = true ∨ ∀ c ∈ cs, ∀ a l k, c = .slice (some a) l k → a.spot = none) → ∃ vs, Fit (Gh.start W) sh vs ((cs.drop pos).take sh.length)
  | [], pos, cs, sh, h, hs, _ => by
    simp only [shapeFs, Option.some.injEq] at hs
    subst hs
    exact ⟨[], by simp only [SatL], by simp, (fun j v c hv => by simp at hv), (fun v hv => by cases hv), (fun v hv => by cases hv)⟩
  | f :: r, pos, cs, sh, h, hs, hsp => by
    obtain ⟨x, hx⟩ := h f (List.mem_cons_self ..)
    simp only [shapeFs] at hs
    split at hs
    · rename_i a q ha hq
      cases hb : (Nat.beq f.offset pos && Nat.beq a.length (P.cellsOf f.type)) with
      | false => simp [hb] at hs
      | true =>
        simp only [hb, cond_true, Option.some.injEq] at hs
        subst hs
        simp only [Bool.and_eq_true] at hb
        have e1 := beq_true hb.1
        have e2 := beq_true hb.2
        rw [e1] at hx
        have hsp1 : flatSh a = true ∨ ∀ c ∈ (cs.drop pos).take (P.cellsOf f.type), ∀ b l k, c = .slice (some b) l k → b.spot = none := hsp.imp (fun h => (flatSh_append h).1) fun h c hc => h c (List.mem_of_mem_drop (List.mem_of_mem_take hc))
        obtain ⟨vs, h1⟩ := ih fuel f.type _ x a hx ha hsp1
        obtain ⟨us, h2⟩ := fit_fields ih r (pos + P.cellsOf f.type) cs q (fun g hg => h g (List.mem_cons_of_mem _ hg)) hq (hsp.imp (fun h => (flatSh_append h).2) id)
        have e3 : (cs.drop pos).take (a ++ q).length = (cs.drop pos).take (P.cellsOf f.type) ++ (cs.drop (pos + P.cellsOf f.type)).take q.length := by
          rw [List.length_append, e2, List.take_add, List.drop_drop]
        rw [e3]
        exact ⟨vs ++ us, h1.append h2⟩
    · cases hs

theorem oneSh (n : Nat) (e : TypeId) (elem : List Sh) (h : shapeOf P n e = some elem) (ha : aggT P e = some false) : elem.length = 1 := by
  cases n with
  | zero => simp [shapeOf] at h
  | succ n =>
    simp only [shapeOf] at h
    unfold aggT at ha
    split at h
    · simp only [Option.some.injEq] at h; subst h; rfl
    · simp only [Option.some.injEq] at h; subst h; rfl
    · simp only [Option.some.injEq] at h; subst h; rfl
    · split at h
      · simp only [cond_eq_ite] at h
        split at h
        · simp only [Option.some.injEq] at h; subst h; rfl
        · cases h
      · cases h
    · rename_i fs hu
      rw [hu] at ha
      cases ha
    · cases h

theorem sl_vrel {e : TypeId} {a : Addr} {len cap : Nat} {elem : List Sh} {agg : Bool} (hsp : a.spot = none) (hle : len ≤ cap) (hel : elem.length = P.cellsOf e) (hag : agg = isAggT P e) (hone : agg = false → P.cellsOf e = 1)
    (h : ∀ i, i < len → ∃ cs', W.cells? 0 (a.add (i * P.cellsOf e)) (P.cellsOf e) = some cs' ∧ ∃ vs, Fit (Gh.start W) elem vs cs') :
    ∃ xs : List V, xs.length = len ∧ (∀ x ∈ xs, isAg x = agg ∧ SatL elem (cellsOf x)) ∧ VRel (Gh.start W) (.sl 0 false xs) (.slice (some a) len cap) := by
  -- one behind the other
  have key : ∀ k, k ≤ len → ∃ xs : List V, xs.length = k ∧ (∀ x ∈ xs, isAg x = agg ∧ SatL elem (cellsOf x) ∧ (cellsOf x).length = P.cellsOf e) ∧
      ∀ (j : Nat) u, (flat xs)[j]? = some u → pl u = true ∧ isCell u = true ∧ ∃ y, W.cell? ⟨a.block, a.off + j, none⟩ = some y ∧ VRel (Gh.start W) u y := by
    intro k
    induction k with
    | zero => exact fun _ => ⟨[], rfl, (fun x hx => by cases hx), (fun j u hu => by simp [flat] at hu)⟩
    | succ k ih =>
      intro hk
      obtain ⟨xs, h1, h2, h3⟩ := ih (by omega)
      obtain ⟨cs', hc, vs, hf⟩ := h k (by omega)
      have hcl := World.cells?_some hc
      have hlen : (flat xs).length = k * P.cellsOf e := by
        have : ∀ (l : List V), (∀ x ∈ l, (cellsOf x).length = P.cellsOf e) → (flat l).length = l.length * P.cellsOf e := by
          intro l
          induction l with
          | nil => intro _; simp [flat]
          | cons y q ihq =>
            intro hq
            rw [flat, List.length_append, hq y (List.mem_cons_self ..), ihq fun z hz => hq z (List.mem_cons_of_mem _ hz), List.length_cons, Nat.succ_mul, Nat.add_comm]
        rw [this xs fun x hx => (h2 x hx).2.2, h1]
      have hvl : vs.length = P.cellsOf e := by rw [hf.sat.len, hel]
      -- the next element
      obtain ⟨x, hx1, hx2⟩ : ∃ x : V, isAg x = agg ∧ cellsOf x = vs := by
        cases hb : agg with
        | true => exact ⟨.ag vs, rfl, rfl⟩
        | false =>
          have h1' := hone hb
          rw [h1'] at hvl
          match vs, hvl, hf with
          | [v], _, hf =>
            have hcv := hf.cell v (List.mem_cons_self ..)
            exact ⟨v, by cases v <;> simp_all [isCell, isAg], by cases v <;> simp_all [isCell, cellsOf]⟩
      refine ⟨xs ++ [x], by simp [h1], fun y hy => ?_, fun j u hu => ?_⟩
      · rcases List.mem_append.1 hy with hy | hy
        · exact h2 y hy
        · simp only [List.mem_singleton] at hy
          subst hy
          exact ⟨hx1, by rw [hx2]; exact hf.sat, by rw [hx2, hvl]⟩
      · have e1 : flat (xs ++ [x]) = flat xs ++ vs := by
          have : ∀ l : List V, flat (l ++ [x]) = flat l ++ cellsOf x := by
            intro l
            induction l with
            | nil => simp [flat]
            | cons y q ihq => simp [flat, ihq, List.append_assoc]
          rw [this, hx2]
        rw [e1] at hu
        by_cases hj : j < (flat xs).length
        · rw [List.getElem?_append_left hj] at hu
          exact h3 j u hu
        · rw [List.getElem?_append_right (by omega), hlen] at hu
          obtain ⟨y, hy⟩ := get_of_len hf.len.symm hu
          have hr := hf.rel _ u y hu hy
          have hjl : j - k * P.cellsOf e < P.cellsOf e := by
            have := (List.getElem?_eq_some_iff.1 hu).1
            omega
          refine ⟨hf.pl u (List.mem_of_getElem? hu), hf.cell u (List.mem_of_getElem? hu), y, ?_, hr⟩
          have hcell := hcl.2.2 (j - k * P.cellsOf e) hjl
          rw [hy] at hcell
          have e2 : (a.add (k * P.cellsOf e)).add (j - k * P.cellsOf e) = ⟨a.block, a.off + j, none⟩ := by
            obtain ⟨blk, off, spot⟩ := a
            simp only at hsp
            subst hsp
            have h5 : k * P.cellsOf e ≤ j := by rw [← hlen]; omega
            rw [Addr.add_none, Addr.add_none, Nat.add_assoc, Nat.add_sub_cancel' h5]
          rw [e2] at hcell
          exact hcell
  obtain ⟨xs, h1, h2, h3⟩ := key len (Nat.le_refl _)
  obtain ⟨blk, off, spot⟩ := a
  simp only at hsp
  subst hsp
  refine ⟨xs, h1, fun x hx => ⟨(h2 x hx).1, (h2 x hx).2.1⟩, ?_⟩
  have := VRel.sl (G := Gh.start W) (ow := 0) (xs := xs) (B := blk) (s := off) (cap := cap) (sz := P.cellsOf e) (fun x hx => (h2 x hx).2.2)
    (fun j c hj => by obtain ⟨q1, q2, y, q3, _⟩ := h3 j c hj; exact ⟨q1, q2, y, q3⟩)
    (fun j c x hj hx => by
      obtain ⟨_, _, y, q3, q4⟩ := h3 j c hj
      have hx' : W.cell? ⟨blk, off + j, none⟩ = some x := hx
      rw [q3] at hx'
      cases hx'
      exact q4) (by omega) (by omega) (by omega)
  rw [h1] at this
  exact this

/-- What is read of cells of a type has its shape. -/
theorem fit_of : ∀ (n fuel : Nat) (t : TypeId) (cs : List Value) (x : DataW H × List MemPlace) (sh : List Sh), DataW.trod enc P W 0 spare held fuel t cs = some x → shapeOf P n t = some sh →
    (flatSh sh = true ∨ ∀ c ∈ cs, ∀ a l k, c = .slice (some a) l k → a.spot = none) → ∃ vs, Fit (Gh.start W) sh vs cs := by
  intro n
  induction n with
  | zero => intro fuel t cs x sh h hs; simp [shapeOf] at hs
  | succ n ih =>
    intro fuel t cs x sh h hs hsp
    simp only [shapeOf] at hs
    split at hs
    · rename_i hu
      simp only [Option.some.injEq] at hs
      subst hs
      obtain ⟨b, rfl, _⟩ := DataW.trod_bool hu h
      exact ⟨_, .one ⟨b, rfl⟩ (.b b) rfl rfl⟩
    · rename_i k hu
      simp only [Option.some.injEq] at hs
      subst hs
      obtain ⟨m, rfl, _, hw⟩ := DataW.trod_int hu h
      exact ⟨_, .one ⟨m, rfl, hw⟩ (.i _ m) rfl rfl⟩
    · rename_i hu
      simp only [Option.some.injEq] at hs
      subst hs
      obtain ⟨s, rfl, _, hm⟩ := DataW.trod_string hu h
      exact ⟨_, .one ⟨s, rfl, hm⟩ (.s s) rfl rfl⟩
    · rename_i e hu
      split at hs
      · rename_i elem hel
        cases hb : (Nat.beq elem.length (P.cellsOf e) && flatSh elem && (aggT P e).isSome) with
        | false => simp [hb] at hs
        | true =>
          simp only [hb, cond_true, Option.some.injEq] at hs
          subst hs
          simp only [Bool.and_eq_true] at hb
          obtain ⟨⟨hb1, hb2⟩, hb3⟩ := hb
          have hb1 := beq_true hb1
          rcases Deep.open_slice hu h with ⟨rfl, _⟩ | ⟨a, len, cap, m, n', D, Pl, rfl, _, hle, hcap, hm, _, hall⟩
          · exact ⟨_, .one (v := .sl 0 true []) (by simp only [SatC]; exact ⟨true, [], rfl, Nat.zero_le _, fun _ => rfl, fun x hx => nomatch hx⟩) (.nl (by omega)) rfl rfl⟩
          · have hspot : a.spot = none := by
              rcases hsp with hf | hf
              · simp [flatSh] at hf
              · exact hf _ (List.mem_singleton.2 rfl) a len cap rfl
            have hlm : len ≤ m := by rw [hm]; split <;> omega
            obtain ⟨xs, h1, h2, h3⟩ := sl_vrel (P := P) (W := W) (e := e) (a := a) (len := len) (cap := cap) (elem := elem) (agg := isAggT P e) hspot hle hb1 rfl (fun hag => by
              rw [← hb1]
              have : aggT P e = some false := by
                unfold isAggT at hag
                cases q : aggT P e with
                | none => rw [q] at hb3; cases hb3
                | some b => rw [q] at hag; simp at hag; rw [hag]
              exact oneSh n e elem hel this) (fun i hi => by
              obtain ⟨cs', q1, q2⟩ := hall i (by omega)
              obtain ⟨vs, q3⟩ := ih n' e cs' _ elem q2 hel (.inl hb2)
              exact ⟨cs', q1, vs, q3⟩)
            exact ⟨_, .one (by simp only [SatC]; exact ⟨false, xs, rfl, by omega, (fun h => by cases h), h2⟩) h3 rfl rfl⟩
      · cases hs
    · rename_i fs hu
      split at hs
      · rename_i sh' hsh
        cases hb : Nat.beq sh'.length (P.cellsOf t) with
        | false => simp [hb] at hs
        | true =>
          simp only [hb, cond_true, Option.some.injEq] at hs
          subst hs
          have hb := beq_true hb
          obtain ⟨xs, m, _, _, hl, hlen, hf⟩ := DataW.trod_struct hu h
          obtain ⟨vs, hv⟩ := fit_fields (enc := enc) (spare := spare) (held := held) (fuel := m) ih fs.toList 0 cs sh' (fun f hfm => by
            obtain ⟨i, hi⟩ := List.mem_iff_getElem?.1 hfm
            rw [Array.getElem?_toList] at hi
            have := hf i f hi
            have hi' : i < xs.length := by rw [hlen]; exact (Array.getElem?_eq_some_iff.1 hi).1
            rw [List.getElem?_eq_getElem hi'] at this
            exact ⟨_, this⟩) hsh hsp
          rw [List.drop_zero, hb, ← hl, List.take_length] at hv
          exact ⟨vs, hv⟩
      · cases hs
    · cases hs

/-- The arguments of a call. -/
theorem given_start {C : Cfg} {W : World} {ts : List TypeId} : True := trivial
end
end Go.Mu
end
section
/- Functions whose answer is fixed; how a law's call is concluded. -/
set_option linter.unusedSimpArgs false
set_option linter.unusedVariables false
set_option linter.constructorNameAsVariable false
namespace Go.Mu
section
variable {C : Cfg} {G G' : Gh} {w w' : World} {v : V} {st st' : St} {T : CallF} {f : FuncId}

theorem scalar_vrel {c : Value} (hs : scalar v = true) (h : VRel G v c) : VRel G' v c := by
  cases h <;> simp [scalar] at hs
  · exact .b _
  · exact .i _ _
  · exact .s _
theorem scalar_pl (hs : scalar v = true) : pl v = true := by cases v <;> simp [scalar] at hs <;> rfl
def scalars : List V → Bool
  | [] => true
  | v :: r => scalar v && scalars r
theorem scalars_get : ∀ {l : List V}, scalars l = true → ∀ v ∈ l, scalar v = true
  | [], _, v, h => nomatch h
  | x :: r, hs, v, h => by
    simp only [scalars, Bool.and_eq_true] at hs
    rcases List.mem_cons.1 h with rfl | h
    · exact hs.1
    · exact scalars_get hs.2 v h

/-- All that is somebody's is a caller's. -/
def Gh.hide (G : Gh) : Gh := { nx := 0, ob := fun _ => none, ic := G.ic, tl := G.tl, own := fun B => match G.own B with | some _ => some .fr | none => none }
theorem HRel.hide (h : HRel C G w st) : HRel C G.hide w ⟨0, .leaf⟩ := by
  have ok := h.ok
  have key : ∀ B x, G.hide.own B = some x → x = .fr ∧ ∃ y, G.own B = some y := fun B x hx => by
    simp only [Gh.hide] at hx
    cases e : G.own B with
    | none => rw [e] at hx; cases hx
    | some y => rw [e] at hx; cases hx; exact ⟨rfl, y, rfl⟩
  refine ⟨rfl, fun id o h => by simp [St.get, PT.get_leaf] at h, ⟨ok.ic, ok.tlic, ok.tl, fun B x hx => ?_, ok.tllt, fun B hB => ?_⟩⟩
  · obtain ⟨_, y, hy⟩ := key B x hx
    exact ok.lt B y hy
  · rcases hB with ⟨_, h⟩ | ⟨_, h⟩ | h <;> have := (key B _ h).1 <;> cases this

/-- A function that is run for what it answers alone. -/
theorem Ret.unhide {c : Value} (hh : HRel C G w st) (hs : scalar v = true) {st1 : St} (hr : Ret C G.hide w v st1 c G' w') :
    ∃ G'', Ret C G w v st c G'' w' := by
  have ok := hh.ok
  have ok' := hr.heap.ok
  have hid : ∀ B y, G.own B = some y → G.hide.own B = some .fr := fun B y hy => by simp only [Gh.hide, hy]
  let G2 : Gh := { nx := G.nx, ob := G.ob, ic := G'.ic, tl := G'.tl, own := G.own }
  have hle : GLe G G2 := ⟨fun B o x h => hr.ext.le.ic B o x h, Nat.le_refl _, fun _ _ => rfl⟩
  have hfr : ∀ B y, G.own B = some y → G'.tl B = G.tl B ∧ ∀ o, G'.ic B o = G.ic B o := fun B y hy => (hr.ext.fr B (hid B y hy)).2
  have hsame : ∀ B y, G.own B = some y → w'.heap[B]? = w.heap[B]? := fun B y hy => hr.keeps.old B (ok.lt B y hy) (.inr (hid B y hy))
  refine ⟨G2, ⟨⟨hh.nx, fun id o ho => ?_, ⟨ok'.ic, ok'.tlic, ok'.tl, fun B x hx => Nat.lt_of_lt_of_le (ok.lt B x hx) hr.keeps.size, ok'.tllt, fun B hB => ?_⟩⟩, scalar_vrel hs hr.rel, hr.nodup, fun B hB => ?_, hr.good, ⟨hr.keeps.size, fun B hB ho => ?_, hr.keeps.same⟩, ⟨hle, fun B hB => ⟨hB, hfr B _ hB⟩, fun B hB hn => hn⟩⟩⟩
  · rcases hh.obj id o ho with ⟨B, s, l, g1, g2, g3, g4⟩ | g
    · exact .inl ⟨B, s, l, g1, g2, g3, g4.xfer hle (hsame B _ g2) fun B hB => ⟨hB, (hfr B _ hB).1⟩⟩
    · exact .inr g
  · obtain ⟨y, hy⟩ : ∃ y, G.own B = some y := by
      rcases hB with ⟨id, h⟩ | ⟨s, h⟩ | h
      · exact ⟨_, h⟩
      · exact ⟨_, h⟩
      · exact ⟨_, h⟩
    obtain ⟨q1, q2⟩ := ok.excl B hB
    obtain ⟨e1, e2⟩ := hfr B y hy
    exact ⟨fun o => (e2 o).trans (q1 o), e1.trans q2⟩
  · rw [rs_pl v c (scalar_pl hs)] at hB
    cases hB
  · rcases ho with ho | ho
    · exact hr.keeps.old B hB (.inl (by simp only [Gh.hide, ho]))
    · exact hr.keeps.old B hB (.inr (hid B _ ho))

theorem fixed_sound (hT : SoundT C T) {args : List V} {st1 : St} (h : T f args ⟨0, .leaf⟩ = some (v, st1)) (ha : scalars args = true) (hs : scalar v = true) :
    (∃ fn, C.P.funcs[f]? = some fn ∧ (fn.name == "runtime.NumGoroutine") = false ∧ fn.body.isNone = false) ∧
    ∀ (st : St) (G : Gh) (w : World) (cs : List Value), HRel C G w st → Given G args cs → ∀ n, CallsIn Fence.wide n C.P f cs.toArray w (fun e w' => ∃ c G', e = .returned c ∧ Ret C G w v st c G' w') := by
  obtain ⟨h1, h2⟩ := hT f args _ v st1 h
  refine ⟨h1, fun st G w cs hh hg n => ?_⟩
  have hg' : Given G.hide args cs := ⟨hg.len, fun j u c hu hc => by
    have hsu := scalars_get ha u (List.mem_of_getElem? hu)
    have := hg.held j u c hu hc
    exact ⟨scalar_vrel hsu this.rel, this.nodup, by rw [rs_pl u c (scalar_pl hsu)]; exact fun B hB => nomatch hB⟩, hg.good⟩
  refine (h2 G.hide w cs hh.hide hg' n).mono fun e w' he => ?_
  obtain ⟨c, G', rfl, hr⟩ := he
  obtain ⟨G'', hr'⟩ := hr.unhide hh hs
  exact ⟨c, G'', rfl, hr'⟩

/-- A law's call. -/
theorem law_calls (hT : SoundT C T) {args : List V} {st1 : St} {W : World} {cs : List Value} {b : Bool} (h : T f args ⟨0, .leaf⟩ = some (.b b, st1)) (hg : Given (Gh.start W) args cs) :
    Calls C.P f cs.toArray W fun e W' => e = .returned (.bool b) ∧ W.heap.size ≤ W'.heap.size ∧ (∀ B, B < W.heap.size → W'.heap[B]? = W.heap[B]?) ∧ W'.os = W.os ∧ W'.output = W.output := by
  obtain ⟨_, h2⟩ := hT f args _ _ st1 h
  refine callsIn_wide.1 ((h2 (Gh.start W) W cs (start_rel C W) hg 0).mono fun e w' he => ?_)
  obtain ⟨c, G', rfl, hr⟩ := he
  rw [hr.rel.inv_b]
  exact ⟨rfl, hr.keeps.size, fun B hB => hr.keeps.old B hB (.inl rfl), hr.keeps.same.1, hr.keeps.same.2⟩
end

section
open Go.ChangeShapes Go.WideShapes Go.ChangeAt Go.RowKit
variable {H : Type} {enc : TypeId × Value → H} {P : Program}

theorem keptBut_of {W W' : World} (hk : ∀ B, B < W.heap.size → W'.heap[B]? = W.heap[B]?) (ho : W'.os = W.os) (hu : W'.output = W.output) {may : MemPlace → Prop} : W.keptBut W' may := by
  refine ⟨ho, hu, fun i hi => ?_⟩
  rw [hk i hi]
  cases h : W.heap[i]? with
  | none => rfl
  | some o =>
    cases o with
    | cells c t fr => exact ⟨rfl, rfl, rfl, fun j _ => rfl⟩
    | map es clock => exact .inr ⟨rfl, rfl⟩
    | _ => rfl

/-- What was read reads as before, where all that lay there lies there yet. -/
theorem post_of_kept {f : Func} {s : ChangeSpec} {apart fresh handsOn again : Bool} {W W' : World} {args : Array Value} {v : Value} {ds gs : List (DataW H)} {before pa pv : List MemPlace}
    (hW : DataW.Whole enc P f.params.toList s.vars apart W args.toList ds gs before)
    (hres : ∀ (b : Nat) (sp : Nat → Bool) (hd : Bool), DataW.TrodAll enc P W' b sp hd f.resultTypes.toList (v.resultList f.resultTypes.size) (s.fn H (ds ++ gs)).results [])
    (hargs : ∀ sp : Nat → Bool, (∀ p ∈ before, sp p.block = true) → DataW.TrodAll enc P W' 0 sp true f.params.toList args.toList (s.fn H (ds ++ gs)).args pa)
    (hvars : ∀ sp : Nat → Bool, (∀ p ∈ before, sp p.block = true) → DataW.TrodVars enc P W' sp s.vars (s.fn H (ds ++ gs)).vars pv)
    (hps : before = pa ++ pv) (hk : W.keptBut W' (· ∈ before)) (hfz : ∀ a : Addr, a.block < W.heap.size → W'.frozen? a = W.frozen? a)
    (hok : ∀ (j : Nat) (t : TypeId) (r : Value), f.resultTypes[j]? = some t → (v.resultList f.resultTypes.size)[j]? = some r → Value.okWide P W' .any 0 t r) :
    s.post enc P f apart fresh handsOn again W args v W' := by
  have hold : ∀ p ∈ before, (fun b => decide (b < W.heap.size)) p.block = true := fun p hp => by simpa using hW.lt p hp
  have hlt := hW.lt
  refine ⟨ds, gs, before, [], pa, pv, hW, hres _ _ _, hargs _ hold, hvars _ hold, World.keptBut_mono (fun p hp => ⟨hp, ?_⟩) hk, fun _ => ?_⟩
  · rw [hps, List.mem_append] at hp
    exact Or.inr hp
  · obtain ⟨_, _, _, _, _, hz, hn⟩ := hW
    refine ⟨hok, _, _, ([] ++ pa) ++ pv, ⟨[] ++ pa, pv, trodAll_append (hargs _ (fun _ _ => rfl)) (hres _ _ _), hvars _ (fun _ _ => rfl), rfl, ?_, ?_⟩, ?_⟩
    · intro b off hp
      have hp' : MemPlace.cell b off ∈ before := by rw [hps]; simpa using hp
      rw [hfz ⟨b, off, none⟩ (hlt _ hp')]
      exact hz b off hp'
    · intro ha
      have := hn ha
      rw [hps] at this
      simpa using this
    · intro p hp _
      rw [hps]
      simpa using hp
end
end Go.Mu
end
section
/- A law's row out of a run of the evaluator. -/
set_option linter.unusedSimpArgs false
set_option linter.unusedVariables false
set_option linter.constructorNameAsVariable false
namespace Go.Mu
open Go.ChangeShapes Go.WideShapes Go.ChangeAt Go.RowKit
section
variable {H : Type} {enc : TypeId × Value → H} {P : Program}

theorem trodAll_stays (hl : laidOutB P = true) {W W' : World} {sp : Nat → Bool} : ∀ {ts : List TypeId} {vs : List Value} {ds : List (DataW H)} {ps : List MemPlace}, (∀ t ∈ ts, P.readableRec t = true ∧ t < P.types.size) →
    DataW.TrodAll enc P W 0 (fun _ => true) true ts vs ds ps → (∀ p ∈ ps, W.sameAt W' p) → (∀ p ∈ ps, sp p.block = true) → DataW.TrodAll enc P W' 0 sp true ts vs ds ps
  | [], vs, ds, ps, _, h, _, _ => by
    obtain ⟨rfl, rfl, rfl⟩ := trodAll_nil h
    exact trodAll_mk0
  | t :: ts, vs, ds, ps, ht, h, hs, hp => by
    obtain ⟨v, vs', d, ds', p, q, rfl, rfl, rfl, h1, h2⟩ := trodAll_cons h
    obtain ⟨r1, r2⟩ := ht t (List.mem_cons_self ..)
    exact ⟨p, q, WideElems.Trod_stays hl r1 r2 h1 (fun x hx => hs x (List.mem_append_left _ hx)) (fun x hx => hp x (List.mem_append_left _ hx)),
      trodAll_stays hl (fun u hu => ht u (List.mem_cons_of_mem _ hu)) h2 (fun x hx => hs x (List.mem_append_right _ hx)) (fun x hx => hp x (List.mem_append_right _ hx)), rfl⟩

/-- The row's end: the law has answered, all that lay there lies there yet. -/
theorem law_post {f : Func} {s : ChangeSpec} {apart fresh handsOn again : Bool} {W W' : World} {args : Array Value} {b : Bool} {ds gs : List (DataW H)} {before : List MemPlace} {tb : TypeId}
    (hl : laidOutB P = true) (hts : ∀ t ∈ f.params.toList, P.readableRec t = true ∧ t < P.types.size) (hvars : s.vars = []) (hrt : f.resultTypes = #[tb]) (hb : P.underlying tb = some .bool)
    (hW : DataW.Whole enc P f.params.toList s.vars apart W args.toList ds gs before) (hfn : gs = [] → s.fn H (ds ++ gs) = { results := [.lit (.bool b)], args := ds })
    (h : W.heap.size ≤ W'.heap.size ∧ (∀ B, B < W.heap.size → W'.heap[B]? = W.heap[B]?) ∧ W'.os = W.os ∧ W'.output = W.output) :
    s.post enc P f apart fresh handsOn again W args (.bool b) W' := by
  obtain ⟨h1, h2, h3, h4⟩ := h
  have hlt := hW.lt
  have hW' := hW
  obtain ⟨p, q, hA, hV, rfl, hfz, hnd⟩ := hW
  rw [hvars] at hV
  obtain ⟨rfl, rfl⟩ := trodVars_none hV
  have hf := hfn rfl
  have hsame : ∀ x ∈ p, W.sameAt W' x := fun x hx => by
    have := hlt x (List.mem_append_left _ hx)
    cases x with
    | cell b o => exact World.cell?_of_block (w := W) (h2 b this)
    | map b => exact h2 b this
  refine post_of_kept (pa := p) (pv := []) hW' (fun bs sp hd => ?_) (fun sp hsp => ?_) (fun sp hsp => ?_) rfl (keptBut_of h2 h3 h4) (fun a ha => (by simp only [World.frozen?, h2 a.block ha])) (fun j t r hj hr => ?_)
  · rw [hf, hrt]
    exact trodAll_mk1 ⟨1, by simp [DataW.trod, Value.cells, hb]⟩
  · rw [hf]
    exact trodAll_stays hl hts hA hsame (fun x hx => hsp x (List.mem_append_left _ hx))
  · rw [hf, hvars]
    rfl
  · rw [hrt] at hj hr
    cases j with
    | zero =>
      simp only [List.getElem?_toArray, List.getElem?_cons_zero, Option.some.injEq] at hj
      subst hj
      have : r = .bool b := by simpa [Value.resultList] using hr.symm
      subst this
      exact okWide_bool_mk hb b
    | succ j => simp at hj
end
end Go.Mu
end
section
/- The arguments that came in, for the evaluator. -/
set_option linter.unusedSimpArgs false
set_option linter.unusedVariables false
set_option linter.constructorNameAsVariable false
namespace Go.Mu
open Go.ChangeShapes Go.WideShapes Go.ChangeAt Go.RowKit
section
variable {H : Type} {enc : TypeId × Value → H} {P : Program} {W : World} {spare : Nat → Bool} {held : Bool}

theorem cell_spot {r : Reach} {base : Nat} {u : TypeId} {a : Addr} {l k : Nat} (h : Cell.okWide P W r base u (.slice (some a) l k)) : a.spot = none := by
  unfold Cell.okWide at h
  have h' : Cell.ok P W r base u (.slice (some a) l k) := by
    split at h <;> first | exact h | (rename_i e; cases e)
  unfold Cell.ok at h'
  split at h' <;> first | (rename_i e; cases e; done) | skip
  · rename_i e a' len cap hu he
    cases he
    exact h'.2.2.2.1
  · exact h'.elim

/-- One argument. -/
theorem arg_of {base n : Nat} {t : TypeId} {v : Value} {d : DataW H} {p : List MemPlace} {sh : List Sh} (h : DataW.Trod enc P W 0 spare held t v d p) (hv : Value.okWide P W .any base t v) (hs : shapeOf P n t = some sh) :
    ∃ a : V, VRel (Gh.start W) a v ∧ pl a = true ∧ isAg a = isAggT P t ∧ SatL sh (cellsOf a) := by
  obtain ⟨fuel, h⟩ := h
  unfold Value.okWide at hv
  have hplain : ∀ vs : List V, (∀ v ∈ vs, pl v = true) → pls vs = true := fun vs h => pls_ofValues vs fun j v hj => h v (List.mem_of_getElem? hj)
  have agg : (∃ cs, v = .agg cs ∧ cs.size = P.cellsOf t ∧ Row.okWide P W .any base t cs) → aggT P t = some true → ∃ a : V, VRel (Gh.start W) a v ∧ pl a = true ∧ isAg a = isAggT P t ∧ SatL sh (cellsOf a) := by
    rintro ⟨cs, rfl, hsz, ts, h1, h2, h3⟩ hag
    obtain ⟨vs, hf⟩ := fit_of n fuel t _ _ sh h hs (.inr fun c hc a l k e => by
      subst e
      obtain ⟨i, hi⟩ := List.mem_iff_getElem?.1 hc
      obtain ⟨u, _, hu⟩ := h3 i _ (by simpa [Value.cells] using hi)
      exact cell_spot hu)
    have hcl : (Value.agg cs).cells.toList = cs.toList := rfl
    rw [hcl] at hf
    refine ⟨.ag vs, ?_, by simp only [pl]; exact hplain vs hf.pl, by simp [isAg, isAggT, hag], hf.sat⟩
    have := VRel.ag (G := Gh.start W) (l := cs.toList) hf.len.symm hf.cell hf.rel
    simpa using this
  have one : Cell.okWide P W .any base t v → aggT P t = some false → ∃ a : V, VRel (Gh.start W) a v ∧ pl a = true ∧ isAg a = isAggT P t ∧ SatL sh (cellsOf a) := by
    intro hc hag
    have hlen := oneSh n t sh hs hag
    have hcells : ∀ c ∈ v.cells.toList, ∀ a l k, c = .slice (some a) l k → a.spot = none := by
      intro c hcm a l k e
      subst e
      by_cases hv' : ∃ cs, v = .agg cs
      · obtain ⟨cs, rfl⟩ := hv'
        exfalso
        unfold Cell.okWide at hc
        have h' : Cell.ok P W .any base t (.agg cs) := by
          split at hc <;> first | exact hc | (rename_i e; cases e)
        unfold Cell.ok at h'
        split at h' <;> first | (rename_i e; cases e; done) | exact h'
      · have : v.cells = #[v] := by cases v <;> first | rfl | exact absurd ⟨_, rfl⟩ hv'
        rw [this] at hcm
        simp only [List.mem_singleton] at hcm
        subst hcm
        exact cell_spot hc
    obtain ⟨vs, hf⟩ := fit_of n fuel t _ _ sh h hs (.inr hcells)
    have hvl : vs.length = 1 := by rw [hf.sat.len, hlen]
    match vs, hvl, hf with
    | [a], _, hf =>
      have hca := hf.cell a (List.mem_cons_self ..)
      have hco : cellsOf a = [a] := by cases a <;> simp_all [isCell, cellsOf]
      have hna : isAg a = false := by cases a <;> simp_all [isCell, isAg]
      have hl2 : v.cells.toList.length = 1 := by rw [← hf.len]; rfl
      obtain ⟨c, hcv⟩ : ∃ c, v.cells.toList = [c] := by
        match hq : v.cells.toList, hl2 with
        | [c], _ => exact ⟨c, rfl⟩
      have hr := hf.rel 0 a c rfl (by rw [hcv]; rfl)
      have hvc : v = c := by
        by_cases hv' : ∃ cs, v = .agg cs
        · obtain ⟨cs, rfl⟩ := hv'
          exfalso
          unfold Cell.okWide at hc
          have h' : Cell.ok P W .any base t (.agg cs) := by
            split at hc <;> first | exact hc | (rename_i e; cases e)
          unfold Cell.ok at h'
          split at h' <;> first | (rename_i e; cases e; done) | exact h'
        · have : v.cells = #[v] := by cases v <;> first | rfl | exact absurd ⟨_, rfl⟩ hv'
          rw [this] at hcv
          simpa using hcv
      rw [hvc]
      exact ⟨a, hr, hf.pl a (List.mem_cons_self ..), by rw [hna]; simp [isAggT, hag], by rw [hco]; exact hf.sat⟩
  cases hu : P.underlying t with
  | none =>
    cases n with
    | zero => simp [shapeOf] at hs
    | succ n => simp [shapeOf, hu] at hs
  | some dsc =>
    rw [hu] at hv
    cases dsc with
    | struct fs => exact agg hv (by simp [aggT, hu])
    | array m e => exact agg hv (by simp [aggT, hu])
    | _ => exact one hv (by simp [aggT, hu])

theorem given_nil {G : Gh} : Given G [] [] := ⟨rfl, (fun j v c h => by simp at h), (fun v h => by cases h)⟩
/-- Arguments that own nothing. -/
theorem given_plain {G : Gh} {args : List V} {cs : List Value} (hl : cs.length = args.length) (h : ∀ (j : Nat) v c, args[j]? = some v → cs[j]? = some c → VRel G v c ∧ pl v = true) : Given G args cs :=
  ⟨hl, fun j v c hv hc => ⟨(h j v c hv hc).1, by rw [rs_pl _ _ (h j v c hv hc).2]; exact List.nodup_nil, by rw [rs_pl _ _ (h j v c hv hc).2]; exact fun B hB => nomatch hB⟩, fun v hv => by
    obtain ⟨j, hj⟩ := List.mem_iff_getElem?.1 hv
    obtain ⟨c, hc⟩ := get_of_len hl hj
    exact (h j v c hj hc).1.isGood⟩
end
end Go.Mu
end
section
/- The evaluator with what comes behind as a function: where a test isn't decided both ways stand in its result. -/
set_option linter.unusedSimpArgs false
set_option linter.unusedVariables false
set_option linter.constructorNameAsVariable false
namespace Go.Mu

abbrev Ans := Option (V × St)

/-- A slot's value, once a test is decided. -/
def learn (m : M) (d : Nat) (x : Bool) : M := match getE m.tp d with
  | some _ => { m with tp := setE m.tp d (.b x) }
  | none => match getE m.env d with
    | some _ => { m with env := setE m.env d (.b x) }
    | none => m
def learnO (m : M) (x : Operand) (b : Bool) : M := match x with
  | .tmp t => learn m t b
  | _ => m

theorem setE_same {e : Env} {t : Nat} {v : V} (h : getE e t = some v) : setE e t v = e := by
  induction e with
  | nil => simp [getE] at h
  | cons p r ih =>
    obtain ⟨k, x⟩ := p
    simp only [getE] at h
    simp only [setE]
    cases hb : Nat.beq k t with
    | true => simp only [hb, cond_true, Option.some.injEq] at h ⊢; rw [h]
    | false => simp only [hb, cond_false] at h ⊢; rw [ih h]
theorem learn_same {m : M} {d : Nat} {x : Bool} (h : rdM false m (.tmp d) = some (.b x)) : learn m d x = m := by
  simp only [rdM] at h
  unfold learn
  cases h1 : getE m.tp d with
  | some v =>
    simp only [h1, Option.some.injEq] at h
    simp only
    rw [h] at h1
    rw [setE_same h1]
  | none =>
    simp only [h1] at h
    cases h2 : getE m.env d with
    | none => rfl
    | some v =>
      simp only [h2, cond_false, Option.some.injEq] at h
      have hv : v = .b x := by cases v <;> simp [down] at h; rw [h]
      simp only
      rw [hv] at h2
      rw [setE_same h2]
theorem learnO_same {m : M} {g : Operand} {x : Bool} (h : rdM false m g = some (.b x)) : learnO m g x = m := by
  cases g with
  | tmp t => exact learn_same h
  | _ => rfl

def guardV (m : M) (d : Nat) (want : Bool) (kt kf : M → Ans) : Option V → Ans
  | some (.b x) => bif x then (bif want then kt (learn m d true) else kf (learn m d true)) else (bif want then kf (learn m d false) else kt (learn m d false))
  | some (.tu _) => kf m
  | _ => none
def guardD (m : M) (want : Bool) (kt kf : M → Ans) : Option Nat → Ans
  | some d => guardV m d want kt kf (rdM false m (.tmp d))
  | none => none
def guardQ (m : M) (want : Bool) (kt kf : M → Ans) : Option Oper → Ans
  | some q => guardD m want kt kf q.dst
  | none => none
def guardK (all : Array Oper) (m : M) (kt kf : M → Ans) : Option (Nat × Bool) → Ans
  | none => kt m
  | some (j, want) => guardQ m want kt kf all[j]?
def pickG (m : M) (kt kf : M → Ans) : Option Bool → Ans
  | some true => kt m
  | some false => kf m
  | none => none
theorem guardK_eq (all : Array Oper) (m : M) (o : Oper) (kt kf : M → Ans) : guardK all m kt kf o.guard = pickG m kt kf (guardM all m o) := by
  unfold guardM
  cases o.guard with
  | none => rfl
  | some p =>
    obtain ⟨j, want⟩ := p
    simp only [guardK]
    cases all[j]? with
    | none => rfl
    | some q =>
      simp only [guardQ]
      cases q.dst with
      | none => rfl
      | some d =>
        simp only [guardD]
        cases h : rdM false m (.tmp d) with
        | none => rfl
        | some v =>
          cases v with
          | b x =>
            simp only [guardV]
            cases x <;> cases want <;> simp only [cond_true, cond_false] <;> rw [learn_same h] <;> rfl
          | _ => rfl

/-- What an operation leaves goes to what comes behind. -/
def opA (C : Cfg) (f : FuncId) (mv : Bool) (m : M) (o : Oper) (k : M → Ans) : Option (V × Eff) → Ans
  | some (v, e) => bif freeEff m e && lpOk v e then k (wrM (C.vars f) (effM (unown mv m o) e) o.dst v) else none
  | none => none
def valA (C : Cfg) (f : FuncId) (m : M) (o : Oper) (k : M → Ans) : Option V → Ans
  | some v => bif lpOk v .no then k (wrM (C.vars f) m o.dst v) else none
  | none => none
def pickA (C : Cfg) (f : FuncId) (rd : M → Operand → Option V) (m : M) (o : Oper) (c a b : Operand) (k : M → Ans) : Option V → Ans
  | some (.b x) => bif x then valA C f (learnO m c true) o k (rd (learnO m c true) a) else valA C f (learnO m c false) o k (rd (learnO m c false) b)
  | _ => none
def opK (C : Cfg) (T : CallF) (Y : YieldF) (f : FuncId) (mv : Bool) (m : M) (o : Oper) (k : M → Ans) : Op → Ans
  | .pick c a b => pickA C f (rdM false) m o c a b k (rdM false m c)
  | _ => opA C f mv m o k (evalOpF C T Y (rdM (mvo mv o) m) (getE m.L) m.st f mv o)
theorem opK_eq (C : Cfg) (T : CallF) (Y : YieldF) (f : FuncId) (mv : Bool) (m : M) (o : Oper) (k : M → Ans) : opK C T Y f mv m o k o.op = opA C f mv m o k (evalOp C T Y (rdM (mvo mv o) m) (getE m.L) m.st f mv o) := by
  cases hop : o.op with
  | pick c a b =>
    have hst : still o = true := by simp [still, hop]
    simp only [opK, evalOp, hop, still_rd hst]
    cases h : rdM false m c with
    | none => rfl
    | some v =>
      cases v with
      | b x =>
        simp only [pickA]
        cases x
        · simp only [cond_false]
          rw [learnO_same h]
          cases rdM false m b with
          | none => rfl
          | some u => simp only [valA, opA, Option.map_some, freeEff, effM, Bool.true_and, still_un hst]
        · simp only [cond_true]
          rw [learnO_same h]
          cases rdM false m a with
          | none => rfl
          | some u => simp only [valA, opA, Option.map_some, freeEff, effM, Bool.true_and, still_un hst]
      | _ => rfl
  | _ => simp only [opK, evalOpF_eq]

noncomputable def evalOpsK (C : Cfg) (T : CallF) (Y : YieldF) (f : FuncId) (mvs : Nat) (all : Array Oper) (l : List Oper) : Nat → M → (M → Ans) → Ans :=
  List.rec (motive := fun _ => Nat → M → (M → Ans) → Ans) (fun _ m k => k m)
    (fun o _ ih i m k => guardK all m (fun m => opK C T Y f (bit mvs i) m o (fun m => ih (i + 1) m k) o.op) (fun m => ih (i + 1) (wrM (C.vars f) m o.dst (.tu [])) k) o.guard) l
def andThen (r : Option (M × List Kind)) (k : M → Ans) : Ans := match r with
  | some (m, _) => k m
  | none => none
theorem evalOpsK_eq (C : Cfg) (T : CallF) (Y : YieldF) (f : FuncId) (mvs : Nat) (all : Array Oper) : ∀ (l : List Oper) (i : Nat) (m : M) (k : M → Ans), evalOpsK C T Y f mvs all l i m k = andThen (evalOps C T Y f mvs all l i m) k
  | [], i, m, k => rfl
  | o :: r, i, m, k => by
    have ih := evalOpsK_eq C T Y f mvs all r
    show guardK all m (fun m => opK C T Y f (bit mvs i) m o (fun m => evalOpsK C T Y f mvs all r (i + 1) m k) o.op) (fun m => evalOpsK C T Y f mvs all r (i + 1) (wrM (C.vars f) m o.dst (.tu [])) k) o.guard = _
    rw [guardK_eq]
    unfold evalOps
    cases guardM all m o with
    | none => rfl
    | some b =>
      cases b with
      | true =>
        simp only [pickG]
        rw [opK_eq]
        cases evalOp C T Y (rdM (mvo (bit mvs i) o) m) (getE m.L) m.st f (bit mvs i) o with
        | none => rfl
        | some p =>
          obtain ⟨v, e⟩ := p
          simp only [opA, ih]
          cases (freeEff m e && lpOk v e) with
          | false => rfl
          | true =>
            simp only [cond_true]
            cases evalOps C T Y f mvs all r (i + 1) (wrM (C.vars f) (effM (unown (bit mvs i) m o) e) o.dst v) with
            | none => rfl
            | some q => rfl
      | false =>
        simp only [pickG, ih]
        cases evalOps C T Y f mvs all r (i + 1) (wrM (C.vars f) m o.dst (.tu [])) with
        | none => rfl
        | some q => rfl

/-- A region that draws: its kinds go along. -/
def opB (C : Cfg) (f : FuncId) (mv : Bool) (m : M) (o : Oper) (k : Kind → M → Ans) : Option (V × Eff) → Ans
  | some (v, e) => bif freeEff m e && lpOk v e then k (kindOf m.st v e) (wrM (C.vars f) (effM (unown mv m o) e) o.dst v) else none
  | none => none
def valB (C : Cfg) (f : FuncId) (m : M) (o : Oper) (k : Kind → M → Ans) : Option V → Ans
  | some v => bif lpOk v .no then k (kindOf m.st v .no) (wrM (C.vars f) m o.dst v) else none
  | none => none
def pickB (C : Cfg) (f : FuncId) (rd : M → Operand → Option V) (m : M) (o : Oper) (c a b : Operand) (k : Kind → M → Ans) : Option V → Ans
  | some (.b x) => bif x then valB C f (learnO m c true) o k (rd (learnO m c true) a) else valB C f (learnO m c false) o k (rd (learnO m c false) b)
  | _ => none
def opD (C : Cfg) (T : CallF) (Y : YieldF) (f : FuncId) (mv : Bool) (m : M) (o : Oper) (k : Kind → M → Ans) : Op → Ans
  | .pick c a b => pickB C f (rdM false) m o c a b k (rdM false m c)
  | _ => opB C f mv m o k (evalOpF C T Y (rdM (mvo mv o) m) (getE m.L) m.st f mv o)
theorem opD_eq (C : Cfg) (T : CallF) (Y : YieldF) (f : FuncId) (mv : Bool) (m : M) (o : Oper) (k : Kind → M → Ans) : opD C T Y f mv m o k o.op = opB C f mv m o k (evalOp C T Y (rdM (mvo mv o) m) (getE m.L) m.st f mv o) := by
  cases hop : o.op with
  | pick c a b =>
    have hst : still o = true := by simp [still, hop]
    simp only [opD, evalOp, hop, still_rd hst]
    cases h : rdM false m c with
    | none => rfl
    | some v =>
      cases v with
      | b x =>
        simp only [pickB]
        cases x
        · simp only [cond_false]
          rw [learnO_same h]
          cases rdM false m b with
          | none => rfl
          | some u => simp only [valB, opB, Option.map_some, freeEff, effM, Bool.true_and, still_un hst]
        · simp only [cond_true]
          rw [learnO_same h]
          cases rdM false m a with
          | none => rfl
          | some u => simp only [valB, opB, Option.map_some, freeEff, effM, Bool.true_and, still_un hst]
      | _ => rfl
  | _ => simp only [opD, evalOpF_eq]
noncomputable def evalOpsL (C : Cfg) (T : CallF) (Y : YieldF) (f : FuncId) (all : Array Oper) (l : List Oper) : Nat → M → (List Kind → List Kind) → (List Kind → M → Ans) → Ans :=
  List.rec (motive := fun _ => Nat → M → (List Kind → List Kind) → (List Kind → M → Ans) → Ans) (fun _ m g k => k (g []) m)
    (fun o _ ih i m g k => guardK all m (fun m => opD C T Y f false m o (fun x m => ih (i + 1) m (fun r => g (x :: r)) k) o.op) (fun m => ih (i + 1) (wrM (C.vars f) m o.dst (.tu [])) (fun r => g (.p :: r)) k) o.guard) l
def andThenD (r : Option (M × List Kind)) (g : List Kind → List Kind) (k : List Kind → M → Ans) : Ans := match r with
  | some (m, ks) => k (g ks) m
  | none => none
theorem evalOpsL_eq (C : Cfg) (T : CallF) (Y : YieldF) (f : FuncId) (all : Array Oper) : ∀ (l : List Oper) (i : Nat) (m : M) (g : List Kind → List Kind) (k : List Kind → M → Ans), evalOpsL C T Y f all l i m g k = andThenD (evalOps C T Y f 0 all l i m) g k
  | [], i, m, g, k => rfl
  | o :: r, i, m, g, k => by
    have ih := evalOpsL_eq C T Y f all r
    have hb : bit 0 i = false := by rw [show bit 0 i = Nat.beq (Nat.land (Nat.shiftRight 0 i) 1) 1 from rfl]; have : Nat.shiftRight 0 i = 0 := Nat.zero_shiftRight i; rw [this]; rfl
    show guardK all m (fun m => opD C T Y f false m o (fun x m => evalOpsL C T Y f all r (i + 1) m (fun r => g (x :: r)) k) o.op) (fun m => evalOpsL C T Y f all r (i + 1) (wrM (C.vars f) m o.dst (.tu [])) (fun r => g (.p :: r)) k) o.guard = _
    rw [guardK_eq]
    unfold evalOps
    rw [hb]
    cases guardM all m o with
    | none => rfl
    | some b =>
      cases b with
      | true =>
        simp only [pickG]
        rw [opD_eq]
        cases evalOp C T Y (rdM (mvo false o) m) (getE m.L) m.st f false o with
        | none => rfl
        | some p =>
          obtain ⟨v, e⟩ := p
          simp only [opB, ih]
          cases (freeEff m e && lpOk v e) with
          | false => rfl
          | true =>
            simp only [cond_true]
            cases evalOps C T Y f 0 all r (i + 1) (wrM (C.vars f) (effM (unown false m o) e) o.dst v) with
            | none => rfl
            | some q => rfl
      | false =>
        simp only [pickG, ih]
        cases evalOps C T Y f 0 all r (i + 1) (wrM (C.vars f) m o.dst (.tu [])) with
        | none => rfl
        | some q => rfl

def seqK (kb : M → Ans) (k : Ex → M → Ans) : Ex → M → Ans
  | .normal, m => kb m
  | .exit id, m => k (.exit id) m
  | .ret, m => k .ret m
def blockK (id : Nat) (k : Ex → M → Ans) : Ex → M → Ans
  | .exit id', m => bif Nat.beq id' id then k .normal m else k (.exit id') m
  | .normal, m => k .normal m
  | .ret, m => k .ret m
def condK (g : Operand) (m : M) (ka kb : M → Ans) : Option V → Ans
  | some (.b x) => bif x then ka (learnO m g true) else kb (learnO m g false)
  | _ => none
def restK (k : Ex → M → Ans) : Option (Ex × M) → Ans
  | some (ex, m) => k ex m
  | none => none
def drawK (env : Env) (bs : List Nat) (k : Ex → M → Ans) (ks : List Kind) (m : M) : Ans := bif okAll env bs [] ks then k .normal { m with tp := [] } else none
noncomputable def codeK (C : Cfg) (T : CallF) (Y : YieldF) (f : FuncId) (ih : Code → M → (Ex → M → Ans) → Ans) (whole : Code → M → Option (Ex × M)) (c : Code) (m : M) (k : Ex → M → Ans) : Ans :=
  match c with
  | .skip => k .normal m
  | .region id ops draw => bif C.news f id then restK k (whole (.region id ops draw) m) else bif draw then evalOpsL C T Y f ops ops.toList 0 m (fun r => r) (drawK m.env (C.befs f id) k)
    else evalOpsK C T Y f (C.moves f id) ops ops.toList 0 m (fun m => k .normal { m with tp := [] })
  | .seq a b => ih a m (seqK (fun m => ih b m k) k)
  | .cond g a b => condK g m (fun m => ih a m k) (fun m => ih b m k) (rdM false m g)
  | .block id a => ih a m (blockK id k)
  | .loop a => ih a m (seqK (fun m => ih (.loop a) m k) k)
  | .exit id => k (.exit id) m
  | .ret => k .ret m
  | c => restK k (whole c m)
noncomputable def evalCodeK (C : Cfg) (T : CallF) (Y : YieldF) (f : FuncId) (n : Nat) : Code → M → (Ex → M → Ans) → Ans :=
  Nat.rec (motive := fun _ => Code → M → (Ex → M → Ans) → Ans) (fun _ _ _ => none) (fun n ih => codeK C T Y f ih (evalCode C T Y f (n + 1))) n
theorem evalCodeK_eq (C : Cfg) (T : CallF) (Y : YieldF) (f : FuncId) : ∀ (n : Nat) (c : Code) (m : M) (k : Ex → M → Ans), evalCodeK C T Y f n c m k = restK k (evalCode C T Y f n c m)
  | 0, c, m, k => by unfold evalCode; rfl
  | n + 1, c, m, k => by
    have ih := evalCodeK_eq C T Y f n
    show codeK C T Y f (evalCodeK C T Y f n) (evalCode C T Y f (n + 1)) c m k = _
    cases c with
    | skip => simp only [codeK, evalCode, restK]
    | exit id => simp only [codeK, evalCode, restK]
    | ret => simp only [codeK, evalCode, restK]
    | region id ops draw =>
      simp only [codeK]
      cases hn : C.news f id with
      | true => simp only [cond_true]
      | false =>
        simp only [cond_false, evalOpsK_eq, evalOpsL_eq, evalCode, hn]
        cases draw with
        | true =>
          simp only [cond_true, Bool.not_true, Bool.false_or]
          cases evalOps C T Y f 0 ops ops.toList 0 m with
          | none => rfl
          | some p =>
            obtain ⟨m', ks⟩ := p
            simp only [andThenD, drawK]
            cases okAll m.env (C.befs f id) [] ks <;> rfl
        | false =>
          simp only [cond_false, Bool.not_false, Bool.true_or, cond_true]
          cases evalOps C T Y f (C.moves f id) ops ops.toList 0 m with
          | none => rfl
          | some p => rfl
    | seq a b =>
      simp only [codeK, evalCode, ih]
      cases evalCode C T Y f n a m with
      | none => rfl
      | some p =>
        obtain ⟨ex, m1⟩ := p
        cases ex with
        | normal => simp only [restK, seqK, ih]
        | _ => rfl
    | cond g a b =>
      simp only [codeK, evalCode, ih]
      cases h : rdM false m g with
      | none => rfl
      | some v =>
        cases v with
        | b x =>
          simp only [condK]
          cases x
          · simp only [cond_false]; rw [learnO_same h]
          · simp only [cond_true]; rw [learnO_same h]
        | _ => rfl
    | block id a =>
      simp only [codeK, evalCode, ih]
      cases evalCode C T Y f n a m with
      | none => rfl
      | some p =>
        obtain ⟨ex, m1⟩ := p
        cases ex with
        | exit id' =>
          simp only [restK, blockK]
          cases Nat.beq id' id <;> rfl
        | _ => rfl
    | loop a =>
      simp only [codeK, evalCode, ih]
      cases evalCode C T Y f n a m with
      | none => rfl
      | some p =>
        obtain ⟨ex, m1⟩ := p
        cases ex with
        | normal => simp only [restK, seqK, ih]
        | _ => rfl
    | _ => simp only [codeK, evalCode, restK]

/-- How a function ends. -/
def endR (st : St) : Option (List V) → Ans
  | some [v] => some (v, st)
  | some vs => some (.tu vs, st)
  | none => none
def endK (C : Cfg) (fn : Func) : Ex → M → Ans
  | .exit _, _ => none
  | .normal, m => endR m.st (resultsV C.P m fn.results.toList)
  | .ret, m => endR m.st (resultsV C.P m fn.results.toList)
theorem evalFn_K (C : Cfg) (T : CallF) (Y : YieldF) (n : Nat) {f : FuncId} {fn : Func} {c : Code} (hf : C.P.funcs[f]? = some fn) (hc : fn.body = some c) (args : List V) (st : St) (hl : Nat.beq args.length (fn.params.size + fn.nfree) = true) :
    evalFn C T Y n f args st = evalCodeK C T Y f n c { env := bindArgs args 0, tp := [], L := [], st := st } (endK C fn) := by
  rw [evalCodeK_eq]
  unfold evalFn
  simp only [hf, hc, hl, Bool.not_true, cond_false]
  cases evalCode C T Y f n c { env := bindArgs args 0, tp := [], L := [], st := st } with
  | none => rfl
  | some p =>
    obtain ⟨ex, m⟩ := p
    cases ex with
    | exit id => rfl
    | normal =>
      simp only [restK, endK]
      unfold endR
      rfl
    | ret =>
      simp only [restK, endK]
      unfold endR
      rfl
end Go.Mu
end
