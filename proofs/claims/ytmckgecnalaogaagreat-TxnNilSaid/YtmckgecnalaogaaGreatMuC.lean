/- Merged from the texts Mu21 to Mu31: an evaluator for the program's code and its soundness; how a law's statement follows of one run. No conditions. -/
import Derived.Test.YtmckgecnalaogaaGreatMuB
import Derived.Deep.AppendSrc
import Derived.Deep.Upon
section
/- append. -/
set_option linter.unusedSimpArgs false
set_option linter.unusedVariables false
set_option linter.constructorNameAsVariable false
namespace Go.Mu
section
variable {C : Cfg} {vars nt : Nat} {G G' : Gh} {lb lb' : Nat → Option Nat} {κ κ' : Nat → Bool} {w w' : World} {a : Act} {m m' : M} {o : Oper} {v : V} {P : Program}

theorem allFit_get {e : TypeId} : ∀ {ys : List V}, allFit P e ys = true → ∀ y ∈ ys, fits P e y = true
  | [], _, y, hy => by cases hy
  | x :: r, h, y, hy => by
    simp only [allFit, Bool.and_eq_true] at h
    rcases List.mem_cons.1 hy with rfl | hy
    · exact h.1
    · exact allFit_get h.2 y hy

theorem chunk_flat {agg : Bool} {sz : Nat} : ∀ (n : Nat) (cs ys : List V), chunk agg sz n cs = some ys → (∀ c ∈ cs, isCell c = true) → (agg = false → sz = 1) → flat ys = cs.take (n * sz) ∧ ys.length = n
  | 0, cs, ys, h, _, _ => by
    simp only [chunk, Option.some.injEq] at h
    subst h
    simp [flat]
  | n + 1, cs, ys, h, hc, hs => by
    simp only [chunk] at h
    cases agg with
    | true =>
      simp only [cond_true] at h
      cases hl : leB sz cs.length with
      | false => simp [hl] at h
      | true =>
        simp only [hl, cond_true] at h
        cases hr : chunk true sz n (cs.drop sz) with
        | none => simp [hr] at h
        | some r =>
          simp only [hr, Option.some.injEq] at h
          subst h
          obtain ⟨h1, h2⟩ := chunk_flat n _ r hr (fun c hc' => hc c (List.mem_of_mem_drop hc')) hs
          refine ⟨?_, by simp [h2]⟩
          simp only [flat, cellsOf, h1]
          rw [show (n + 1) * sz = sz + n * sz by rw [Nat.add_mul]; omega, List.take_add]
    | false =>
      have := hs rfl
      subst this
      simp only [cond_false] at h
      cases cs with
      | nil => simp at h
      | cons c q =>
        simp only [List.head?_cons, List.drop_succ_cons, List.drop_zero] at h
        cases hr : chunk false 1 n q with
        | none => simp [hr] at h
        | some r =>
          simp only [hr, Option.some.injEq] at h
          subst h
          obtain ⟨h1, h2⟩ := chunk_flat n _ r hr (fun c' hc' => hc c' (by simp [hc'])) hs
          refine ⟨?_, by simp [h2]⟩
          have hcc := hc c (by simp)
          have hco : cellsOf c = [c] := by cases c <;> first | rfl | simp [isCell] at hcc
          simp only [flat, hco, h1]
          simp

theorem Plain.one {cs : List V} {l : List Value} (h : Plain G cs l) : ∀ u ∈ l, u.oneCell' = true := fun u hu => by
  obtain ⟨j, hj⟩ := List.mem_iff_getElem?.1 hu
  obtain ⟨c, hc⟩ := get_of_len h.len.symm hj
  obtain ⟨q1, q2, x, q3, q4⟩ := h.cell j c hc
  rw [hj] at q3; cases q3
  exact (q4.oneCell q2).1

/-- The cells of a row that has none that changes. -/
theorem row_cells {B s : Nat} {cs : List V} (ok : WOk G w) (h2 : ∀ (j : Nat) c, cs[j]? = some c → pl c = true ∧ isCell c = true ∧ ∃ x, G.ic B (s + j) = some x) (h3 : ∀ (j : Nat) c x, cs[j]? = some c → G.ic B (s + j) = some x → VRel G c x) :
    ∃ l : List Value, Plain G cs l ∧ (∀ (j : Nat) c, l[j]? = some c → w.cell? ⟨B, s + j, none⟩ = some c) ∧ (∀ (j : Nat) c, l[j]? = some c → G.ic B (s + j) = some c) := by
  let l : List Value := (List.range cs.length).map fun j => (G.ic B (s + j)).getD undef
  have hl : l.length = cs.length := by simp [l]
  have hlj : ∀ (j : Nat) c, l[j]? = some c → G.ic B (s + j) = some c := fun j c hj => by
    have hj' : j < cs.length := by
      rcases Nat.lt_or_ge j cs.length with g | g
      · exact g
      · rw [List.getElem?_eq_none (by omega)] at hj; cases hj
    obtain ⟨_, _, y, hy⟩ := h2 j cs[j] (List.getElem?_eq_getElem hj')
    simp only [l, List.getElem?_map, List.getElem?_range hj', Option.map_some, hy, Option.getD_some, Option.some.injEq] at hj
    rw [hy, hj]
  refine ⟨l, ⟨hl, fun j c hj => ?_⟩, fun j c hj => ok.ic _ _ _ (hlj j c hj), hlj⟩
  obtain ⟨q1, q2, y, hy⟩ := h2 j c hj
  obtain ⟨x, hx⟩ := get_of_len hl hj
  exact ⟨q1, q2, x, hx, h3 j c x hj (hlj j x hx)⟩

theorem HeldL.plain {x : Own} {cs : List V} {l : List Value} (h : HeldL G x cs l) : Plain G (downs cs) l := by
  refine ⟨by rw [downs_length]; exact h.len, fun j c hj => ?_⟩
  rw [downs_get] at hj
  cases e : cs[j]? with
  | none => simp [e] at hj
  | some u =>
    simp [e] at hj
    subst hj
    obtain ⟨y, hy⟩ := get_of_len h.len e
    exact ⟨pl_down u, by rw [isCell_down]; exact h.cell u (List.mem_of_getElem? e), y, hy, (h.rel j u y e hy).down⟩

theorem downs_drop (cs : List V) (n : Nat) : downs (cs.drop n) = (downs cs).drop n := by
  apply List.ext_getElem?
  intro j
  simp [downs_get, List.getElem?_drop]
theorem downs_take (cs : List V) (n : Nat) : downs (cs.take n) = (downs cs).take n := by
  apply List.ext_getElem?
  intro j
  simp only [downs_get, List.getElem?_take]
  split <;> rfl

/-- What the second argument yields. -/
theorem src_of (h : Rel C vars nt G lb κ w a m) {mv : Bool} {x : Operand} {e tx : TypeId} {xv : V} {ys : List V} (hx : rdM mv m x = some xv) (he : elems C.P e m.st xv = some ys) (ht : srcT C.P tx = true) (hf : allFit C.P e ys = true) :
    ∃ news, Src C.P (sizeT C.P e) tx (a.eval x) ys.length news w ∧ Plain G (flat ys) news := by
  have hys : ∀ y ∈ ys, (cellsOf y).length = sizeT C.P e := fun y hy => fits_size (allFit_get hf y hy)
  have hfl := flat_length ys _ hys
  have kind : (∃ e', C.P.underlying tx = some (.slice e')) ∨ C.P.underlying tx = some .string := by
    unfold srcT at ht
    split at ht
    · exact .inl ⟨_, by assumption⟩
    · exact .inr (by assumption)
    · cases ht
  -- cells behind an address
  have addr : ∀ (B s n cap : Nat) (news : List Value), a.eval x = .slice (some ⟨B, s, none⟩) n cap → ys.length = n → Plain G (flat ys) news → (∀ (j : Nat) c, news[j]? = some c → w.cell? ⟨B, s + j, none⟩ = some c) →
      ∃ news, Src C.P (sizeT C.P e) tx (a.eval x) ys.length news w ∧ Plain G (flat ys) news := by
    intro B s n cap news ec hn hp hc
    have hnl : news.length = n * sizeT C.P e := by rw [hp.len, hfl, hn]
    refine ⟨news, ⟨kind, fun w' => by rw [ec, hn]; rfl, ?_, ?_, by rw [hn]; exact hnl, hp.one⟩, hp⟩
    · rw [ec, hn]
      exact run_firstCells_some w _ n _ n cap news hnl (fun j v hj => by rw [Addr.add_none]; exact hc j v hj)
    · rw [ec, hn]
      exact run_firstCells_some w.drew _ n _ n cap news hnl (fun j v hj => by rw [Addr.add_none]; exact hc j v hj)
  cases xv <;> simp only [elems, reduceCtorEq] at he
  case s z =>
    have ex := rd_s h hx
    cases hb : Nat.beq (sizeT C.P e) 1 with
    | false => simp [hb] at he
    | true =>
      simp only [hb, cond_true, Option.some.injEq] at he
      have h1 := beq_true hb
      subst he
      have hlen : (byteVs z.data.toList).length = z.size := by rw [byteVs, List.length_map, Array.length_toList]; rfl
      refine ⟨byteCells z, ⟨kind, fun w' => by rw [ex, hlen]; rfl, by rw [ex, hlen, h1]; exact firstCells_string z w, by rw [ex, hlen, h1]; exact firstCells_string z w.drew, by rw [byteCells_length, h1, hlen, Nat.mul_one], fun u hu => ?_⟩, ?_, fun j c hj => ?_⟩
      · obtain ⟨_, _, rfl⟩ := List.mem_map.1 hu; rfl
      · rw [hfl, byteCells_length, h1, hlen, Nat.mul_one]
      · have hfl' : flat (byteVs z.data.toList) = byteVs z.data.toList := by
          simp only [byteVs]
          induction z.data.toList with
          | nil => rfl
          | cons b r ih => simp [flat, cellsOf, ih]
        rw [hfl'] at hj
        simp only [byteVs, byteCells, List.getElem?_map] at hj ⊢
        cases hh : z.data.toList[j]? with
        | none => simp [hh] at hj
        | some b =>
          simp [hh] at hj
          subst hj
          exact ⟨rfl, rfl, _, rfl, .i _ _⟩
  case sl ow nil xs =>
    simp only [Option.some.injEq] at he
    subst he
    have hr := rd_vrel h hx rfl
    simp only [down] at hr
    rcases hr.inv_sl with ⟨_, rfl, _, ec⟩ | ⟨_, B, s, cap, sz, ec, g2, g3, g4, g5, _⟩
    · exact ⟨[], ⟨kind, fun w' => by rw [ec]; rfl, by rw [ec]; exact run_firstCells_none w _ 0 0 0, by rw [ec]; exact run_firstCells_none w.drew _ 0 0 0, by simp, fun u hu => nomatch hu⟩, ⟨by simp [flat], fun j c hj => by simp [flat] at hj⟩⟩
    · obtain ⟨l, q1, q2, _⟩ := row_cells h.heap.ok g3 g4
      exact addr B s _ cap l ec rfl q1 q2
  case sm id off n sz =>
    obtain ⟨B, s, lim, cap, q1, q2, q3, q4, ec⟩ := (rd_vrel h hx rfl).inv_sm
    cases hb : Nat.beq n 0 with
    | true =>
      simp only [hb, cond_true, Option.some.injEq] at he
      subst he
      have := beq_true hb
      subst this
      exact addr B (s + off) 0 cap [] ec rfl ⟨by simp [flat], fun j c hj => by simp [flat] at hj⟩ (fun j c hj => by simp at hj)
    | false =>
      simp only [hb, cond_false] at he
      cases hs : Nat.beq sz (sizeT C.P e) with
      | false => simp [hs] at he
      | true =>
        simp only [hs, cond_true] at he
        have hsz := beq_true hs
        cases hg : m.st.get id with
        | none => simp [hg] at he
        | some ob =>
          cases ob <;> simp only [hg, reduceCtorEq] at he
          rename_i cs
          cases hle : leB (off + n * sz) cs.length with
          | false => simp [hle] at he
          | true =>
            simp only [hle, cond_true] at he
            have hle := leB_iff.1 hle
            obtain ⟨cc, T, g1, g2, g3, g4, g5, g6⟩ := obj_cells h hg q2
            have hcell : ∀ c ∈ downs (cs.drop off), isCell c = true := fun c hc => by
              obtain ⟨j, hj⟩ := List.mem_iff_getElem?.1 hc
              rw [downs_drop, List.getElem?_drop] at hj
              exact (g4.plain.cell _ c hj).2.1
            have hcond : isAggT C.P e = false → sz = 1 := fun hag => by
              -- an element is one cell
              cases n with
              | zero => simp [beq_self] at hb
              | succ n' =>
                have he' := he
                simp only [chunk, hag, cond_false] at he'
                cases hh : (downs (cs.drop off)).head? with
                | none => simp [hh] at he'
                | some c =>
                  simp only [hh] at he'
                  cases hch : chunk false sz n' ((downs (cs.drop off)).drop sz) with
                  | none => simp [hch] at he'
                  | some r =>
                    simp only [hch, Option.some.injEq] at he'
                    have h1 := hys c (by rw [← he']; simp)
                    have h2 := hcell c (List.mem_of_mem_head? hh)
                    have hco : cellsOf c = [c] := by cases c <;> first | rfl | simp [isCell] at h2
                    rw [hco] at h1
                    rw [hsz, ← h1]; rfl
            obtain ⟨k1, k2⟩ := chunk_flat n _ ys he hcell hcond
            have hpl : Plain G (flat ys) ((((cc.toList.drop s).take cs.length).drop off).take (n * sz)) := by
              rw [k1, downs_drop]
              exact (g4.plain.drop off).take (n * sz)
            refine addr B (s + off) n cap _ ec k2 hpl (fun j c hj => ?_)
            rw [List.getElem?_take] at hj
            split at hj
            · rw [List.getElem?_drop] at hj
              rw [Nat.add_assoc]
              exact win_cell g1 hj
            · cases hj
end
end Go.Mu
end
section
/- append: the arms. -/
set_option linter.unusedSimpArgs false
set_option linter.unusedVariables false
set_option linter.constructorNameAsVariable false
namespace Go.Mu
section
variable {C : Cfg} {vars nt : Nat} {G G' : Gh} {lb lb' : Nat → Option Nat} {κ κ' : Nat → Bool} {w w' : World} {a : Act} {m m' : M} {o : Oper} {v : V} {P : Program}

theorem small_ok {e : TypeId} {n : Nat} (h : small P e n = true) (G : Gh) : ∃ i z c, P.info? e = some i ∧ i.zero = some c ∧ zeroT P e = some z ∧ i.size = sizeT P e ∧ 0 < sizeT P e ∧ n * i.bytes ≤ 140737488355328 ∧ n ≤ 140737488355328 ∧ c.cells.size = sizeT P e ∧ VRel G z c ∧ pl z = true ∧ stor z = true ∧ (cellsOf z).length = sizeT P e := by
  unfold small at h
  cases h1 : P.info? e with
  | none => simp [h1] at h
  | some i =>
    cases h2 : zeroT P e with
    | none => simp [h1, h2] at h
    | some z =>
      simp only [h1, h2, Bool.and_eq_true] at h
      obtain ⟨⟨⟨s1, s2⟩, s3⟩, s4⟩ := h
      have s1 := leB_iff.1 s1
      have s2 := ltB_iff.1 s2
      have s3 := ltB_iff.1 s3
      have hi : i.size = sizeT P e := by simp [sizeT, h1]
      obtain ⟨i', c, q1, q2, q3, q4, q5⟩ := zeroT_ok h2 G
      rw [h1] at q1; cases q1
      have hs := fits_size s4
      have hcs : c.cells.size = sizeT P e := by
        have := (cells_of q3 q5).1
        rw [hs] at this
        simpa using this
      exact ⟨i, z, c, rfl, q2, rfl, hi, by omega, s1, Nat.le_trans (Nat.le_mul_of_pos_right n s2) s1, hcs, q3, q4, q5, hs⟩

/-- The step that an append is. -/
theorem exec_append {c : Call} (hop : o.op = .call c) (hc : c.callee = .builtin .append) {t tx : TypeId} (hts : c.argTypes = #[t, tx]) {x y : Operand} (has : c.args = #[x, y]) {c' : Value} (hr : (Builtin.append_ #[t, tx] o.type #[a.eval x, a.eval y]).run P w = .ok c' w') :
    (execOp a.eval o).run P w = .ok (.value c') w' := by
  simp only [execOp, hop, resolve, hc, has, hts, Sem.run_bind, Sem.run_pure, Result.andThen_ok, invoke, builtin]
  have : Array.map a.eval #[x, y] = #[a.eval x, a.eval y] := by simp
  rw [this, hr]
  rfl

theorem zeroCells_size (z : Array Value) (n : Nat) : (Builtin.zeroCells z n).size = n * z.size := by simp [Builtin.zeroCells]

/-- A grown row. -/
theorem grown {olds news : List Value} {z : Array Value} {need cap sz : Nat} (h1 : (olds ++ news).length = need * sz) (hz : z.size = sz) (hc : need ≤ cap) :
    ((olds ++ news).toArray ++ Builtin.zeroCells z (cap - need)).size = cap * sz ∧ ((olds ++ news).toArray ++ Builtin.zeroCells z (cap - need)).toList.take (need * sz) = olds ++ news := by
  constructor
  · rw [Array.size_append, zeroCells_size, hz, List.size_toArray, h1, ← Nat.add_mul]
    congr 1
    omega
  · rw [Array.toList_append, ← h1, List.take_append_of_le_length (by simp), List.take_of_length_le (by simp)]

theorem op_append_nothing (h : Rel C vars nt G lb κ w a m) {c : Call} {t tx e : TypeId} {x y : Operand} {s yv : V} (hop : o.op = .call c) (hc : c.callee = .builtin .append) (hts : c.argTypes = #[t, tx]) (has : c.args = #[x, y]) (ht : C.P.underlying t = some (.slice e)) (hT : hasT C.P e = true)
    (hx : rdM false m x = some s) (hy : rdM false m y = some yv) (he : elems C.P e m.st yv = some []) (hst : srcT C.P tx = true) (hk : ∀ t ∈ uses o.op, κ t = false) (hs : (∃ o n xs, s = .sl o n xs) ∨ ∃ id off n sz, s = .sm id off n sz) : OpOk C vars nt G lb κ w a m m o s := by
  obtain ⟨news, q1, q2⟩ := src_of h hy he hst rfl
  have hn : news = [] := by
    have := q2.len
    simpa [flat] using this
  subst hn
  have hus : uses o.op = tmpOf x := by rw [hop]; simp [uses, hc, has]
  rw [hus] at hk
  obtain ⟨i, hi⟩ : ∃ i, C.P.info? e = some i := by
    cases e' : C.P.info? e with
    | none => exact absurd e' (hasT_info hT)
    | some i => exact ⟨i, rfl⟩
  have hsz : i.size = sizeT C.P e := by simp [sizeT, hi]
  obtain ⟨k1, k2⟩ := rd_take_out h hx (l := tmpOf x) (fun t e => hk t (tmpOf_mem e)) (fun t e => tmpOf_mem e)
  have hg : good s = true := by rcases hs with ⟨_, _, _, rfl⟩ | ⟨_, _, _, _, rfl⟩ <;> rfl
  have hp := stor_plain (v := s) (by rcases hs with ⟨_, _, _, rfl⟩ | ⟨_, _, _, _, rfl⟩ <;> rfl)
  have hsl : ∃ b l cp, a.eval x = .slice b l cp ∧ l ≤ cp := by
    rcases hs with ⟨_, _, _, rfl⟩ | ⟨_, _, _, _, rfl⟩
    · rcases (VRel.inv_sl (rd_vrel h hx rfl)) with ⟨_, _, _, ec⟩ | ⟨_, _, _, _, _, ec, _, _, _, g5, _⟩
      · exact ⟨_, _, _, ec, Nat.le_refl _⟩
      · exact ⟨_, _, _, ec, g5⟩
    · obtain ⟨_, _, _, _, _, _, q3, _, ec⟩ := (rd_vrel h hx rfl).inv_sm
      exact ⟨_, _, _, ec, q3⟩
  obtain ⟨b, l, cp, ec, hle⟩ := hsl
  have hrun := run_append_nothing (P := C.P) w t tx o.type e i ht hi b l cp hle (a.eval y) (by rw [hsz]; exact q1)
  rw [← ec] at hrun
  refine .of_pure h (exec_append hop hc hts has hrun) (by rw [hus]; exact k1) (fun B hB => ?_)
  obtain ⟨t', _, _, e'⟩ := k2 B hB
  exact ⟨_, e'⟩

/-- A row in its room. -/
def Gh.tail (G : Gh) (B e : Nat) (news : List Value) (l : Nat) : Gh := { G with ic := fun b o => if b = B ∧ e ≤ o ∧ o < e + news.length then news[o - e]? else G.ic b o, tl := fun b => if b = B then some (e + news.length, l) else G.tl b }

theorem Rel.tail (h : Rel C vars nt G lb κ w a m) (hκ : ∀ t, κ t = true → κ' t = true) {B e l t : Nat} (hown : G.own B = some (.sv t)) (ht : κ' t = true) (htl : G.tl B = some (e, l)) {news : List Value} (hl : e + news.length ≤ l) {cc : Array Value} {T : TypeId} {fz : Nat × Nat}
    (hB : w.heap[B]? = some (.cells cc T fz)) (hcc : e + news.length ≤ cc.size) :
    Rel C vars nt (G.tail B e news l) lb κ' (w.upd B (.cells (Mu.lay cc e news) T fz)) a m ∧ Keeps G w (w.upd B (.cells (Mu.lay cc e news) T fz)) ∧ Ext G (G.tail B e news l) w := by
  have ok := h.heap.ok
  have hnew : (w.upd B (.cells (Mu.lay cc e news) T fz)).heap[B]? = some (.cells (Mu.lay cc e news) T fz) := World.upd_same (lt_of_block hB)
  have hle : GLe G (G.tail B e news l) := ⟨fun B' o v hv => by
    show (if B' = B ∧ e ≤ o ∧ o < e + news.length then news[o - e]? else G.ic B' o) = some v
    by_cases e1 : B' = B ∧ e ≤ o ∧ o < e + news.length
    · obtain ⟨rfl, e2, _⟩ := e1
      rw [ok.tlic _ _ _ htl o e2] at hv; cases hv
    · rw [if_neg e1]; exact hv, Nat.le_refl _, fun _ _ => rfl⟩
  have htlk : ∀ B' x, G.own B' = some x → x ≠ .sv t → (G.tail B e news l).tl B' = G.tl B' := fun B' x hB' hx => if_neg fun e1 => by subst e1; rw [hown] at hB'; cases hB'; exact hx rfl
  refine ⟨?_, ⟨by rw [World.upd_size]; exact Nat.le_refl _, fun B' hB' ho => World.upd_other fun e1 => ?_, rfl, rfl⟩, ⟨hle, fun B' hB' => ⟨hB', htlk B' _ hB' (by simp), fun o => if_neg (fun g => by rw [g.1, hown] at hB'; cases hB')⟩, fun B' hB' ho => ho⟩⟩
  · refine Rel.xfer (L' := m.L) (st' := m.st) h hle hκ (fun y => y = .sv t) (fun t' ht' => by cases ht'; exact .inl ht) (fun e => by cases e) (fun B' x hB' hE => ⟨hB', htlk B' x hB' hE, World.upd_other fun e1 => ?_⟩) ?_ h.heap.nx (fun _ _ _ _ => rfl)
      (fun s v hv => .inl ⟨hv, fun e => (by cases e), fun e => (by cases e), rfl⟩) (fun id x hx => ?_)
    · subst e1
      rw [hown] at hB'; cases hB'
      exact hE rfl
    · refine ⟨fun B' o v hv => ?_, fun B' e' l' hB' o ho => ?_, fun B' e' l' hB' o ho hl' => ?_, fun B' x hx => ?_, fun B' x hx => ?_, fun B' hB' => ?_⟩
      · have hv' : (if B' = B ∧ e ≤ o ∧ o < e + news.length then news[o - e]? else G.ic B' o) = some v := hv
        by_cases e1 : B' = B ∧ e ≤ o ∧ o < e + news.length
        · rw [if_pos e1] at hv'
          obtain ⟨rfl, e2, e3⟩ := e1
          rw [World.cell?_block hnew]
          have := Mu.lay_in hcc (j := o - e) (by omega)
          rw [show e + (o - e) = o by omega] at this
          rw [this]; exact hv'
        · rw [if_neg e1] at hv'
          have hc := ok.ic B' o v hv'
          by_cases e2 : B' = B
          · subst e2
            rw [World.cell?_block hB] at hc
            rw [World.cell?_block hnew, Mu.lay_out hcc]
            · exact hc
            · rcases Nat.lt_or_ge o e with g | g
              · exact .inl g
              · exact .inr (by
                  rcases Nat.lt_or_ge o (e + news.length) with g2 | g2
                  · exact absurd ⟨rfl, g, g2⟩ e1
                  · exact g2)
          · rw [World.cell?_congr (World.upd_other e2)]; exact hc
      · have hB'' : (if B' = B then some (e + news.length, l) else G.tl B') = some (e', l') := hB'
        show (if B' = B ∧ e ≤ o ∧ o < e + news.length then news[o - e]? else G.ic B' o) = none
        by_cases e2 : B' = B
        · subst e2
          rw [if_pos rfl] at hB''
          cases hB''
          rw [if_neg (by omega)]
          exact ok.tlic _ _ _ htl o (by omega)
        · rw [if_neg e2] at hB''
          rw [if_neg (fun g => e2 g.1)]
          exact ok.tlic _ _ _ hB'' o ho
      · have hB'' : (if B' = B then some (e + news.length, l) else G.tl B') = some (e', l') := hB'
        by_cases e2 : B' = B
        · subst e2
          rw [if_pos rfl] at hB''
          cases hB''
          obtain ⟨⟨v, q1⟩, q2⟩ := ok.tl _ _ _ htl o (by omega) hl'
          rw [World.cell?_block hB] at q1
          refine ⟨⟨v, by rw [World.cell?_block hnew, Mu.lay_out hcc (.inr ho)]; exact q1⟩, ?_⟩
          simp only [World.frozen?, hB] at q2
          simp only [World.frozen?, hnew]
          exact q2
        · rw [if_neg e2] at hB''
          rw [World.cell?_congr (World.upd_other e2), World.frozen?_congr (World.upd_other e2)]
          exact ok.tl _ _ _ hB'' o ho hl'
      · rw [World.upd_size]; exact ok.lt B' x hx
      · have hB'' : (if B' = B then some (e + news.length, l) else G.tl B') = some x := hx
        rw [World.upd_size]
        by_cases e2 : B' = B
        · subst e2; exact lt_of_block hB
        · rw [if_neg e2] at hB''; exact ok.tllt B' x hB''
      · have e2 : B' ≠ B := fun e2 => by
          subst e2
          rcases hB' with ⟨id, g⟩ | ⟨s, g⟩ | g
          · have g : G.own B' = _ := g
            rw [hown] at g; cases g
          · have g : G.own B' = _ := g
            rw [hown] at g; cases g
          · have g : G.own B' = _ := g
            rw [hown] at g; cases g
        obtain ⟨q1, q2⟩ := ok.excl B' hB'
        refine ⟨fun o => ?_, ?_⟩
        · show (if B' = B ∧ _ then _ else G.ic B' o) = none
          rw [if_neg (fun g => e2 g.1)]; exact q1 o
        · show (if B' = B then _ else G.tl B') = none
          rw [if_neg e2]; exact q2
    · rcases h.heap.obj id x hx with ⟨B', s, l', g1, g2, g3, g4⟩ | g
      · exact .inl ⟨hx, fun e => (by cases e), fun e => (by cases e), g3⟩
      · exact .inr (.inr g)
  · subst e1
    rw [hown] at ho
    rcases ho with g | g <;> cases g

theorem setCells_upd {B e : Nat} {news : List Value} {cc : Array Value} {T : TypeId} {fz : Nat × Nat} (hB : w.heap[B]? = some (.cells cc T fz)) (hcc : e + news.length ≤ cc.size) (hf : ∀ j, j < news.length → w.frozen? ⟨B, e + j, none⟩ = false) (h1 : ∀ v ∈ news, v.oneCell' = true) (P : Program) :
    w.setCells B e news = w.upd B (.cells (Mu.lay cc e news) T fz) := by
  have q1 := run_storeCells_cells (P := P) B e news 0 w (fun j hj => by rw [Nat.add_zero, World.cell?_block hB]; simp; omega) (fun j hj => by rw [Nat.add_zero]; exact hf j hj) h1
  have q2 := run_storeCells_block (P := P) B e T fz news 0 cc w hB (by omega) (fun j hj => by
    have := hf j hj
    obtain ⟨lo, hi⟩ := fz
    simp only [World.frozen?, hB] at this
    rw [Nat.add_zero]
    simpa using this) h1
  rw [q1] at q2
  injection q2 with _ q3

theorem op_append_sl (h : Rel C vars nt G lb κ w a m) {c : Call} {t tx e : TypeId} {x y : Operand} {ow : Nat} {nil : Bool} {xs ys : List V} {yv : V} (hop : o.op = .call c) (hc : c.callee = .builtin .append) (hts : c.argTypes = #[t, tx]) (has : c.args = #[x, y]) (ht : C.P.underlying t = some (.slice e))
    (hx : rdM false m x = some (.sl ow nil xs)) (hy : rdM false m y = some yv) (he : elems C.P e m.st yv = some ys) (hst : srcT C.P tx = true) (hf : allFit C.P e ys = true) (hsm : small C.P e (xs.length + ys.length) = true) (hh : headFit C.P e xs = true) (hne : ys ≠ []) (how : nil = true ∨ ow = 1 ∨ ow = 2)
    (hk : ∀ t ∈ uses o.op, κ t = false) : OpOk C vars nt G lb κ w a m m o (.sl 2 false (xs ++ ys)) := by
  obtain ⟨news, q1, q2⟩ := src_of h hy he hst hf
  obtain ⟨i, z, cz, s1, s2, s3, s4, s5, s6, s7, s8, s9, s10, s11, s12⟩ := small_ok hsm G
  have hus : uses o.op = tmpOf x := by rw [hop]; simp [uses, hc, has]
  rw [hus] at hk
  obtain ⟨k1, k2, k3⟩ := taken_of h hx rfl (l := uses o.op) (fun t e => hk t (tmpOf_mem e)) (fun t e => by rw [hus]; exact tmpOf_mem e)
  have hys : ∀ y ∈ ys, (cellsOf y).length = sizeT C.P e := fun y hy => fits_size (allFit_get hf y hy)
  have hyp : 0 < ys.length := List.length_pos_iff.2 hne
  have q1' : Src C.P i.size tx (a.eval y) ys.length news w := by rw [s4]; exact q1
  -- what comes of a new row
  have grow : ∀ (base : Option Addr) (cap : Nat) (olds : List Value), a.eval x = .slice base xs.length cap → cap < xs.length + ys.length → Plain G (flat xs) olds → (∀ y ∈ xs, (cellsOf y).length = sizeT C.P e) →
      (∀ w' : World, w'.heap = w.heap → (Builtin.firstCells i.size xs.length (.slice base xs.length cap)).run C.P w' = .ok olds.toArray w') → OpOk C vars nt G lb κ w a m m o (.sl 2 false (xs ++ ys)) := by
    intro base cap olds ec hg hpo hxs hold
    have hrun := run_append_grow_src (P := C.P) w t tx o.type e i cz ht s1 s2 base xs.length cap olds (hold _ rfl) (a.eval y) ys.length news q1' hg (by omega) (growslice_fits hg s6)
    rw [← ec] at hrun
    have hcap := grownCap_ge w (xs.length + ys.length) cap e
    have hall : ∀ y ∈ xs ++ ys, (cellsOf y).length = sizeT C.P e := fun y hy => by
      rcases List.mem_append.1 hy with g | g
      · exact hxs y g
      · exact hys y g
    have hpa : Plain G (flat (xs ++ ys)) (olds ++ news) := by rw [flat_append]; exact hpo.append q2
    have hlen : (olds ++ news).length = (xs.length + ys.length) * sizeT C.P e := by
      rw [hpa.len, flat_length _ _ hall, List.length_append]
    obtain ⟨g1, g2⟩ := grown (z := cz.cells) hlen s8 hcap
    have hlx : (xs ++ ys).length = xs.length + ys.length := List.length_append
    refine op_newRow_sl h (w1 := w.drew) rfl (sz := sizeT C.P e) (cap := grownCap w (xs.length + ys.length) cap e) (by rw [hlx]; exact exec_append hop hc hts has hrun) hall (by rw [hlx, g2]; exact hpa) (by rw [hlx, g1]; exact Nat.mul_le_mul_right _ hcap) (by rw [hlx]; exact hcap)
      (.inr (.inr ⟨rfl, by simp [hne], by rw [g1]; exact Nat.le_refl _, .inr rfl⟩))
  rcases k1.inv_sl with ⟨rfl, rfl, _, ec⟩ | ⟨rfl, B, s, cap, sz, ec, g2, g3, g4, g5, g6, g7⟩
  · exact grow none 0 [] ec (by simpa using hyp) ⟨by simp [flat], fun j c hj => by simp [flat] at hj⟩ (fun y hy => nomatch hy) (fun w' _ => by simpa using run_firstCells_none (P := C.P) w' i.size 0 0 0)
  · -- a row
    obtain ⟨l, p1, p2, p3⟩ := row_cells h.heap.ok g3 g4
    have hxs : ∀ y ∈ xs, (cellsOf y).length = sizeT C.P e := fun y hy => by
      cases xs with
      | nil => cases hy
      | cons u r => rw [g2 y hy, ← g2 u (by simp)]; exact fits_size hh
    have hfl := flat_length xs _ hxs
    by_cases hg : cap < xs.length + ys.length
    · exact grow _ cap l ec hg p1 hxs (fun w' hw' => run_firstCells_some w' _ _ _ _ _ l (by rw [p1.len, hfl, s4]) (fun j v hj => by rw [Addr.add_none, World.cell?_congr (w := w) (by rw [hw'])]; exact p2 j v hj))
    · -- in its room
      have how2 : ow = 2 := by
        rcases how with g | g | g
        · cases g
        · have := g6 g
          omega
        · exact g
      subst how2
      obtain ⟨hxn, lim, t1, t2⟩ := g7 rfl
      have hsz : sz = sizeT C.P e := by
        cases xs with
        | nil => exact absurd rfl hxn
        | cons u r => rw [← g2 u (by simp)]; exact fits_size hh
      subst hsz
      obtain ⟨t', o1, o2⟩ := k3 B (by rw [ec]; simp [rs])
      have hnl : news.length = ys.length * sizeT C.P e := by rw [q2.len, flat_length _ _ hys]
      have hroom : s + xs.length * sizeT C.P e + news.length ≤ lim := by
        have : (xs.length + ys.length) * sizeT C.P e ≤ cap * sizeT C.P e := Nat.mul_le_mul_right _ (by omega)
        rw [Nat.add_mul] at this
        omega
      have hcell : ∀ j, j < news.length → (∃ v, w.cell? ⟨B, s + xs.length * sizeT C.P e + j, none⟩ = some v) ∧ w.frozen? ⟨B, s + xs.length * sizeT C.P e + j, none⟩ = false := fun j hj => h.heap.ok.tl B _ _ t1 _ (by omega) (by omega)
      have hblk : ∃ cc T fz, w.heap[B]? = some (.cells cc T fz) := by
        have : 0 < news.length := by rw [hnl]; exact Nat.mul_pos hyp s5
        obtain ⟨⟨v, hv⟩, _⟩ := hcell 0 this
        obtain ⟨cc, T, fz, q, _⟩ := World.block_of_cell hv
        exact ⟨cc, T, fz, q⟩
      obtain ⟨cc, T, fz, hB⟩ := hblk
      have hcc : s + xs.length * sizeT C.P e + news.length ≤ cc.size := by
        have : 0 < news.length := by rw [hnl]; exact Nat.mul_pos hyp s5
        obtain ⟨⟨v, hv⟩, _⟩ := hcell (news.length - 1) (by omega)
        rw [World.cell?_block hB] at hv
        rcases Nat.lt_or_ge (s + xs.length * sizeT C.P e + (news.length - 1)) cc.size with g | g
        · omega
        · rw [Array.getElem?_eq_none g] at hv; cases hv
      have hrun := run_append_room_src (P := C.P) w t tx o.type e i ht s1 B s xs.length cap (a.eval y) ys.length news q1' (by omega) (fun j hj => by rw [s4]; obtain ⟨⟨v, hv⟩, _⟩ := hcell j hj; rw [hv]; rfl) (fun j hj => by rw [s4]; exact (hcell j hj).2)
      rw [s4, setCells_upd hB hcc (fun j hj => (hcell j hj).2) q2.one C.P, ← ec] at hrun
      obtain ⟨r1, r2, r3⟩ := Rel.tail h (takes_le (uses o.op)) o1 o2 t1 hroom hB hcc
      have hall : ∀ y ∈ xs ++ ys, (cellsOf y).length = sizeT C.P e := fun y hy => by
        rcases List.mem_append.1 hy with g | g
        · exact hxs y g
        · exact hys y g
      have hlx : (xs ++ ys).length = xs.length + ys.length := List.length_append
      have hicn : ∀ j, j < news.length → (G.tail B (s + xs.length * sizeT C.P e) news lim).ic B (s + (xs.length * sizeT C.P e + j)) = news[j]? := fun j hj => by
        show (if B = B ∧ s + xs.length * sizeT C.P e ≤ s + (xs.length * sizeT C.P e + j) ∧ s + (xs.length * sizeT C.P e + j) < s + xs.length * sizeT C.P e + news.length then news[s + (xs.length * sizeT C.P e + j) - (s + xs.length * sizeT C.P e)]? else _) = _
        rw [if_pos ⟨rfl, by omega, by omega⟩]
        congr 1
        omega
      have hv : VRel (G.tail B (s + xs.length * sizeT C.P e) news lim) (.sl 2 false (xs ++ ys)) (.slice (some ⟨B, s, none⟩) (xs.length + ys.length) cap) := by
        rw [← hlx]
        refine .sl hall (fun j c hj => ?_) (fun j c x hj hx => ?_) (by omega) (fun e => by cases e) (fun _ => ⟨by simp [hxn], lim, ?_, t2⟩)
        · rw [flat_append] at hj
          by_cases hjl : j < (flat xs).length
          · rw [List.getElem?_append_left hjl] at hj
            obtain ⟨u1, u2, x, u3⟩ := g3 j c hj
            exact ⟨u1, u2, x, r3.le.ic _ _ _ u3⟩
          · rw [List.getElem?_append_right (by omega)] at hj
            obtain ⟨u1, u2, x, u3, u4⟩ := q2.cell _ c hj
            refine ⟨u1, u2, x, ?_⟩
            have := hicn (j - (flat xs).length) (by
              rcases Nat.lt_or_ge (j - (flat xs).length) news.length with g | g
              · exact g
              · rw [List.getElem?_eq_none g] at u3; cases u3)
            rw [show s + (xs.length * sizeT C.P e + (j - (flat xs).length)) = s + j by omega] at this
            rw [this]; exact u3
        · rw [flat_append] at hj
          by_cases hjl : j < (flat xs).length
          · rw [List.getElem?_append_left hjl] at hj
            obtain ⟨u1, u2, x', u3⟩ := g3 j c hj
            have := r3.le.ic _ _ _ u3
            rw [hx] at this; cases this
            exact (g4 j c _ hj u3).mono_pl r3.le u1
          · rw [List.getElem?_append_right (by omega)] at hj
            obtain ⟨u1, u2, x', u3, u4⟩ := q2.cell _ c hj
            have := hicn (j - (flat xs).length) (by
              rcases Nat.lt_or_ge (j - (flat xs).length) news.length with g | g
              · exact g
              · rw [List.getElem?_eq_none g] at u3; cases u3)
            rw [show s + (xs.length * sizeT C.P e + (j - (flat xs).length)) = s + j by omega] at this
            rw [this, u3] at hx
            cases hx
            exact u4.mono_pl r3.le u1
        · show (if B = B then some (s + xs.length * sizeT C.P e + news.length, lim) else _) = _
          rw [if_pos rfl, hnl, hlx, Nat.add_mul, Nat.add_assoc]
      refine ⟨_, _, lb, _, _, exec_append hop hc hts has hrun, .inl rfl, r1, ⟨hv, by simp [rs], fun B' hB' => .inr ⟨t', ?_, .inl o2⟩⟩, fun B' hB' => ?_, r2, r3⟩
      · simp only [rs, if_true, List.mem_singleton] at hB'
        subst hB'
        exact o1
      · simp only [rs, if_true, List.mem_singleton] at hB'
        subst hB'
        exact ⟨by rw [World.upd_size]; exact lt_of_block hB, fun _ e => by rw [o1] at e; cases e⟩
end
end Go.Mu
end
section
/- append: rows that lie in memory. -/
set_option linter.unusedSimpArgs false
set_option linter.unusedVariables false
set_option linter.constructorNameAsVariable false
namespace Go.Mu
section
variable {C : Cfg} {vars nt : Nat} {G G' : Gh} {lb lb' : Nat → Option Nat} {κ κ' : Nat → Bool} {w w' : World} {a : Act} {m m' : M} {o : Oper} {v : V} {P : Program}

/-- An object is forgotten. -/
theorem Rel.kill (h : Rel C vars nt G lb κ w a m) (id : Nat) : Rel C vars nt G lb κ w a { m with st := m.st.put id .dead } := by
  refine Rel.xfer (L' := m.L) h (.refl G) (fun _ h => h) (fun _ => False) (fun _ h => h.elim) (fun h => h) (fun B x hx _ => ⟨hx, rfl, rfl⟩) h.heap.ok h.heap.nx (fun _ _ _ _ => rfl) (fun s v hv => .inl ⟨hv, fun h => h, fun h => h, rfl⟩) (fun id' x hx => ?_)
  rcases St.get_put hx with ⟨rfl, rfl⟩ | ⟨h1, h2⟩
  · exact .inr (.inr rfl)
  · rcases h.heap.obj id' x h2 with ⟨B, s, l, g1, g2, g3, g4⟩ | g
    · exact .inl ⟨h2, fun h => h, fun h => h, g3⟩
    · exact .inr (.inr g)

def Gh.adopt (G : Gh) (B s l : Nat) : Gh := { G with nx := G.nx + 1, ob := fun id => if id = G.nx then some (B, s, l) else G.ob id, own := fun b => if b = B then some (.ob G.nx) else G.own b }

/-- A forgotten object's block becomes a new object's. -/
theorem Rel.adopt (h : Rel C vars nt G lb κ w a m) {id B s l : Nat} {cs : List V} {cc : Array Value} {T : TypeId} (hown : G.own B = some (.ob id)) (hd : ∀ x, m.st.get id = some x → x = .dead) (hB : w.heap[B]? = some (.cells cc T (0, 0))) (hl : l = cc.size) (hs : s + cs.length ≤ l) (hp : Plain G cs ((cc.toList.drop s).take cs.length)) :
    Rel C vars nt (G.adopt B s l) lb κ w a { m with st := m.st.new (.cells cs) } ∧ Ext G (G.adopt B s l) w := by
  have ok := h.heap.ok
  have hnx := h.heap.nx
  have hle : GLe G (G.adopt B s l) := ⟨fun _ _ _ h => h, Nat.le_succ _, fun id hid => if_neg (by omega)⟩
  have own : ∀ B' y, G.own B' = some y → y ≠ .ob id → (G.adopt B s l).own B' = some y := fun B' y hB' hy => by
    show (if B' = B then _ else G.own B') = _
    rw [if_neg (fun e => by subst e; rw [hown] at hB'; cases hB'; exact hy rfl)]
    exact hB'
  refine ⟨?_, ⟨hle, fun B' hB' => ⟨own B' _ hB' (by simp), rfl, fun _ => rfl⟩, fun B' hB' ho => ?_⟩⟩
  · refine Rel.xfer (L' := m.L) h hle (fun _ h => h) (fun y => y = .ob id) (fun t e => by cases e) (fun e => by cases e) (fun B' y hB' hE => ⟨own B' y hB' hE, rfl, rfl⟩) ?_ (by show G.nx + 1 = m.st.nx + 1; rw [hnx]) (fun _ _ _ _ => rfl)
      (fun s v hv => .inl ⟨hv, fun e => (by cases e), fun e => (by cases e), rfl⟩) (fun id' y hy => ?_)
    · refine ⟨ok.ic, ok.tlic, ok.tl, fun B' x hx => ?_, ok.tllt, fun B' hB' => ?_⟩
      · have hx' : (if B' = B then some (Own.ob G.nx) else G.own B') = some x := hx
        by_cases e : B' = B
        · subst e; exact lt_of_block hB
        · rw [if_neg e] at hx'; exact ok.lt B' x hx'
      · by_cases e : B' = B
        · subst e; exact ok.excl B' (.inl ⟨id, hown⟩)
        · have e1 : (G.adopt B s l).own B' = G.own B' := if_neg e
          rw [e1] at hB'
          exact ok.excl B' hB'
    · rcases St.get_new hy with ⟨rfl, rfl⟩ | ⟨h1, h2⟩
      · refine .inr (.inl ⟨B, s, l, if_pos hnx.symm, ?_, Nat.lt_succ_self _, cc, T, hB, hl, hs, hp.heldL hle⟩)
        show (if _ then _ else _) = _
        rw [if_pos rfl, hnx]
      · rcases h.heap.obj id' y h2 with ⟨B', s', l', g1, g2, g3, g4⟩ | g
        · by_cases e : id' = id
          · subst e
            exact .inr (.inr (hd y h2))
          · exact .inl ⟨h2, fun e' => (by cases e'; exact e rfl), fun e => (by cases e), Nat.lt_succ_of_lt g3⟩
        · exact .inr (.inr g)
  · show (if B' = B then _ else G.own B') = _
    rw [if_neg (fun e => by subst e; rw [hown] at ho; cases ho)]
    exact ho

theorem op_append_nilsm (h : Rel C vars nt G lb κ w a m) {c : Call} {t tx e : TypeId} {x y : Operand} {ow : Nat} {xs ys : List V} {yv : V} (hop : o.op = .call c) (hc : c.callee = .builtin .append) (hts : c.argTypes = #[t, tx]) (has : c.args = #[x, y]) (ht : C.P.underlying t = some (.slice e))
    (hx : rdM false m x = some (.sl ow true xs)) (hy : rdM false m y = some yv) (he : elems C.P e m.st yv = some ys) (hst : srcT C.P tx = true) (hf : allFit C.P e ys = true) (hsm : small C.P e (xs.length + ys.length) = true) (hne : ys ≠ []) :
    OpOk C vars nt G lb κ w a m { m with st := m.st.new (.cells (flat ys)) } o (.sm m.st.nx 0 ys.length (sizeT C.P e)) := by
  obtain ⟨news, q1, q2⟩ := src_of h hy he hst hf
  obtain ⟨i, z, cz, s1, s2, s3, s4, s5, s6, s7, s8, s9, s10, s11, s12⟩ := small_ok hsm G
  have hr := rd_vrel h hx rfl
  simp only [down] at hr
  rcases hr.inv_sl with ⟨_, rfl, _, ec⟩ | ⟨e', _⟩
  · have hys : ∀ y ∈ ys, (cellsOf y).length = sizeT C.P e := fun y hy => fits_size (allFit_get hf y hy)
    have hyp : 0 < ys.length := List.length_pos_iff.2 hne
    have q1' : Src C.P i.size tx (a.eval y) ys.length news w := by rw [s4]; exact q1
    simp only [List.length_nil, Nat.zero_add] at s6 s7
    have hrun := run_append_grow_src (P := C.P) w t tx o.type e i cz ht s1 s2 none 0 0 [] (by simpa using run_firstCells_none (P := C.P) w.drew i.size 0 0 0) (a.eval y) ys.length news q1' (by omega) (by omega) (growslice_fits (by omega) (by rw [Nat.zero_add]; exact s6))
    rw [← ec] at hrun
    simp only [Nat.zero_add] at hrun
    have hcap := grownCap_ge w ys.length 0 e
    have hlen : (([] : List Value) ++ news).length = ys.length * sizeT C.P e := by rw [List.nil_append, q2.len, flat_length _ _ hys]
    obtain ⟨g1, g2⟩ := grown (z := cz.cells) hlen s8 hcap
    refine op_newRow_sm h (w1 := w.drew) rfl (exec_append hop hc hts has hrun) (n := ys.length * sizeT C.P e) (flat_length _ _ hys) (by rw [g2]; simpa using q2) (by rw [g1]; exact Nat.mul_le_mul_right _ hcap) hcap (by rw [g1]; exact Nat.le_refl _)
  · cases e'

theorem op_append_sm (h : Rel C vars nt G lb κ w a m) {c : Call} {t tx e : TypeId} {x y : Operand} {id off n : Nat} {ys cs : List V} {yv : V} (hop : o.op = .call c) (hc : c.callee = .builtin .append) (hts : c.argTypes = #[t, tx]) (has : c.args = #[x, y]) (ht : C.P.underlying t = some (.slice e))
    (hx : rdM false m x = some (.sm id off n (sizeT C.P e))) (hy : rdM false m y = some yv) (he : elems C.P e m.st yv = some ys) (hst : srcT C.P tx = true) (hf : allFit C.P e ys = true) (hsm : small C.P e (n + ys.length) = true) (hne : ys ≠ []) (hg : m.st.get id = some (.cells cs)) (hle : off + n * sizeT C.P e ≤ cs.length) :
    OpOk C vars nt G lb κ w a m { m with st := (m.st.put id .dead).new (.cells (downs ((cs.drop off).take (n * sizeT C.P e)) ++ flat ys)) } o (.sm m.st.nx 0 (n + ys.length) (sizeT C.P e)) := by
  obtain ⟨news, q1, q2⟩ := src_of h hy he hst hf
  obtain ⟨i, z, cz, s1, s2, s3, s4, s5, s6, s7, s8, s9, s10, s11, s12⟩ := small_ok hsm G
  obtain ⟨B, s, lim, cap, u1, u2, u3, u4, ec⟩ := (rd_vrel h hx rfl).inv_sm
  obtain ⟨cc, T, g1, g2, g3, g4, g5, g6⟩ := obj_cells h hg u2
  have hys : ∀ y ∈ ys, (cellsOf y).length = sizeT C.P e := fun y hy => fits_size (allFit_get hf y hy)
  have hyp : 0 < ys.length := List.length_pos_iff.2 hne
  have q1' : Src C.P i.size tx (a.eval y) ys.length news w := by rw [s4]; exact q1
  have hpo : Plain G (downs ((cs.drop off).take (n * sizeT C.P e))) ((((cc.toList.drop s).take cs.length).drop off).take (n * sizeT C.P e)) := by
    rw [downs_take, downs_drop]
    exact (g4.plain.drop off).take _
  have hol : (downs ((cs.drop off).take (n * sizeT C.P e))).length = n * sizeT C.P e := by rw [downs_length, List.length_take, List.length_drop]; omega
  have hnl : news.length = ys.length * sizeT C.P e := by rw [q2.len, flat_length _ _ hys]
  have hpa := hpo.append q2
  have hlc : (downs ((cs.drop off).take (n * sizeT C.P e)) ++ flat ys).length = (n + ys.length) * sizeT C.P e := by rw [List.length_append, hol, flat_length _ _ hys, Nat.add_mul]
  have hold : ∀ (j : Nat) v, ((((cc.toList.drop s).take cs.length).drop off).take (n * sizeT C.P e))[j]? = some v → w.cell? ⟨B, s + off + j, none⟩ = some v := fun j v hj => by
    rw [List.getElem?_take] at hj
    split at hj
    · rw [List.getElem?_drop] at hj
      rw [Nat.add_assoc]
      exact win_cell g1 hj
    · cases hj
  by_cases hgr : cap < n + ys.length
  · -- a new row
    have hrun := run_append_grow_src (P := C.P) w t tx o.type e i cz ht s1 s2 (some ⟨B, s + off, none⟩) n cap _ (run_firstCells_some w.drew _ _ _ _ _ _ (by rw [hpo.len, hol, s4]) (fun j v hj => by rw [Addr.add_none]; exact hold j v hj)) (a.eval y) ys.length news q1' hgr (by omega) (growslice_fits hgr s6)
    rw [← ec] at hrun
    have hcap := grownCap_ge w (n + ys.length) cap e
    obtain ⟨e1, e2⟩ := grown (z := cz.cells) (by rw [hpa.len, hlc]) s8 hcap
    have hk := h.kill id
    obtain ⟨w2, G', lb', c', nx, k1, k2, k3, k4, k5, k6, k7⟩ := op_newRow_sm (o := o) hk (w1 := w.drew) rfl (exec_append hop hc hts has hrun) (n := (n + ys.length) * sizeT C.P e) hlc (by rw [e2]; exact hpa) (by rw [e1]; exact Nat.mul_le_mul_right _ hcap) hcap (by rw [e1]; exact Nat.le_refl _)
    exact ⟨w2, G', lb', c', nx, k1, k2, k3, k4, k5, k6, k7⟩
  · -- in its room
    have hroom : off + n * sizeT C.P e + news.length ≤ lim - s := by
      have : (n + ys.length) * sizeT C.P e ≤ cap * sizeT C.P e := Nat.mul_le_mul_right _ (by omega)
      rw [Nat.add_mul] at this
      omega
    have hcc : s + off + n * sizeT C.P e + news.length ≤ cc.size := by
      have : (n + ys.length) * sizeT C.P e ≤ cap * sizeT C.P e := Nat.mul_le_mul_right _ (by omega)
      rw [Nat.add_mul] at this
      omega
    have hfr : ∀ j, w.frozen? ⟨B, j, none⟩ = false := fun j => by simp [World.frozen?, g1]
    have hrun := run_append_room_src (P := C.P) w t tx o.type e i ht s1 B (s + off) n cap (a.eval y) ys.length news q1' (by omega) (fun j hj => by rw [s4, World.cell?_block g1]; simp; omega) (fun j hj => hfr _)
    rw [s4, setCells_upd g1 hcc (fun j hj => hfr _) q2.one C.P, ← ec] at hrun
    obtain ⟨r1, r2, r3⟩ := Rel.updOb (κ' := takes vars κ (uses o.op)) (x := .dead) (l := []) h (takes_le (uses o.op)) (fun B hB => nomatch hB) u2 g5 g6 (ob := .cells (Mu.lay cc (s + off + n * sizeT C.P e) news) T (0, 0)) trivial
    have hG : G.give [] (.obIn id) = G := by
      unfold Gh.give
      simp
    rw [hG] at r1 r3
    have hnew : (w.upd B (.cells (Mu.lay cc (s + off + n * sizeT C.P e) news) T (0, 0))).heap[B]? = some (.cells (Mu.lay cc (s + off + n * sizeT C.P e) news) T (0, 0)) := World.upd_same (lt_of_block g1)
    have hwin : ((Mu.lay cc (s + off + n * sizeT C.P e) news).toList.drop (s + off)).take ((n + ys.length) * sizeT C.P e) = (((cc.toList.drop s).take cs.length).drop off).take (n * sizeT C.P e) ++ news := by
      have hlay : (Mu.lay cc (s + off + n * sizeT C.P e) news).toList = cc.toList.take (s + off + n * sizeT C.P e) ++ (news ++ cc.toList.drop (s + off + n * sizeT C.P e + news.length)) := by simp [Mu.lay]
      have hcl : cc.toList.length = cc.size := by simp
      rw [hlay, List.drop_append_of_le_length (by rw [List.length_take]; omega), List.take_append, List.take_append]
      have l1 : ((cc.toList.take (s + off + n * sizeT C.P e)).drop (s + off)).length = n * sizeT C.P e := by rw [List.length_drop, List.length_take]; omega
      rw [l1, Nat.add_mul]
      have e1 : n * sizeT C.P e + ys.length * sizeT C.P e - n * sizeT C.P e = news.length := by rw [hnl]; omega
      rw [e1, List.take_length, Nat.sub_self, List.take_zero, List.append_nil, List.take_of_length_le (by omega)]
      congr 1
      apply List.ext_getElem?
      intro j
      simp only [List.getElem?_drop, List.getElem?_take]
      by_cases e2 : j < n * sizeT C.P e
      · rw [if_pos (by omega), if_pos e2, if_pos (by omega), Nat.add_assoc]
      · rw [if_neg (by omega), if_neg e2]
    obtain ⟨t1, t2⟩ := Rel.adopt r1 (id := id) (s := s + off) (l := lim) (cs := downs ((cs.drop off).take (n * sizeT C.P e)) ++ flat ys) g5 (fun x hx => by
        rcases St.get_put hx with ⟨_, rfl⟩ | ⟨e, _⟩
        · rfl
        · exact absurd rfl e) hnew (by rw [Mu.lay_size hcc]; exact g2) (by rw [hlc, Nat.add_mul]; omega) (by rw [hlc, hwin]; exact hpa)
    refine .of_rel (exec_append hop hc hts has hrun) t1 ?_ rfl r2 (r3.trans r2.size t2)
    have := VRel.sm (G := G.adopt B (s + off) lim) (id := m.st.nx) (o := 0) (n := n + ys.length) (sz := sizeT C.P e) (cap := cap) (B := B) (s := s + off) (l := lim) (by rw [← h.heap.nx]; exact Nat.lt_succ_self _) (if_pos h.heap.nx.symm) (by omega) (by omega)
    exact this
end
end Go.Mu
end
section
/- Comparisons, lengths, the least and the most. -/
set_option linter.unusedSimpArgs false
set_option linter.unusedVariables false
set_option linter.constructorNameAsVariable false
namespace Go.Mu
section
variable {C : Cfg} {vars nt : Nat} {G G' : Gh} {lb lb' : Nat → Option Nat} {κ κ' : Nat → Bool} {w w' : World} {a : Act} {m m' : M} {o : Oper} {v : V} {P : Program}

theorem fields_of {t : TypeId} {fs : Array Field} (h : P.underlying t = some (.struct fs)) : P.fieldsOf t = fs := by simp [Program.fieldsOf, h]

theorem VRel.slice_nil {ow : Nat} {n : Bool} {xs : List V} {c : Value} (h : VRel G (.sl ow n xs) c) : ∃ b l k, c = .slice b l k ∧ b.isNone = n ∧ (n = true → b = none ∧ l = 0 ∧ k = 0) := by
  rcases h.inv_sl with ⟨rfl, _, _, rfl⟩ | ⟨rfl, B, s, cap, sz, rfl, _⟩
  · exact ⟨_, _, _, rfl, rfl, fun _ => ⟨rfl, rfl, rfl⟩⟩
  · exact ⟨_, _, _, rfl, rfl, fun e => by cases e⟩

theorem eqT_ok (P : Program) : ∀ d : Nat, (∀ t x y b, eqT P d t x y = some b → ∀ (G : Gh) cx cy, VRel G x cx → VRel G y cy → ∀ D w, d ≤ D → (Op.equalIn D t cx cy).run P w = .ok b w) ∧
    (∀ fs xs ys b, eqFs P d fs xs ys = some b → ∀ (G : Gh) l q, Cells G xs l → Cells G ys q → ∀ D w, d ≤ D → (Op.eqFields D l.toArray q.toArray fs).run P w = .ok b w)
  | 0 => ⟨fun t x y b h => by simp [eqT] at h, fun fs xs ys b h => by simp [eqFs] at h⟩
  | d + 1 => by
    obtain ⟨ih1, ih2⟩ := eqT_ok P d
    constructor
    · intro t x y b h G cx cy hx hy D w hD
      obtain ⟨D, rfl⟩ : ∃ D', D = D' + 1 := ⟨D - 1, by omega⟩
      simp only [eqT] at h
      split at h
      · rename_i ht
        split at h <;> simp only [Option.some.injEq, reduceCtorEq] at h
        subst h
        rw [hx.inv_b, hy.inv_b]
        simp [Op.equalIn, run_underlying ht]
      · rename_i ht
        split at h
        case h_2 => cases h
        rename_i k p k' q
        cases hk : decide (k = k') with
        | false => simp [hk] at h
        | true =>
          simp only [hk, cond_true, Option.some.injEq] at h
          have hk := of_decide_eq_true hk
          subst hk
          subst h
          rw [hx.inv_i, hy.inv_i]
          simp [Op.equalIn, run_underlying ht]
      · rename_i ht
        split at h <;> simp only [Option.some.injEq, reduceCtorEq] at h
        subst h
        rw [hx.inv_s, hy.inv_s]
        simp [Op.equalIn, run_underlying ht]
      · rename_i e ht
        split at h
        · simp only [Option.some.injEq] at h
          subst h
          rw [hx.inv_p0, hy.inv_p0]
          simp [Op.equalIn, run_underlying ht]
        · simp only [Option.some.injEq] at h
          subst h
          obtain ⟨B, s, l, _, _, rfl⟩ := hy.inv_po
          rw [hx.inv_p0]
          simp [Op.equalIn, run_underlying ht]
        · simp only [Option.some.injEq] at h
          subst h
          obtain ⟨B, s, l, _, _, rfl⟩ := hx.inv_po
          rw [hy.inv_p0]
          simp [Op.equalIn, run_underlying ht]
        · rename_i p o1 q o2
          cases hz : Nat.beq (sizeT P e) 0 with
          | true => simp [hz] at h
          | false =>
            simp only [hz, cond_false] at h
            cases hq : Nat.beq p q with
            | false => simp [hq] at h
            | true =>
              simp only [hq, cond_true, Option.some.injEq] at h
              have hq := beq_true hq
              subst hq
              obtain ⟨B, s, l, _, e1, rfl⟩ := hx.inv_po
              obtain ⟨B', s', l', _, e2, rfl⟩ := hy.inv_po
              rw [e1] at e2
              cases e2
              have hz := beq_false hz
              simp only [Op.equalIn, run_underlying ht, Sem.run_bind, Result.andThen_ok, run_size' hz, Sem.run_ite, if_pos hz, sameAddr, beq_self_eq_true, if_true, Sem.run_pure]
              congr 1
              rw [← h]
              cases ho : Nat.beq o1 o2
              · have := beq_false ho
                simp only [beq_eq_false_iff_ne, ne_eq, Addr.mk.injEq, true_and, and_true]
                omega
              · have := beq_true ho
                simp [this]
        · cases h
      · rename_i e ht
        split at h
        · simp only [Option.some.injEq] at h
          subst h
          obtain ⟨b1, l1, k1, rfl, e1, f1⟩ := hx.slice_nil
          obtain ⟨b2, l2, k2, rfl, e2, f2⟩ := hy.slice_nil
          obtain ⟨rfl, rfl, rfl⟩ := f1 rfl
          simp [Op.equalIn, run_underlying ht, e2]
        · simp only [Option.some.injEq] at h
          subst h
          obtain ⟨b1, l1, k1, rfl, e1, f1⟩ := hx.slice_nil
          obtain ⟨b2, l2, k2, rfl, e2, f2⟩ := hy.slice_nil
          obtain ⟨rfl, rfl, rfl⟩ := f2 rfl
          cases b1 with
          | none => simp at e1; subst e1; simp [Op.equalIn, run_underlying ht]
          | some b1 => simp at e1; subst e1; simp [Op.equalIn, run_underlying ht]
        · simp only [Option.some.injEq] at h
          subst h
          obtain ⟨B, s, l, cap, _, _, _, _, rfl⟩ := hx.inv_sm
          obtain ⟨b2, l2, k2, rfl, e2, f2⟩ := hy.slice_nil
          obtain ⟨rfl, rfl, rfl⟩ := f2 rfl
          simp [Op.equalIn, run_underlying ht]
        · simp only [Option.some.injEq] at h
          subst h
          obtain ⟨B, s, l, cap, _, _, _, _, rfl⟩ := hy.inv_sm
          obtain ⟨b2, l2, k2, rfl, e2, f2⟩ := hx.slice_nil
          obtain ⟨rfl, rfl, rfl⟩ := f2 rfl
          simp [Op.equalIn, run_underlying ht]
        · cases h
      · rename_i e1 e2 ht
        split at h <;> simp only [Option.some.injEq, reduceCtorEq] at h <;> subst h
        · rw [hx.inv_m0, hy.inv_m0]
          simp [Op.equalIn, run_underlying ht]
        · obtain ⟨B, s, l, _, _, rfl⟩ := hy.inv_mp
          rw [hx.inv_m0]
          simp [Op.equalIn, run_underlying ht]
        · obtain ⟨B, s, l, _, _, rfl⟩ := hx.inv_mp
          rw [hy.inv_m0]
          simp [Op.equalIn, run_underlying ht]
      · rename_i e1 e2 e3 ht
        split at h <;> simp only [Option.some.injEq, reduceCtorEq] at h <;> subst h
        · rw [hx.inv_f0, hy.inv_f0]
          simp [Op.equalIn, run_underlying ht]
        · obtain ⟨a', k', rfl, _⟩ := hy.inv_fn
          rw [hx.inv_f0]
          simp [Op.equalIn, run_underlying ht]
        · obtain ⟨a', k', rfl, _⟩ := hx.inv_fn
          rw [hy.inv_f0]
          simp [Op.equalIn, run_underlying ht]
      · rename_i fs ht
        split at h
        · rename_i xs ys
          cases hs : P.stoodInHeld t with
          | true => simp [hs] at h
          | false =>
            simp only [hs, cond_false] at h
            obtain ⟨l, rfl, h1⟩ := Cells.of_ag hx
            obtain ⟨q, rfl, h2⟩ := Cells.of_ag hy
            have hf := fields_of ht
            rw [run_equalIn_struct w D t _ _ (by rw [hf]; exact ht) hs, hf]
            exact ih2 _ _ _ b h G l q h1 h2 D w (by omega)
        · cases h
      · cases h
    · intro fs xs ys b h G l q hl hq D w hD
      cases fs with
      | nil =>
        simp only [eqFs, Option.some.injEq] at h
        subst h
        simp [Op.eqFields]
      | cons f r =>
        simp only [eqFs] at h
        cases hn : (f.name == "_") with
        | true =>
          simp only [hn, cond_true] at h
          have hn' : f.name = "_" := by simpa using hn
          simp only [Op.eqFields]
          rw [if_neg (by simp [hn'])]
          exact ih2 _ _ _ b h G l q hl hq D w (by omega)
        | false =>
          simp only [hn, cond_false] at h
          have hn' : f.name ≠ "_" := by simpa using hn
          cases e1 : part P f.type xs f.offset with
          | none => simp [e1] at h
          | some u =>
            cases e2 : part P f.type ys f.offset with
            | none => simp [e1, e2] at h
            | some u' =>
              simp only [e1, e2] at h
              obtain ⟨c1, g1, g2⟩ := run_part (P := P) (w := w) hl e1
              obtain ⟨c2, g3, g4⟩ := run_part (P := P) (w := w) hq e2
              simp only [Op.eqFields]
              rw [if_pos hn']
              simp only [Sem.run_bind, g1, g3, Result.andThen_ok]
              cases e3 : eqT P d f.type u u' with
              | none => simp [e3] at h
              | some r1 =>
                rw [ih1 _ _ _ r1 e3 G c1 c2 g2 g4 D w (by omega)]
                simp only [Result.andThen_ok, Sem.run_ite]
                cases r1 with
                | false =>
                  simp only [e3, Option.some.injEq] at h
                  subst h
                  simp
                | true =>
                  simp only [e3] at h
                  simp only [Bool.not_true, Bool.false_eq_true, if_false]
                  exact ih2 _ _ _ b h G l q hl hq D w (by omega)

theorem eval_const {x : Operand} (h : isConst x = true) : (x matches .const _) = true := by cases x <;> first | rfl | cases h

/-- The step that a comparison is. -/
theorem exec_cmp {op : BinOp} {t yt : TypeId} {x y : Operand} {b : Bool} (hop : o.op = .binOp op t x y yt) (hb : op = .eql ∨ op = .neq) (hg : (eqGuard op t x y (a.eval x) (a.eval y)).run P w = .ok () w)
    (hni : ∀ k n k' n', ¬ (a.eval x = .int k n ∧ a.eval y = .int k' n')) (hns : ∀ p q, ¬ (a.eval x = .string p ∧ a.eval y = .string q)) (hnf : (∀ k n, a.eval x ≠ .float k n) ∧ ∀ k n n', a.eval x ≠ .complex k n n')
    (hr : (Op.equal t (a.eval x) (a.eval y)).run P w = .ok b w) : (execOp a.eval o).run P w = .ok (.value (.bool (if op = .eql then b else !b))) w := by
  simp only [execOp, hop, Sem.run_bind, hg, Result.andThen_ok]
  generalize a.eval x = cx at *
  generalize a.eval y = cy at *
  have key : (binOp op t cx cy).run P w = .ok (.bool (if op = .eql then b else !b)) w := by
    rcases hb with rfl | rfl
    · cases cx <;> cases cy <;> first
        | exact absurd ⟨rfl, rfl⟩ (hni _ _ _ _)
        | exact absurd ⟨rfl, rfl⟩ (hns _ _)
        | exact absurd rfl (hnf.1 _ _)
        | exact absurd rfl (hnf.2 _ _ _)
        | simp only [binOp, Sem.run_bind, hr, Result.andThen_ok, Sem.run_pure, if_true]
    · cases cx <;> cases cy <;> first
        | exact absurd ⟨rfl, rfl⟩ (hni _ _ _ _)
        | exact absurd ⟨rfl, rfl⟩ (hns _ _)
        | exact absurd rfl (hnf.1 _ _)
        | exact absurd rfl (hnf.2 _ _ _)
        | (simp only [binOp, Sem.run_bind, hr, Result.andThen_ok, Sem.run_pure, reduceCtorEq, if_false])
  rw [key]
  rfl

theorem guard_other {op : BinOp} {t : TypeId} {x y : Operand} {cx cy : Value} (h1 : ¬ (cx = .nilIface ∧ cy = .nilIface)) (h2 : ∀ p q, ¬ (cx = .agg p ∧ cy = .agg q)) : (eqGuard op t x y cx cy).run P w = .ok () w := by
  cases op <;> first
    | (simp [eqGuard]; done)
    | (cases cx <;> cases cy <;> first
        | exact absurd ⟨rfl, rfl⟩ h1
        | exact absurd ⟨rfl, rfl⟩ (h2 _ _)
        | (simp [eqGuard]; done))

theorem good_plain {v : V} (hv : good v = true) : (∀ s o, v ≠ .lp s o) ∧ v ≠ .u := by cases v <;> simp_all [good]
theorem isN0_eq {v : V} (hv : isN0 v = true) : v = .n0 := by cases v <;> simp_all [isN0]
theorem eq_nn {t : TypeId} {ms : Array (String × TypeId)} (D : Nat) (ht : P.underlying t = some (.interface ms)) : (Op.equalIn (D + 1) t .nilIface .nilIface).run P w = .ok true w := by simp [Op.equalIn, run_underlying ht]
theorem eq_ni {t q : TypeId} {x : Value} {ms : Array (String × TypeId)} (D : Nat) (ht : P.underlying t = some (.interface ms)) : (Op.equalIn (D + 1) t .nilIface (.iface q x)).run P w = .ok false w := by simp [Op.equalIn, run_underlying ht]
theorem eq_in {t q : TypeId} {x : Value} {ms : Array (String × TypeId)} (D : Nat) (ht : P.underlying t = some (.interface ms)) : (Op.equalIn (D + 1) t (.iface q x) .nilIface).run P w = .ok false w := by simp [Op.equalIn, run_underlying ht]
theorem eq_np {t e : TypeId} {b : Addr} (D : Nat) (ht : P.underlying t = some (.pointer e)) : (Op.equalIn (D + 1) t (.pointer none) (.pointer (some b))).run P w = .ok false w := by simp [Op.equalIn, run_underlying ht]
theorem eq_pn {t e : TypeId} {b : Addr} (D : Nat) (ht : P.underlying t = some (.pointer e)) : (Op.equalIn (D + 1) t (.pointer (some b)) (.pointer none)).run P w = .ok false w := by simp [Op.equalIn, run_underlying ht]

theorem guard_nil {op : BinOp} {t : TypeId} {x y : Operand} (hc : (isConst x || isConst y) = true) : (eqGuard op t x y .nilIface .nilIface).run P w = .ok () w := by
  cases op <;> cases x <;> cases y <;> first
    | (cases hc; done)
    | (simp [eqGuard]; done)

theorem op_cmp (h : Rel C vars nt G lb κ w a m) {op : BinOp} {t yt : TypeId} {x y : Operand} {p q : V} {b : Bool} (hop : o.op = .binOp op t x y yt) (hx : rdM false m x = some p) (hy : rdM false m y = some q) (hb : op = .eql ∨ op = .neq) (hni : ∀ k n k' n', ¬ (p = .i k n ∧ q = .i k' n')) (hns : ∀ s s', ¬ (p = .s s ∧ q = .s s'))
    (hv : cmpOp C.P t x y p q = some b) : OpOk C vars nt G lb κ w a m m o (.b (if op = .eql then b else !b)) := by
  have px := rd_peek h hx
  have py := rd_peek h hy
  -- values of the machine
  have fin : (∀ k n k' n', ¬ (a.eval x = .int k n ∧ a.eval y = .int k' n')) → (∀ s s', ¬ (a.eval x = .string s ∧ a.eval y = .string s')) → ((∀ k n, a.eval x ≠ .float k n) ∧ ∀ k n n', a.eval x ≠ .complex k n n') → (eqGuard op t x y (a.eval x) (a.eval y)).run C.P w = .ok () w → (Op.equal t (a.eval x) (a.eval y)).run C.P w = .ok b w →
      OpOk C vars nt G lb κ w a m m o (.b (if op = .eql then b else !b)) := fun h1 h2 h3 h4 h5 => .of_plain h (exec_cmp hop hb h4 h1 h2 h3 h5) (.b _) rfl
  have gen : (∀ s o, p ≠ .lp s o) → p ≠ .u → (∀ s o, q ≠ .lp s o) → q ≠ .u → (∀ cx cy, VRel G (down p) cx → VRel G (down q) cy → (eqGuard op t x y cx cy).run C.P w = .ok () w) → eqT C.P 100 t (down p) (down q) = some b → OpOk C vars nt G lb κ w a m m o (.b (if op = .eql then b else !b)) := by
    intro n1 n2 n3 n4 hg he
    rw [PeekRel.plain n1 n2] at px
    rw [PeekRel.plain n3 n4] at py
    have hnum : ∀ (v : V) (c : Value), VRel G (down v) c → (∀ k n, c = .int k n → v = .i k n) ∧ (∀ s, c = .string s → v = .s s) ∧ (∀ k n, c ≠ .float k n) ∧ ∀ k n n', c ≠ .complex k n n' := by
      intro v c hv
      generalize hd : down v = v' at hv
      cases hv <;> refine ⟨fun k n e => ?_, fun s e => ?_, fun k n e => ?_, fun k n n' e => ?_⟩ <;> cases e <;> cases v <;> simp only [down, reduceCtorEq] at hd <;> exact hd
    obtain ⟨a1, a2, a3, a4⟩ := hnum p _ px
    obtain ⟨b1, b2, _, _⟩ := hnum q _ py
    exact fin (fun k n k' n' e => hni k n k' n' ⟨a1 _ _ e.1, b1 _ _ e.2⟩) (fun s s' e => hns s s' ⟨a2 _ e.1, b2 _ e.2⟩) ⟨a3, a4⟩ (hg _ _ px py) ((eqT_ok C.P 100).1 _ _ _ b he G _ _ px py 10000 w (by omega))
  have oth : ∀ (v : V) c, VRel G (down v) c → (c = .nilIface → isN0 v = true) ∧ ∀ l, c = .agg l → isAg v = true := by
    intro v c hc
    generalize hd : down v = v' at hc
    cases hc <;> refine ⟨fun e => ?_, fun l e => ?_⟩ <;> cases e <;> cases v <;> simp only [down, reduceCtorEq] at hd <;> rfl
  have n0 := @isN0_eq
  unfold cmpOp at hv
  cases hgd : (good p && good q) with
  | false =>
    simp only [hgd, cond_false] at hv
    split at hv
    · split at hv
      · rename_i ht
        simp only [Option.some.injEq] at hv
        subst hv
        have e1 := (rd_vrel h hx rfl).inv_p0
        obtain ⟨B, _, e2⟩ := rd_lp h hy
        refine fin (by rw [e1]; simp) (by rw [e1]; simp) (by rw [e1]; simp) (by rw [e1, e2]; exact guard_other (by simp) (by simp)) ?_
        rw [e1, e2]
        exact eq_np 9999 ht
      · cases hv
    · split at hv
      · rename_i ht
        simp only [Option.some.injEq] at hv
        subst hv
        have e1 := (rd_vrel h hy rfl).inv_p0
        obtain ⟨B, _, e2⟩ := rd_lp h hx
        refine fin (by rw [e2]; simp) (by rw [e2]; simp) (by rw [e2]; simp) (by rw [e1, e2]; exact guard_other (by simp) (by simp)) ?_
        rw [e1, e2]
        exact eq_pn 9999 ht
      · cases hv
    · cases hv
  | true =>
    simp only [hgd, cond_true] at hv
    simp only [Bool.and_eq_true] at hgd
    obtain ⟨hgp, hgq⟩ := hgd
    have pg := @good_plain
    cases hn : (isN0 p && isN0 q) with
    | true =>
      simp only [hn, cond_true] at hv
      simp only [Bool.and_eq_true] at hn
      have := n0 hn.1
      subst this
      have := n0 hn.2
      subst this
      have e1 := (rd_vrel h hx rfl).inv_n0
      have e2 := (rd_vrel h hy rfl).inv_n0
      cases hc : (isConst x || isConst y) with
      | false => simp [hc] at hv
      | true =>
        simp only [hc, cond_true] at hv
        split at hv
        · rename_i ht
          simp only [Option.some.injEq] at hv
          subst hv
          refine fin (by rw [e1]; simp) (by rw [e1]; simp) (by rw [e1]; simp) (by rw [e1, e2]; exact guard_nil hc) ?_
          rw [e1, e2]
          exact eq_nn 9999 ht
        · cases hv
    | false =>
      simp only [hn, cond_false] at hv
      cases hn2 : (isN0 p || isN0 q) with
      | true =>
        simp only [hn2, cond_true] at hv
        split at hv
        · rename_i t' u
          split at hv
          · rename_i ht
            simp only [Option.some.injEq] at hv
            subst hv
            have e1 := (rd_vrel h hx rfl).inv_n0
            have e2 : ∃ x', a.eval y = .iface t' x' := by
              have hr := rd_vrel h hy rfl
              simp only [down] at hr
              generalize a.eval y = c at hr
              cases hr
              exact ⟨_, rfl⟩
            obtain ⟨x', e2⟩ := e2
            refine fin (by rw [e1]; simp) (by rw [e1]; simp) (by rw [e1]; simp) (by rw [e1, e2]; exact guard_other (by simp) (by simp)) ?_
            rw [e1, e2]
            exact eq_ni 9999 ht
          · cases hv
        · rename_i t' u
          split at hv
          · rename_i ht
            simp only [Option.some.injEq] at hv
            subst hv
            have e1 := (rd_vrel h hy rfl).inv_n0
            have e2 : ∃ x', a.eval x = .iface t' x' := by
              have hr := rd_vrel h hx rfl
              simp only [down] at hr
              generalize a.eval x = c at hr
              cases hr
              exact ⟨_, rfl⟩
            obtain ⟨x', e2⟩ := e2
            refine fin (by rw [e2]; simp) (by rw [e2]; simp) (by rw [e2]; simp) (by rw [e1, e2]; exact guard_other (by simp) (by simp)) ?_
            rw [e1, e2]
            exact eq_in 9999 ht
          · cases hv
        · cases hv
      | false =>
        simp only [hn2, cond_false] at hv
        simp only [Bool.or_eq_false_iff] at hn2
        cases hgt : (isAg p && C.P.eqGuardType C.P.depth t) with
        | true => simp [hgt] at hv
        | false =>
          simp only [hgt, cond_false] at hv
          refine gen (pg hgp).1 (pg hgp).2 (pg hgq).1 (pg hgq).2 (fun cx cy hx hy => ?_) hv
          obtain ⟨f1, f2⟩ := oth p cx hx
          by_cases hag : ∃ l l', cx = .agg l ∧ cy = .agg l'
          · obtain ⟨l, l', rfl, rfl⟩ := hag
            rw [f2 l rfl, Bool.true_and] at hgt
            exact run_eqGuard_agg w op t x y _ _ hgt
          · exact guard_other (fun e => by rw [f1 e.1] at hn2; cases hn2.1) (fun l l' e => hag ⟨l, l', e⟩)
end
end Go.Mu
end
section
/- Maps. -/
set_option linter.unusedSimpArgs false
set_option linter.unusedVariables false
set_option linter.constructorNameAsVariable false
namespace Go.Mu
section
variable {C : Cfg} {vars nt : Nat} {G G' : Gh} {lb lb' : Nat → Option Nat} {κ κ' : Nat → Bool} {w w' : World} {a : Act} {m m' : M} {o : Oper} {v : V} {P : Program}

theorem bytes_beq {x y : ByteArray} : (x == y) = true ↔ x = y := by
  rw [beq_toListBytes, ByteArray.toList_eq, ByteArray.toList_eq]
  constructor
  · intro h
    have h := eq_of_beq h
    obtain ⟨⟨x⟩⟩ := x
    obtain ⟨⟨y⟩⟩ := y
    simp at h
    rw [h]
  · intro h
    rw [h]
    simp

/-- An entry of a map. -/
def EntR (G : Gh) (t : V × V × Nat) (e : MapEntry) : Prop := VRel G t.1 e.key ∧ VRel G t.2.1 e.val ∧ e.born = t.2.2 ∧ pl t.2.1 = true ∧ scalar t.1 = true
def Ents (G : Gh) : List (V × V × Nat) → List MapEntry → Prop
  | [], [] => True
  | t :: r, e :: q => EntR G t e ∧ Ents G r q
  | _, _ => False
theorem Ents.len : ∀ {es : List (V × V × Nat)} {l : List MapEntry}, Ents G es l → l.length = es.length
  | [], [], _ => rfl
  | t :: r, e :: q, h => by simp [Ents.len h.2]
  | [], _ :: _, h => h.elim
  | _ :: _, [], h => h.elim
theorem Ents.get : ∀ {es : List (V × V × Nat)} {l : List MapEntry}, Ents G es l → ∀ (j : Nat) t, es[j]? = some t → ∃ e, l[j]? = some e ∧ EntR G t e
  | [], [], _, j, t, h => by simp at h
  | t :: r, e :: q, h, j, u, hj => by
    cases j with
    | zero => simp at hj; subst hj; exact ⟨e, by simp, h.1⟩
    | succ j => simpa using Ents.get h.2 j u (by simpa using hj)
  | [], _ :: _, h, _, _, _ => h.elim
  | _ :: _, [], h, _, _, _ => h.elim
theorem Ents.of : ∀ {es : List (V × V × Nat)} {l : List MapEntry}, l.length = es.length → (∀ (j : Nat) t, es[j]? = some t → ∃ e, l[j]? = some e ∧ EntR G t e) → Ents G es l
  | [], [], _, _ => trivial
  | t :: r, e :: q, h, f => by
    refine ⟨?_, Ents.of (by simpa using h) fun j u hj => by simpa using f (j + 1) u (by simpa using hj)⟩
    obtain ⟨e', h1, h2⟩ := f 0 t (by simp)
    simp at h1
    exact h1 ▸ h2
  | [], _ :: _, h, _ => by simp at h
  | _ :: _, [], h, _ => by simp at h
theorem ents_of_obj {B s l id c : Nat} {es : List (V × V × Nat)} (h : ObjRel C G w B s l id (.map es c)) : ∃ ces : Array MapEntry, w.heap[B]? = some (.map ces c) ∧ Ents G es ces.toList := by
  obtain ⟨ces, h1, h2, h3⟩ := h
  refine ⟨ces, h1, Ents.of (by simpa using h2) fun j t hj => ?_⟩
  obtain ⟨k, v, b⟩ := t
  obtain ⟨e, g1, g2, g3, g4, g5, g6⟩ := h3 j k v b hj
  exact ⟨e, by rw [Array.getElem?_toList]; exact g1, g2, g3, g4, g5, g6⟩
theorem obj_of_ents {B s l id c : Nat} {es : List (V × V × Nat)} {ces : Array MapEntry} (h1 : w.heap[B]? = some (.map ces c)) (h2 : Ents G es ces.toList) : ObjRel C G w B s l id (.map es c) := by
  refine ⟨ces, h1, by have := h2.len; simpa using this, fun j k v b hj => ?_⟩
  obtain ⟨e, g1, g2⟩ := h2.get j (k, v, b) hj
  exact ⟨e, by rw [← Array.getElem?_toList]; exact g1, g2⟩

theorem obj_map (h : Rel C vars nt G lb κ w a m) {id c : Nat} {es : List (V × V × Nat)} (hg : m.st.get id = some (.map es c)) {B s l : Nat} (hob : G.ob id = some (B, s, l)) :
    ∃ ces : Array MapEntry, w.heap[B]? = some (.map ces c) ∧ Ents G es ces.toList ∧ G.own B = some (.ob id) ∧ id < m.st.nx := by
  rcases h.heap.obj id _ hg with ⟨B', s', l', g1, g2, g3, g4⟩ | g
  · rw [hob] at g1; cases g1
    obtain ⟨ces, q1, q2⟩ := ents_of_obj g4
    exact ⟨ces, q1, q2, g2, g3⟩
  · cases g

theorem keyOf_kind {kt : TypeId} {k : V} (h : keyOf P kt k = true) : ∃ d, P.underlying kt = some d ∧ scalar k = true ∧ ((∃ q, d = .int q) ∨ d = .string ∨ d = .bool) ∧
    ∀ (G : Gh) (ck : Value) (k' : V) (ck' : Value) (b : Bool), VRel G k ck → VRel G k' ck' → sameS k k' = some b → Instr.sameNow d ck ck' = some b ∧ (b = true → ck = ck') := by
  unfold keyOf at h
  split at h
  · rename_i q kk n hd
    refine ⟨_, hd, rfl, .inl ⟨_, rfl⟩, fun G ck k' ck' b h1 h2 h3 => ?_⟩
    cases k' <;> simp only [sameS, reduceCtorEq] at h3
    rename_i k2 n2
    cases hk : decide (kk = k2) with
    | false => simp [hk] at h3
    | true =>
      simp only [hk, cond_true, Option.some.injEq] at h3
      have hk := of_decide_eq_true hk
      subst hk
      rw [h1.inv_i, h2.inv_i]
      refine ⟨by simp [Instr.sameNow, h3], fun e => ?_⟩
      rw [e] at h3
      simp at h3
      rw [h3]
  · rename_i z hd
    refine ⟨_, hd, rfl, .inr (.inl rfl), fun G ck k' ck' b h1 h2 h3 => ?_⟩
    cases k' <;> simp only [sameS, reduceCtorEq, Option.some.injEq] at h3
    rw [h1.inv_s, h2.inv_s]
    refine ⟨by simp [Instr.sameNow, h3], fun e => ?_⟩
    rw [e] at h3
    rw [bytes_beq.1 h3]
  · rename_i z hd
    refine ⟨_, hd, rfl, .inr (.inr rfl), fun G ck k' ck' b h1 h2 h3 => ?_⟩
    cases k' <;> simp only [sameS, reduceCtorEq, Option.some.injEq] at h3
    rw [h1.inv_b, h2.inv_b]
    refine ⟨by simp [Instr.sameNow, h3], fun e => ?_⟩
    rw [e] at h3
    have := eq_of_beq h3
    rw [this]
  · cases h

/-- What a map has of a key. -/
theorem findNow_ok {d : TypeDesc} {k : V} {ck : Value} (hk : ∀ (k' : V) (ck' : Value) (b : Bool), VRel G k' ck' → sameS k k' = some b → Instr.sameNow d ck ck' = some b ∧ (b = true → ck = ck')) :
    ∀ (es : List (V × V × Nat)) (l : List MapEntry) (i : Nat) (r : Option (Nat × V)), Ents G es l → findK k es i = some r →
      (r = none → Instr.findNow d ck l i = some none) ∧ (∀ j u, r = some (j, u) → ∃ t e n, j = i + n ∧ es[n]? = some t ∧ l[n]? = some e ∧ EntR G t e ∧ u = t.2.1 ∧ e.key = ck ∧ Instr.findNow d ck l i = some (some (j, e.val)))
  | [], [], i, r, _, h => by
    simp only [findK, Option.some.injEq] at h
    subst h
    exact ⟨fun _ => rfl, fun j u e => by cases e⟩
  | (k', u', b') :: q, e :: l, i, r, he, h => by
    simp only [findK] at h
    cases hs : sameS k k' with
    | none => simp [hs] at h
    | some b =>
      obtain ⟨h1, h2⟩ := hk k' e.key b he.1.1 hs
      cases b with
      | true =>
        simp only [hs, Option.some.injEq] at h
        subst h
        refine ⟨fun e => (by cases e), fun j u e' => ?_⟩
        cases e'
        exact ⟨_, e, 0, rfl, rfl, rfl, he.1, rfl, (h2 rfl).symm, by simp [Instr.findNow, h1]⟩
      | false =>
        simp only [hs] at h
        obtain ⟨g1, g2⟩ := findNow_ok hk q l (i + 1) r he.2 h
        refine ⟨fun e' => by simp only [Instr.findNow, h1]; exact g1 e', fun j u e' => ?_⟩
        obtain ⟨t, e2, n, q1, q2, q3, q4, q5, q6, q7⟩ := g2 j u e'
        exact ⟨t, e2, n + 1, by omega, by simpa using q2, by simpa using q3, q4, q5, q6, by simp only [Instr.findNow, h1]; exact q7⟩
  | [], _ :: _, _, _, h, _ => h.elim
  | _ :: _, [], _, _, h, _ => h.elim

theorem run_findKey {kt : TypeId} {d : TypeDesc} {ck : Value} {l : List MapEntry} {r : Option (Nat × Value)} (hd : P.underlying kt = some d) (h : Instr.findNow d ck l 0 = some r) : (Instr.findKey kt ck l).run P w = .ok r w := by
  simp only [Instr.findKey, Sem.run_bind, run_underlying hd, Result.andThen_ok, h, Sem.run_pure]
theorem run_checkKey {kt : TypeId} {d : TypeDesc} {ck : Value} {b : Bool} (D : Nat) (hd : P.underlying kt = some d) (h : (∃ q, d = .int q) ∨ d = .string ∨ d = .bool) : (Instr.checkKey b (D + 1) kt ck).run P w = .ok () w := by
  rcases h with ⟨q, rfl⟩ | rfl | rfl <;> simp [Instr.checkKey, run_underlying hd]
theorem run_getMap {r c : Nat} {ces : Array MapEntry} (h : w.heap[r]? = some (.map ces c)) : (getObj r).run P w = .ok (.map ces c) w := by simp [getObj, Sem.run, h]
theorem run_setMap {r c : Nat} {ces : Array MapEntry} {ob : Go.Obj} (h : w.heap[r]? = some (.map ces c)) : (setObj r ob).run P w = .ok () (w.upd r ob) := by simp [setObj, Sem.run, h, World.upd]

theorem give_nil (G : Gh) (x : Own) : G.give [] x = G := by unfold Gh.give; simp

/-- A map turned. -/
theorem op_mapTurn (h : Rel C vars nt G lb κ w a m) {id c c' B s l : Nat} {es es' : List (V × V × Nat)} {ces ces' : Array MapEntry} (hg : m.st.get id = some (.map es c)) (hob : G.ob id = some (B, s, l)) (hown : G.own B = some (.ob id)) (hid : id < m.st.nx) (hB : w.heap[B]? = some (.map ces c))
    (he : Ents G es' ces'.toList) {nx : Next} {u : V} {cv : Value} (hr : (execOp a.eval o).run C.P w = .ok nx (w.upd B (.map ces' c'))) (hnx : nx = .value cv ∨ (nx = .skip ∧ cv = undef)) (hu : OutRel G lb (takes vars κ (uses o.op)) m u cv) (hp : pl u = true) :
    OpOk C vars nt G lb κ w a m { m with st := m.st.put id (.map es' c') } o u := by
  obtain ⟨r1, r2, r3⟩ := Rel.updOb (κ' := takes vars κ (uses o.op)) (x := .map es' c') (l := []) h (takes_le (uses o.op)) (fun B hB => nomatch hB) hob hown hid (ob := .map ces' c') (by
    rw [give_nil]
    exact obj_of_ents (World.upd_same (lt_of_block hB)) he)
  rw [give_nil] at r1 r3
  refine ⟨_, G, lb, cv, nx, hr, hnx, r1, ?_, by rw [rs_pl u cv hp]; exact fun B hB => (nomatch hB), r2, r3⟩
  refine srel_split (P := fun v' => u = v' → OutRel G lb (takes vars κ (uses o.op)) { m with st := m.st.put id (.map es' c') } u cv) ?_ ?_ ?_ rfl (v := u)
  · intro s o e _; subst e; exact hu
  · intro e _; subst e; trivial
  · intro h1 h2 _
    rw [OutRel.plain h1 h2] at hu ⊢
    exact ⟨hu.1, hu.2.1, by rw [rs_pl u cv hp]; exact fun B hB => (nomatch hB)⟩

theorem sameBits_scalar {k : V} {ck : Value} (h : VRel G k ck) (hs : scalar k = true) : Instr.sameBits 10000 ck ck = true := by
  cases k <;> simp only [scalar, Bool.false_eq_true] at hs
  · rw [h.inv_b]; simp [Instr.sameBits]
  · rw [h.inv_i]; simp [Instr.sameBits]
  · rw [h.inv_s]; simp [Instr.sameBits]; exact bytes_beq.2 rfl

theorem setK_get : ∀ (es : List (V × V × Nat)) (i : Nat) (k v : V) (j : Nat), (setK es i k v)[j]? = if j = i then (es[j]?).map (fun t => (k, v, t.2.2)) else es[j]?
  | [], i, k, v, j => by simp [setK]
  | (a, b, c) :: r, 0, k, v, j => by cases j <;> simp [setK]
  | e :: r, i + 1, k, v, j => by
    cases j with
    | zero => simp [setK]
    | succ j => simp [setK, setK_get r i k v j]
theorem setK_length : ∀ (es : List (V × V × Nat)) (i : Nat) (k v : V), (setK es i k v).length = es.length
  | [], i, k, v => rfl
  | (a, b, c) :: r, 0, k, v => rfl
  | e :: r, i + 1, k, v => by simp [setK, setK_length r i k v]

theorem op_mapUpdate (h : Rel C vars nt G lb κ w a m) {t kt et : TypeId} {x y z : Operand} {id c : Nat} {es : List (V × V × Nat)} {k u : V} (hop : o.op = .mapUpdate t x y z ∨ o.op = .insert t x y z) (ht : C.P.underlying t = some (.map kt et)) (hx : rdM false m x = some (.mp id)) (hy : rdM false m y = some k) (hz : rdM false m z = some u)
    (hk : keyOf C.P kt k = true) (hs : stor u = true) (hg : m.st.get id = some (.map es c)) {r : Option (Nat × V)} (hf : findK k es 0 = some r) :
    OpOk C vars nt G lb κ w a m { m with st := m.st.put id (match r with | some (i, _) => .map (setK es i k (down u)) c | none => .map (es ++ [(k, down u, c)]) (c + 1)) } o .u := by
  obtain ⟨B, s, l, q1, q2, q3⟩ := rd_mp h hx
  obtain ⟨ces, g1, g2, g3, g4⟩ := obj_map h hg q2
  obtain ⟨d, k1, k2, k3, k4⟩ := keyOf_kind hk
  have hkp : pl k = true := by cases k <;> simp_all [scalar, pl]
  have hkg : good k = true := by cases k <;> simp_all [scalar, good]
  have hkr : VRel G k (a.eval y) := by
    have := rd_vrel h hy hkg
    rwa [down_pl k hkp] at this
  have hur := rd_vrel h hz (stor_good hs)
  obtain ⟨f1, f2⟩ := findNow_ok (k4 G (a.eval y) · · · hkr) es ces.toList 0 r g2 hf
  have key : ∀ (ces' : Array MapEntry) (c' : Nat) (es' : List (V × V × Nat)), (Instr.mapUpdate t (.map (some B)) (a.eval y) (a.eval z)).run C.P w = .ok () (w.upd B (.map ces' c')) → Ents G es' ces'.toList → OpOk C vars nt G lb κ w a m { m with st := m.st.put id (.map es' c') } o .u := by
    intro ces' c' es' hr he
    refine op_mapTurn h hg q2 g3 g4 g1 he (nx := .skip) (cv := undef) ?_ (.inr ⟨rfl, rfl⟩) trivial rfl
    rcases hop with e | e <;> simp only [execOp, e, q3, Sem.run_bind, hr, Result.andThen_ok, Sem.run_pure]
  cases r with
  | none =>
    have hn := f1 rfl
    refine key (ces.push { key := a.eval y, val := a.eval z, born := c }) (c + 1) _ ?_ ?_
    · simp only [Instr.mapUpdate, Sem.run_bind, run_underlying ht, Result.andThen_ok, run_getMap g1, run_checkKey 9999 k1 k3, run_findKey k1 hn, run_setMap g1]
    · refine Ents.of (by have := g2.len; simp at this; simp [this]) fun j t hj => ?_
      have hl := g2.len
      rw [List.getElem?_append] at hj
      rw [Array.toList_push, List.getElem?_append, hl]
      split at hj
      · rename_i e; rw [if_pos e]; exact g2.get j t hj
      · rename_i e
        rw [if_neg e]
        cases hjj : j - es.length with
        | zero =>
          rw [hjj] at hj
          simp at hj
          subst hj
          exact ⟨_, rfl, hkr, hur, rfl, pl_down u, k2⟩
        | succ n => rw [hjj] at hj; simp at hj
  | some iv =>
    obtain ⟨i, v0⟩ := iv
    obtain ⟨t0, e0, n, p1, p2, p3, p4, p5, p6, p7⟩ := f2 i v0 rfl
    have : i = n := by omega
    subst this
    refine key (ces.modify i fun e => { e with key := a.eval y, val := a.eval z }) c _ ?_ ?_
    · have hget : ces[i]? = some e0 := by rw [← Array.getElem?_toList]; exact p3
      have hsb := sameBits_scalar hkr k2
      simp only [Instr.mapUpdate, Sem.run_bind, run_underlying ht, Result.andThen_ok, run_getMap g1, run_checkKey 9999 k1 k3, run_findKey k1 p7, hget, Option.map_some, Option.getD_some, p6, Instr.keyThatStays, hsb, if_true, Sem.run_pure, run_setMap g1]
    · refine Ents.of (by have := g2.len; simp at this; simp [this, setK_length]) fun j t hj => ?_
      rw [setK_get] at hj
      rw [Array.getElem?_toList, Array.getElem?_modify]
      by_cases e : j = i
      · subst e
        rw [if_pos rfl] at hj
        rw [p2] at hj
        simp at hj
        subst hj
        rw [if_pos rfl, ← Array.getElem?_toList, p3]
        exact ⟨_, rfl, hkr, hur, p4.2.2.1, pl_down u, k2⟩
      · rw [if_neg e] at hj
        rw [if_neg (Ne.symm e), ← Array.getElem?_toList]
        exact g2.get j t hj
end
end Go.Mu
end
section
/- Maps: looked up, shortened, walked; lengths. -/
set_option linter.unusedSimpArgs false
set_option linter.unusedVariables false
set_option linter.constructorNameAsVariable false
namespace Go.Mu
section
variable {C : Cfg} {vars nt : Nat} {G G' : Gh} {lb lb' : Nat → Option Nat} {κ κ' : Nat → Bool} {w w' : World} {a : Act} {m m' : M} {o : Oper} {v : V} {P : Program}

theorem scalar_good {k : V} (h : scalar k = true) : good k = true ∧ pl k = true := by cases k <;> simp_all [scalar, good, pl]
theorem key_rel (h : Rel C vars nt G lb κ w a m) {mv : Bool} {y : Operand} {k : V} (hy : rdM mv m y = some k) (hs : scalar k = true) : VRel G k (a.eval y) := by
  obtain ⟨h1, h2⟩ := scalar_good hs
  have := rd_vrel h hy h1
  rwa [down_pl k h2] at this

theorem pair_rel {u : V} {c : Value} {b : Bool} (h : VRel G u c) (p : pl u = true) : VRel G (.tu [u, .b b]) (.tuple #[c, .bool b]) ∧ pl (.tu [u, .b b]) = true := by
  refine ⟨?_, by simp [pl, pls, p]⟩
  have := VRel.tu (G := G) (cs := [u, .b b]) (l := [c, .bool b]) rfl (fun j v x hv hx => by
    cases j with
    | zero => simp at hv hx; subst hv; subst hx; exact h
    | succ j => cases j with
      | zero => simp at hv hx; subst hv; subst hx; exact .b b
      | succ j => simp at hv)
  exact this

theorem op_lookup_nil (h : Rel C vars nt G lb κ w a m) {t kt e : TypeId} {x y : Operand} {ok : Bool} {k z : V} (hop : o.op = .lookup t x y ok) (ht : C.P.underlying t = some (.map kt e)) (hx : rdM false m x = some .m0) (hy : rdM false m y = some k) (hk : keyOf C.P kt k = true) (hz : zeroT C.P e = some z) :
    OpOk C vars nt G lb κ w a m m o (bif ok then .tu [z, .b false] else z) := by
  obtain ⟨d, k1, k2, k3, k4⟩ := keyOf_kind hk
  obtain ⟨i, c, h1, h2, h3, h4, h5⟩ := zeroT_ok hz G
  have ex := (rd_vrel h hx rfl).inv_m0
  have hn : Instr.findNow d (a.eval y) ([] : List MapEntry) 0 = some none := rfl
  have hfk := run_findKey (P := C.P) (w := w) (ck := a.eval y) k1 hn
  have hrun : (execOp a.eval o).run C.P w = .ok (.value (if ok then .tuple #[c, .bool false] else c)) w := by
    simp only [execOp, hop, ex, Instr.lookup, Sem.run_bind, run_underlying ht, Result.andThen_ok, Sem.run_pure, run_checkKey 9999 k1 k3, hfk, run_zero h1 h2]
  cases ok with
  | true => exact .of_plain h hrun (pair_rel h3 h4).1 (pair_rel h3 h4).2
  | false => exact .of_plain h hrun h3 h4
theorem op_lookup (h : Rel C vars nt G lb κ w a m) {t kt e : TypeId} {x y : Operand} {ok : Bool} {k z : V} {id cl : Nat} {es : List (V × V × Nat)} {r : Option (Nat × V)} (hop : o.op = .lookup t x y ok) (ht : C.P.underlying t = some (.map kt e)) (hx : rdM false m x = some (.mp id)) (hy : rdM false m y = some k) (hk : keyOf C.P kt k = true) (hz : zeroT C.P e = some z)
    (hg : m.st.get id = some (.map es cl)) (hf : findK k es 0 = some r) :
    OpOk C vars nt G lb κ w a m m o (match r with | some (_, u) => (bif ok then .tu [u, .b true] else u) | none => bif ok then .tu [z, .b false] else z) := by
  obtain ⟨d, k1, k2, k3, k4⟩ := keyOf_kind hk
  obtain ⟨i, c, h1, h2, h3, h4, h5⟩ := zeroT_ok hz G
  obtain ⟨B, s, l, q1, q2, q3⟩ := rd_mp h hx
  obtain ⟨ces, g1, g2, g3, g4⟩ := obj_map h hg q2
  have hkr := key_rel h hy k2
  obtain ⟨f1, f2⟩ := findNow_ok (k4 G (a.eval y) · · · hkr) es ces.toList 0 r g2 hf
  cases r with
  | none =>
    have hfk := run_findKey (P := C.P) (w := w) k1 (f1 rfl)
    have hrun : (execOp a.eval o).run C.P w = .ok (.value (if ok then .tuple #[c, .bool false] else c)) w := by
      simp only [execOp, hop, q3, Instr.lookup, Sem.run_bind, run_underlying ht, Result.andThen_ok, Sem.run_pure, run_getMap g1, run_checkKey 9999 k1 k3, hfk, run_zero h1 h2]
    cases ok with
    | true => exact .of_plain h hrun (pair_rel h3 h4).1 (pair_rel h3 h4).2
    | false => exact .of_plain h hrun h3 h4
  | some iv =>
    obtain ⟨j, u⟩ := iv
    obtain ⟨t0, e0, n, p1, p2, p3, p4, p5, p6, p7⟩ := f2 j u rfl
    have hfk := run_findKey (P := C.P) (w := w) k1 p7
    have hrun : (execOp a.eval o).run C.P w = .ok (.value (if ok then .tuple #[e0.val, .bool true] else e0.val)) w := by
      simp only [execOp, hop, q3, Instr.lookup, Sem.run_bind, run_underlying ht, Result.andThen_ok, Sem.run_pure, run_getMap g1, run_checkKey 9999 k1 k3, hfk]
    have hu : VRel G u e0.val := by rw [p5]; exact p4.2.1
    have hp : pl u = true := by rw [p5]; exact p4.2.2.2.1
    cases ok with
    | true => exact .of_plain h hrun (pair_rel hu hp).1 (pair_rel hu hp).2
    | false => exact .of_plain h hrun hu hp

/-- The step that a builtin is. -/
theorem exec_builtin {c : Call} {b : Builtin} {nx : Next} (hop : o.op = .call c) (hc : c.callee = .builtin b) {l : List Operand} (has : c.args.toList = l) (hr : ∀ consts, (builtin b c.argTypes o.type consts (l.map a.eval).toArray).run P w = .ok nx w') :
    (execOp a.eval o).run P w = .ok nx w' := by
  simp only [execOp, hop, resolve, hc, Sem.run_bind, Sem.run_pure, Result.andThen_ok, invoke]
  have : c.args.map a.eval = (l.map a.eval).toArray := by rw [← has]; apply Array.ext'; simp
  rw [this]
  exact hr _
theorem tuple_nil : VRel G (.tu []) (.tuple #[]) := .tu (l := []) rfl (fun j v x h => by simp at h)
theorem argT {c : Call} {t : TypeId} {r : List TypeId} (h : c.argTypes.toList = t :: r) : c.argTypes[0]? = some t := by rw [← Array.getElem?_toList, h]; rfl

theorem delK_eq : ∀ (es : List (V × V × Nat)) (i : Nat), delK es i = es.eraseIdx i
  | [], i => by simp [delK]
  | e :: r, 0 => rfl
  | e :: r, i + 1 => by simp [delK, delK_eq r i]
theorem Ents.erase : ∀ {es : List (V × V × Nat)} {l : List MapEntry}, Ents G es l → ∀ i, Ents G (es.eraseIdx i) (l.eraseIdx i)
  | [], [], h, i => trivial
  | t :: r, e :: q, h, 0 => h.2
  | t :: r, e :: q, h, i + 1 => ⟨h.1, Ents.erase h.2 i⟩
  | [], _ :: _, h, _ => h.elim
  | _ :: _, [], h, _ => h.elim

theorem op_delete (h : Rel C vars nt G lb κ w a m) {c : Call} {t kt e : TypeId} {tr : List TypeId} {x y : Operand} {k : V} {id cl : Nat} {es : List (V × V × Nat)} {r : Option (Nat × V)} (hop : o.op = .call c) (hc : c.callee = .builtin .delete) (has : c.args.toList = [x, y]) (hat : c.argTypes.toList = t :: tr) (ht : C.P.underlying t = some (.map kt e)) (hx : rdM false m x = some (.mp id)) (hy : rdM false m y = some k) (hk : keyOf C.P kt k = true)
    (hg : m.st.get id = some (.map es cl)) (hf : findK k es 0 = some r) :
    OpOk C vars nt G lb κ w a m { m with st := m.st.put id (.map (match r with | some (i, _) => delK es i | none => es) cl) } o (.tu []) := by
  obtain ⟨d, k1, k2, k3, k4⟩ := keyOf_kind hk
  obtain ⟨B, s, l, q1, q2, q3⟩ := rd_mp h hx
  obtain ⟨ces, g1, g2, g3, g4⟩ := obj_map h hg q2
  have hkr := key_rel h hy k2
  obtain ⟨f1, f2⟩ := findNow_ok (k4 G (a.eval y) · · · hkr) es ces.toList 0 r g2 hf
  have fin : ∀ (ces' : Array MapEntry) (es' : List (V × V × Nat)), (Builtin.delete_ c.argTypes o.type #[.map (some B), a.eval y]).run C.P w = .ok (.tuple #[]) (w.upd B (.map ces' cl)) → Ents G es' ces'.toList → OpOk C vars nt G lb κ w a m { m with st := m.st.put id (.map es' cl) } o (.tu []) := by
    intro ces' es' hr he
    refine op_mapTurn h hg q2 g3 g4 g1 he (nx := .value (.tuple #[])) (cv := .tuple #[]) ?_ (.inl rfl) (out_of_vrel tuple_nil rfl) rfl
    refine exec_builtin hop hc has fun consts => ?_
    simp only [builtin, List.map_cons, List.map_nil, q3, Sem.run_bind, hr, Result.andThen_ok, Sem.run_pure]
  have ha0 := argT hat
  cases r with
  | none =>
    have hfk := run_findKey (P := C.P) (w := w) k1 (f1 rfl)
    refine fin ces es ?_ g2
    simp only [Builtin.delete_, ha0, Sem.run_bind, run_underlying ht, Result.andThen_ok, run_getMap g1, run_checkKey 9999 k1 k3, hfk, run_setMap g1, Sem.run_pure, List.getElem?_toArray, List.getElem?_cons_zero, List.getElem?_cons_succ]
  | some iv =>
    obtain ⟨j, u⟩ := iv
    obtain ⟨t0, e0, n, p1, p2, p3, p4, p5, p6, p7⟩ := f2 j u rfl
    have hfk := run_findKey (P := C.P) (w := w) k1 p7
    refine fin (ces.eraseIdxIfInBounds j) (delK es j) ?_ ?_
    · simp only [Builtin.delete_, ha0, Sem.run_bind, run_underlying ht, Result.andThen_ok, run_getMap g1, run_checkKey 9999 k1 k3, hfk, run_setMap g1, Sem.run_pure, List.getElem?_toArray, List.getElem?_cons_zero, List.getElem?_cons_succ]
    · rw [delK_eq]
      have : (ces.eraseIdxIfInBounds j).toList = ces.toList.eraseIdx j := by simp
      rw [this]
      exact g2.erase j
theorem op_delete_nil (h : Rel C vars nt G lb κ w a m) {c : Call} {t kt e : TypeId} {tr : List TypeId} {x y : Operand} {k : V} (hop : o.op = .call c) (hc : c.callee = .builtin .delete) (has : c.args.toList = [x, y]) (hat : c.argTypes.toList = t :: tr) (ht : C.P.underlying t = some (.map kt e)) (hx : rdM false m x = some .m0) (hk : keyOf C.P kt k = true) :
    OpOk C vars nt G lb κ w a m m o (.tu []) := by
  obtain ⟨d, k1, k2, k3, k4⟩ := keyOf_kind hk
  have ex := (rd_vrel h hx rfl).inv_m0
  have ha0 := argT hat
  refine .of_plain h (c := .tuple #[]) ?_ tuple_nil rfl
  refine exec_builtin hop hc has fun consts => ?_
  simp only [builtin, List.map_cons, List.map_nil, ex, Builtin.delete_, ha0, Sem.run_bind, run_underlying ht, Result.andThen_ok, run_checkKey 9999 k1 k3, Sem.run_pure, List.getElem?_toArray, List.getElem?_cons_zero, List.getElem?_cons_succ]

/-- Lengths. -/
theorem op_len (h : Rel C vars nt G lb κ w a m) {c : Call} {t : TypeId} {tr : List TypeId} {x : Operand} {n : Nat} (hop : o.op = .call c) (hc : c.callee = .builtin .len) (has : c.args.toList = [x]) (hat : c.argTypes.toList = t :: tr) (hr : (Builtin.len_ c.argTypes o.type #[a.eval x]).run C.P w = .ok (goInt n) w) :
    OpOk C vars nt G lb κ w a m m o (.i .i64 n) := by
  refine .of_plain h (c := goInt n) ?_ (.i _ _) rfl
  refine exec_builtin hop hc has fun consts => ?_
  simp only [builtin, List.map_cons, List.map_nil, Sem.run_bind, hr, Result.andThen_ok, Sem.run_pure]
theorem len_str {ts : Array TypeId} {t ty : TypeId} {z : ByteArray} (h0 : ts[0]? = some t) (ht : P.underlying t = some .string) : (Builtin.len_ ts ty #[.string z]).run P w = .ok (goInt z.size) w := by
  simp [Builtin.len_, h0, run_underlying ht]
theorem len_arr {ts : Array TypeId} {t ty e : TypeId} {n : Nat} {c : Value} (h0 : ts[0]? = some t) (ht : P.underlying t = some (.array n e)) : (Builtin.len_ ts ty #[c]).run P w = .ok (goInt n) w := by
  simp [Builtin.len_, h0, run_underlying ht]
theorem len_slice {ts : Array TypeId} {t ty e : TypeId} {n k : Nat} {b : Option Addr} (h0 : ts[0]? = some t) (ht : P.underlying t = some (.slice e)) : (Builtin.len_ ts ty #[.slice b n k]).run P w = .ok (goInt n) w := by
  simp [Builtin.len_, h0, run_underlying ht]
theorem len_m0 {ts : Array TypeId} {t ty e e' : TypeId} (h0 : ts[0]? = some t) (ht : P.underlying t = some (.map e e')) : (Builtin.len_ ts ty #[.map none]).run P w = .ok (goInt 0) w := by
  simp [Builtin.len_, h0, run_underlying ht]
theorem len_map {ts : Array TypeId} {t ty e e' : TypeId} {B c : Nat} {ces : Array MapEntry} (h0 : ts[0]? = some t) (ht : P.underlying t = some (.map e e')) (hB : w.heap[B]? = some (.map ces c)) : (Builtin.len_ ts ty #[.map (some B)]).run P w = .ok (goInt ces.size) w := by
  simp [Builtin.len_, h0, run_underlying ht, run_getMap hB]

/-- The most and the least of numbers. -/
theorem mm_max : ∀ (r : List V) (k : IntKind) (p : Int) (u : V) (l : List Value), mm true (.i k p) r = some u → l.length = r.length → (∀ (j : Nat) v c, r[j]? = some v → l[j]? = some c → VRel G (down v) c) → ∃ n, u = .i k n ∧ (l.foldlM Builtin.max2 (.int k p)).run P w = .ok (.int k n) w
  | [], k, p, u, l, h, hl, hr => by
    simp only [mm, Option.some.injEq] at h
    have : l = [] := List.length_eq_zero_iff.1 hl
    subst this
    exact ⟨p, h.symm, rfl⟩
  | v :: r, k, p, u, l, h, hl, hr => by
    cases l with
    | nil => simp at hl
    | cons c q =>
      cases v <;> simp only [mm, reduceCtorEq] at h
      rename_i k2 n2
      have h0 := hr 0 _ c rfl rfl
      simp only [down] at h0
      have hc := h0.inv_i
      subst hc
      obtain ⟨n, e1, e2⟩ := mm_max r k _ u q h (by simpa using hl) (fun j v c hv hc => hr (j + 1) v c (by simpa using hv) (by simpa using hc))
      refine ⟨n, e1, ?_⟩
      simp only [List.foldlM_cons, Sem.run_bind]
      have : (Builtin.max2 (.int k p) (.int k2 n2)).run P w = .ok (.int k (bif decide (n2 > p) then n2 else p)) w := by
        simp only [Builtin.max2, Sem.run_pure]
        cases hd : decide (n2 > p)
        · rw [if_neg (by simpa using hd)]; rfl
        · rw [if_pos (by simpa using hd)]; rfl
      rw [this]
      exact e2
theorem mm_min : ∀ (r : List V) (k : IntKind) (p : Int) (u : V) (l : List Value), mm false (.i k p) r = some u → l.length = r.length → (∀ (j : Nat) v c, r[j]? = some v → l[j]? = some c → VRel G (down v) c) → ∃ n, u = .i k n ∧ (l.foldlM Builtin.min2 (.int k p)).run P w = .ok (.int k n) w
  | [], k, p, u, l, h, hl, hr => by
    simp only [mm, Option.some.injEq] at h
    have : l = [] := List.length_eq_zero_iff.1 hl
    subst this
    exact ⟨p, h.symm, rfl⟩
  | v :: r, k, p, u, l, h, hl, hr => by
    cases l with
    | nil => simp at hl
    | cons c q =>
      cases v <;> simp only [mm, reduceCtorEq] at h
      rename_i k2 n2
      have h0 := hr 0 _ c rfl rfl
      simp only [down] at h0
      have hc := h0.inv_i
      subst hc
      obtain ⟨n, e1, e2⟩ := mm_min r k _ u q h (by simpa using hl) (fun j v c hv hc => hr (j + 1) v c (by simpa using hv) (by simpa using hc))
      refine ⟨n, e1, ?_⟩
      simp only [List.foldlM_cons, Sem.run_bind]
      have : (Builtin.min2 (.int k p) (.int k2 n2)).run P w = .ok (.int k (bif decide (n2 < p) then n2 else p)) w := by
        simp only [Builtin.min2, Sem.run_pure]
        cases hd : decide (n2 < p)
        · rw [if_neg (by simpa using hd)]; rfl
        · rw [if_pos (by simpa using hd)]; rfl
      rw [this]
      exact e2

theorem op_mm (h : Rel C vars nt G lb κ w a m) {c : Call} {b : Bool} {l : List Operand} {p u : V} {r : List V} (hop : o.op = .call c) (hc : c.callee = .builtin (if b then .max else .min)) (has : c.args.toList = l) (hl : rds (rdM false m) l = some (p :: r)) (hg : goods (p :: r) = true) (hi : ∃ k n, p = .i k n) (hv : mm b p r = some u) : OpOk C vars nt G lb κ w a m m o u := by
  obtain ⟨k, n, rfl⟩ := hi
  obtain ⟨h1, h2⟩ := rds_rel h hl hg
  cases l with
  | nil => simp [rds] at hl
  | cons x q =>
    have hx : a.eval x = .int k n := by
      have := h2 0 (.i k n) (a.eval x) (by simp [downs, down]) rfl
      exact this.inv_i
    have hq : (q.map a.eval).length = r.length := by simpa using h1
    have hrel : ∀ (j : Nat) v c, r[j]? = some v → (q.map a.eval)[j]? = some c → VRel G (down v) c := fun j v c hv hc => h2 (j + 1) (down v) c (by
      rw [downs_get]
      simp [hv]) (by simpa using hc)
    cases b with
    | true =>
      obtain ⟨n', e1, e2⟩ := mm_max (P := C.P) (w := w) r k n u _ hv hq hrel
      subst e1
      refine .of_plain h (c := .int k n') ?_ (.i _ _) rfl
      refine exec_builtin hop hc has fun consts => ?_
      simp only [if_true, builtin, Builtin.max_, List.map_cons, hx, Sem.run_bind, e2, Result.andThen_ok, Sem.run_pure]
    | false =>
      obtain ⟨n', e1, e2⟩ := mm_min (P := C.P) (w := w) r k n u _ hv hq hrel
      subst e1
      refine .of_plain h (c := .int k n') ?_ (.i _ _) rfl
      refine exec_builtin hop hc has fun consts => ?_
      simp only [Bool.false_eq_true, if_false, builtin, Builtin.min_, List.map_cons, hx, Sem.run_bind, e2, Result.andThen_ok, Sem.run_pure]
end
end Go.Mu
end
section
/- Maps and texts, walked. -/
set_option linter.unusedSimpArgs false
set_option linter.unusedVariables false
set_option linter.constructorNameAsVariable false
namespace Go.Mu
section
variable {C : Cfg} {vars nt : Nat} {G G' : Gh} {lb lb' : Nat → Option Nat} {κ κ' : Nat → Bool} {w w' : World} {a : Act} {m m' : M} {o : Oper} {v : V} {P : Program}

/-- A new object behind a pointer. -/
theorem op_newIt (h : Rel C vars nt G lb κ w a m) {ob : Go.Obj} {x : Obj} (hr : (execOp a.eval o).run C.P w = .ok (.value (.pointer (some ⟨w.heap.size, 0, none⟩))) (w.alloc ob))
    (hx : ObjRel C (G.newOb w.heap.size 0 []) (w.alloc ob) w.heap.size 0 0 m.st.nx x) : OpOk C vars nt G lb κ w a m { m with st := m.st.new x } o (.po m.st.nx 0) := by
  obtain ⟨r1, r2, r3⟩ := Rel.newOb (κ' := takes vars κ (uses o.op)) (x := x) (sz := 0) (l := []) h (takes_le (uses o.op)) (fun B hB => nomatch hB) (ob := ob) hx
  refine .of_rel hr r1 ?_ rfl r2 r3
  have := VRel.po (G := G.newOb w.heap.size 0 []) (id := m.st.nx) (o := 0) (B := w.heap.size) (s := 0) (l := 0) (by rw [← h.heap.nx]; exact Nat.lt_succ_self _) (if_pos h.heap.nx.symm)
  exact this

theorem op_range_str (h : Rel C vars nt G lb κ w a m) {t : TypeId} {x : Operand} {z : ByteArray} (hop : o.op = .range t x) (ht : C.P.underlying t = some .string) (hx : rdM false m x = some (.s z)) : OpOk C vars nt G lb κ w a m { m with st := m.st.new (.siter z 0) } o (.po m.st.nx 0) := by
  have ex := rd_s h hx
  refine op_newIt h (ob := .stringIter z 0) ?_ ⟨rfl, World.alloc_new⟩
  simp only [execOp, hop, ex, Instr.range, Sem.run_bind, run_underlying ht, Result.andThen_ok, Sem.run_pure, run_newObj]
  rfl
theorem op_range_m0 (h : Rel C vars nt G lb κ w a m) {t e e' : TypeId} {x : Operand} (hop : o.op = .range t x) (ht : C.P.underlying t = some (.map e e')) (hx : rdM false m x = some .m0) : OpOk C vars nt G lb κ w a m { m with st := m.st.new (.iter none 0 [] 0) } o (.po m.st.nx 0) := by
  have ex := (rd_vrel h hx rfl).inv_m0
  refine op_newIt h (ob := .mapIter none 0 #[] 0) ?_ ⟨rfl, none, World.alloc_new, rfl⟩
  simp only [execOp, hop, ex, Instr.range, Sem.run_bind, run_underlying ht, Result.andThen_ok, Sem.run_pure, run_newObj]
  rfl
theorem op_range_mp (h : Rel C vars nt G lb κ w a m) {t e e' : TypeId} {x : Operand} {id c : Nat} {es : List (V × V × Nat)} (hop : o.op = .range t x) (ht : C.P.underlying t = some (.map e e')) (hx : rdM false m x = some (.mp id)) (hg : m.st.get id = some (.map es c)) : OpOk C vars nt G lb κ w a m { m with st := m.st.new (.iter (some id) c [] c) } o (.po m.st.nx 0) := by
  obtain ⟨B, s, l, q1, q2, q3⟩ := rd_mp h hx
  obtain ⟨ces, g1, g2, g3, g4⟩ := obj_map h hg q2
  refine op_newIt h (ob := .mapIter (some B) c #[] c) ?_ ⟨rfl, some B, World.alloc_new, Nat.lt_succ_of_lt q1, B, s, l, ?_, rfl⟩
  · simp only [execOp, hop, q3, Instr.range, Sem.run_bind, run_underlying ht, Result.andThen_ok, Sem.run_pure, run_newObj, run_getMap g1]
    rfl
  · show (if id = G.nx then _ else G.ob id) = _
    rw [if_neg (Nat.ne_of_lt q1)]; exact q2

/-- An iterator. -/
theorem obj_at (h : Rel C vars nt G lb κ w a m) {id : Nat} {x : Obj} (hg : m.st.get id = some x) (hd : x ≠ .dead) {B s l : Nat} (hob : G.ob id = some (B, s, l)) : ObjRel C G w B s l id x ∧ G.own B = some (.ob id) ∧ id < m.st.nx := by
  rcases h.heap.obj id _ hg with ⟨B', s', l', g1, g2, g3, g4⟩ | g
  · rw [hob] at g1; cases g1
    exact ⟨g4, g2, g3⟩
  · exact absurd g hd

/-- The first cell of an iterator's block is the block's first. -/
theorem op_iterTurn (h : Rel C vars nt G lb κ w a m) {id B s l : Nat} {x' : Obj} {ob : Go.Obj} (hob : G.ob id = some (B, s, l)) (hown : G.own B = some (.ob id)) (hid : id < m.st.nx) {u : V} {cv : Value} (hr : (execOp a.eval o).run C.P w = .ok (.value cv) (w.upd B ob)) (hx : ObjRel C G (w.upd B ob) B s l id x') (hv : VRel G u cv) (hp : pl u = true) :
    OpOk C vars nt G lb κ w a m { m with st := m.st.put id x' } o u := by
  obtain ⟨r1, r2, r3⟩ := Rel.updOb (κ' := takes vars κ (uses o.op)) (x := x') (l := []) h (takes_le (uses o.op)) (fun B hB => nomatch hB) hob hown hid (ob := ob) (by rw [give_nil]; exact hx)
  rw [give_nil] at r1 r3
  exact .of_rel hr r1 hv hp r2 r3

theorem ptr_at {id o B s l : Nat} (h : G.ob id = some (B, s, l)) (hs : s = 0) : (⟨B, s + o, none⟩ : Addr) = ⟨B, o, none⟩ := by subst hs; simp

theorem triple_rel {u u' : V} {c c' : Value} {b : Bool} (h : VRel G u c) (h' : VRel G u' c') (p : pl u = true) (p' : pl u' = true) : VRel G (.tu [.b b, u, u']) (.tuple #[.bool b, c, c']) ∧ pl (.tu [.b b, u, u']) = true := by
  refine ⟨?_, by simp [pl, pls, p, p']⟩
  have := VRel.tu (G := G) (cs := [.b b, u, u']) (l := [.bool b, c, c']) rfl (fun j v x hv hx => by
    cases j with
    | zero => simp at hv hx; subst hv; subst hx; exact .b b
    | succ j => cases j with
      | zero => simp at hv hx; subst hv; subst hx; exact h
      | succ j => cases j with
        | zero => simp at hv hx; subst hv; subst hx; exact h'
        | succ j => simp at hv)
  exact this
theorem two_rel {u u' : V} {c c' : Value} (h : VRel G u c) (h' : VRel G u' c') (p : pl u = true) (p' : pl u' = true) : VRel G (.tu [u, u']) (.tuple #[c, c']) ∧ pl (.tu [u, u']) = true := by
  refine ⟨?_, by simp [pl, pls, p, p']⟩
  have := VRel.tu (G := G) (cs := [u, u']) (l := [c, c']) rfl (fun j v x hv hx => by
    cases j with
    | zero => simp at hv hx; subst hv; subst hx; exact h
    | succ j => cases j with
      | zero => simp at hv hx; subst hv; subst hx; exact h'
      | succ j => simp at hv)
  exact this
theorem one_rel {b : Bool} : VRel G (.tu [.b b]) (.tuple #[.bool b]) ∧ pl (.tu [.b b]) = true := by
  refine ⟨?_, rfl⟩
  have := VRel.tu (G := G) (cs := [.b b]) (l := [.bool b]) rfl (fun j v x hv hx => by
    cases j with
    | zero => simp at hv hx; subst hv; subst hx; exact .b b
    | succ j => simp at hv)
  exact this

theorem Ents.filter {p : Nat → Bool} : ∀ {es : List (V × V × Nat)} {l : List MapEntry}, Ents G es l → Ents G (es.filter fun e => p e.2.2) (l.filter fun e => p e.born)
  | [], [], h => trivial
  | t :: r, e :: q, h => by
    have hb : e.born = t.2.2 := h.1.2.2.1
    simp only [List.filter_cons, hb]
    cases p t.2.2 with
    | true => exact ⟨h.1, Ents.filter h.2⟩
    | false => exact Ents.filter h.2
  | [], _ :: _, h => h.elim
  | _ :: _, [], h => h.elim
theorem Ents.all {p : Nat → Bool} : ∀ {es : List (V × V × Nat)} {l : List MapEntry}, Ents G es l → (l.all fun e => p e.born) = es.all fun e => p e.2.2
  | [], [], h => rfl
  | t :: r, e :: q, h => by
    have hb : e.born = t.2.2 := h.1.2.2.1
    simp only [List.all_cons, hb, Ents.all h.2]
  | [], _ :: _, h => h.elim
  | _ :: _, [], h => h.elim
theorem Ents.any {p : Nat → Bool} : ∀ {es : List (V × V × Nat)} {l : List MapEntry}, Ents G es l → (l.any fun e => p e.born) = es.any fun e => p e.2.2
  | [], [], h => rfl
  | t :: r, e :: q, h => by
    have hb : e.born = t.2.2 := h.1.2.2.1
    simp only [List.any_cons, hb, Ents.any h.2]
  | [], _ :: _, h => h.elim
  | _ :: _, [], h => h.elim
theorem Ents.find {p : Nat → Bool} : ∀ {es : List (V × V × Nat)} {l : List MapEntry}, Ents G es l → ∀ t, (es.find? fun e => p e.2.2) = some t → ∃ e, (l.find? fun e => p e.born) = some e ∧ EntR G t e
  | [], [], h, t, ht => by simp at ht
  | t :: r, e :: q, h, u, hu => by
    have hb : e.born = t.2.2 := h.1.2.2.1
    simp only [List.find?_cons, hb] at hu ⊢
    cases hp : p t.2.2 with
    | true => simp only [hp, Option.some.injEq] at hu ⊢; subst hu; exact ⟨e, rfl, h.1⟩
    | false => simp only [hp] at hu ⊢; exact Ents.find h.2 u hu
  | [], _ :: _, h, _, _ => h.elim
  | _ :: _, [], h, _, _ => h.elim

theorem run_getIter {r : Nat} {mm : Option Nat} {a b : Nat} {sn : Array Nat} (h : w.heap[r]? = some (.mapIter mm a sn b)) : (getObj r).run P w = .ok (.mapIter mm a sn b) w := by simp [getObj, Sem.run, h]
theorem run_setIter {r : Nat} {mm : Option Nat} {a b : Nat} {sn : Array Nat} {ob : Go.Obj} (h : w.heap[r]? = some (.mapIter mm a sn b)) : (setObj r ob).run P w = .ok () (w.upd r ob) := by simp [setObj, Sem.run, h, World.upd]
theorem run_getSIter {r pos : Nat} {z : ByteArray} (h : w.heap[r]? = some (.stringIter z pos)) : (getObj r).run P w = .ok (.stringIter z pos) w := by simp [getObj, Sem.run, h]
theorem run_setSIter {r pos : Nat} {z : ByteArray} {ob : Go.Obj} (h : w.heap[r]? = some (.stringIter z pos)) : (setObj r ob).run P w = .ok () (w.upd r ob) := by simp [setObj, Sem.run, h, World.upd]

theorem rd_it (h : Rel C vars nt G lb κ w a m) {x : Operand} {id : Nat} (hx : rdM false m x = some (.po id 0)) : ∃ B s l, id < G.nx ∧ G.ob id = some (B, s, l) ∧ (s = 0 → a.eval x = .pointer (some ⟨B, 0, none⟩)) := by
  obtain ⟨B, s, l, h1, h2, h3⟩ := rd_po h hx
  exact ⟨B, s, l, h1, h2, fun e => by rw [h3, e]⟩

theorem op_next_str (h : Rel C vars nt G lb κ w a m) {x : Operand} {r pos : Nat} {z : ByteArray} (hop : o.op = .next x true) (hx : rdM false m x = some (.po r 0)) (hg : m.st.get r = some (.siter z pos)) (hlt : pos < z.size) :
    OpOk C vars nt G lb κ w a m { m with st := m.st.put r (.siter z (pos + (Utf8.decode z pos).2)) } o (.tu [.b true, .i .i64 pos, .i .i32 (Utf8.decode z pos).1]) := by
  obtain ⟨B, s, l, h1, h2, h3⟩ := rd_it h hx
  obtain ⟨⟨hs, hB⟩, hown, hid⟩ := obj_at h hg (by simp) h2
  have ex := h3 hs
  have hv := triple_rel (G := G) (b := true) (.i .i64 (pos : Int)) (.i .i32 ((Utf8.decode z pos).1 : Int)) rfl rfl
  refine op_iterTurn h h2 hown hid (ob := .stringIter z (pos + (Utf8.decode z pos).2)) (cv := .tuple #[.bool true, .int .i64 pos, .int .i32 (Utf8.decode z pos).1]) ?_ ⟨hs, World.upd_same (lt_of_block hB)⟩ hv.1 hv.2
  simp only [execOp, hop, ex, Instr.next, Sem.run_bind, Sem.run_pure, run_getSIter hB, Result.andThen_ok, if_pos hlt, run_setSIter hB, goInt]
theorem op_next_strEnd (h : Rel C vars nt G lb κ w a m) {x : Operand} {r pos : Nat} {z : ByteArray} (hop : o.op = .next x true) (hx : rdM false m x = some (.po r 0)) (hg : m.st.get r = some (.siter z pos)) (hlt : ¬ pos < z.size) :
    OpOk C vars nt G lb κ w a m m o (.tu [.b false]) := by
  obtain ⟨B, s, l, h1, h2, h3⟩ := rd_it h hx
  obtain ⟨⟨hs, hB⟩, hown, hid⟩ := obj_at h hg (by simp) h2
  have ex := h3 hs
  refine .of_plain h (c := .tuple #[.bool false]) ?_ (one_rel (G := G)).1 (one_rel (G := G)).2
  simp only [execOp, hop, ex, Instr.next, Sem.run_bind, Sem.run_pure, run_getSIter hB, Result.andThen_ok, if_neg hlt]
theorem op_next_none (h : Rel C vars nt G lb κ w a m) {x : Operand} {r si st : Nat} {sn : List Nat} (hop : o.op = .next x false) (hx : rdM false m x = some (.po r 0)) (hg : m.st.get r = some (.iter none si sn st)) :
    OpOk C vars nt G lb κ w a m m o (.tu [.b false]) := by
  obtain ⟨B, s, l, h1, h2, h3⟩ := rd_it h hx
  obtain ⟨⟨hs, m', hB, hm⟩, hown, hid⟩ := obj_at h hg (by simp) h2
  have ex := h3 hs
  simp only at hm
  subst hm
  refine .of_plain h (c := .tuple #[.bool false]) ?_ (one_rel (G := G)).1 (one_rel (G := G)).2
  simp only [execOp, hop, ex, Instr.next, Sem.run_bind, Sem.run_pure, run_getIter hB, Result.andThen_ok]

theorem filter_filter_none {l : List MapEntry} {since : Nat} (h : (l.any fun e => decide (since ≤ e.born)) = false) : l.filter (fun e => decide (e.born < since)) = l ∧ l.filter (fun e => decide (e.born ≥ since)) = [] := by
  simp only [List.any_eq_false, decide_eq_true_eq] at h
  constructor
  · rw [List.filter_eq_self]
    intro e he
    have := h e he
    simp
    omega
  · rw [List.filter_eq_nil_iff]
    intro e he
    have := h e he
    simp
    omega

/-- A step of a walk over a map that has at most one entry left. -/
theorem op_next_map (h : Rel C vars nt G lb κ w a m) {x : Operand} {r id since stepped c : Nat} {seen : List Nat} {es : List (V × V × Nat)} (hop : o.op = .next x false) (hx : rdM false m x = some (.po r 0)) (hg : m.st.get r = some (.iter (some id) since seen stepped)) (hm : m.st.get id = some (.map es c))
    (h1 : (!seen.isEmpty && !es.isEmpty && es.all (fun e => leB stepped e.2.2)) = false) (h2 : (es.filter fun e => !seen.contains e.2.2).any (fun e => leB since e.2.2) = false) :
    ((es.filter fun e => !seen.contains e.2.2) = [] → OpOk C vars nt G lb κ w a m m o (.tu [.b false])) ∧
    (∀ k u b, (es.filter fun e => !seen.contains e.2.2) = [(k, u, b)] → OpOk C vars nt G lb κ w a m { m with st := m.st.put r (.iter (some id) since (seen ++ [b]) c) } o (.tu [.b true, k, u])) := by
  obtain ⟨B, s, l, q1, q2, q3⟩ := rd_it h hx
  obtain ⟨⟨hs, m', hB, hmm⟩, hown, hid⟩ := obj_at h hg (by simp) q2
  obtain ⟨p1, B', s', l', p2, rfl⟩ := hmm
  have ex := q3 hs
  obtain ⟨ces, g1, g2, g3, g4⟩ := obj_map h hm p2
  have hcont : ∀ n, seen.toArray.contains n = seen.contains n := fun n => by simp
  have e1 : (!seen.toArray.isEmpty && !ces.isEmpty && ces.all (fun e => decide (e.born ≥ stepped))) = false := by
    have hl := g2.len
    rw [← h1]
    have a1 : seen.toArray.isEmpty = seen.isEmpty := by simp
    have a2 : ces.isEmpty = es.isEmpty := by
      cases es with
      | nil => simp at hl; subst hl; rfl
      | cons t r =>
        cases hce : ces.toList with
        | nil => rw [hce] at hl; simp at hl
        | cons e q =>
          have : ces = (e :: q).toArray := by rw [← hce]
          rw [this]; simp
    have a3 : ces.all (fun e => decide (e.born ≥ stepped)) = es.all (fun e => leB stepped e.2.2) := by
      rw [← Array.all_toList]
      have := g2.all (p := fun n => decide (n ≥ stepped))
      rw [this]
      congr 1
      funext e
      simp only [leB]
      cases hb : Nat.ble stepped e.2.2
      · simp; rw [← Bool.not_eq_true, Nat.ble_eq] at hb; omega
      · simp; exact Nat.le_of_ble_eq_true hb
    rw [a1, a2, a3]
  have hfl : (ces.filter fun e => !seen.toArray.contains e.born).toList = ces.toList.filter fun e => !seen.contains e.born := by
    rw [Array.toList_filter]
    congr 1
    funext e
    rw [hcont]
  have hef := g2.filter (p := fun n => !seen.contains n)
  have hany : ((ces.toList.filter fun e => !seen.contains e.born).any fun e => decide (since ≤ e.born)) = false := by
    rw [hef.any (p := fun n => decide (since ≤ n)), ← h2]
    congr 1
    funext e
    simp only [leB]
    cases hb : Nat.ble since e.2.2
    · simp; rw [← Bool.not_eq_true, Nat.ble_eq] at hb; omega
    · simp; exact Nat.le_of_ble_eq_true hb
  obtain ⟨n1, n2⟩ := filter_filter_none hany
  have old : (ces.filter fun e => !seen.toArray.contains e.born).filter (fun e => decide (e.born < since)) = ces.filter fun e => !seen.toArray.contains e.born := by
    apply Array.ext'
    rw [Array.toList_filter, hfl]
    exact n1
  have new : (ces.filter fun e => !seen.toArray.contains e.born).filter (fun e => decide (e.born ≥ since)) = #[] := by
    apply Array.ext'
    rw [Array.toList_filter, hfl]
    exact n2
  constructor
  · intro hnil
    have hz : ces.filter (fun e => !seen.toArray.contains e.born) = #[] := by
      apply Array.ext'
      rw [hfl]
      rw [hnil] at hef
      have := hef.len
      exact List.length_eq_zero_iff.1 (by simpa using this)
    refine .of_plain h (c := .tuple #[.bool false]) ?_ (one_rel (G := G)).1 (one_rel (G := G)).2
    simp only [execOp, hop, ex, Instr.next, Sem.run_bind, Sem.run_pure, run_getIter hB, Result.andThen_ok, run_getMap g1, e1, Bool.false_eq_true, if_false, old, new, hz]
    simp [Question.forced]
  · intro k u b hone
    rw [hone] at hef
    have hlen := hef.len
    obtain ⟨e, hce⟩ : ∃ e, (ces.toList.filter fun e => !seen.contains e.born) = [e] := by
      cases hq : ces.toList.filter fun e => !seen.contains e.born with
      | nil => rw [hq] at hlen; simp at hlen
      | cons e q =>
        rw [hq] at hlen
        simp at hlen
        exact ⟨e, by rw [hlen]⟩
    rw [hce] at hef
    have hz : ces.filter (fun e => !seen.toArray.contains e.born) = #[e] := by
      apply Array.ext'
      rw [hfl, hce]
    obtain ⟨r1, r2, r3, r4, r5⟩ := hef.1
    obtain ⟨sk1, sk2⟩ := scalar_good r5
    have hv := triple_rel (G := G) (b := true) r1 r2 sk2 r4
    have hp : seen.toArray.push e.born = (seen ++ [b]).toArray := by
      have r3' : e.born = b := r3
      rw [r3']; simp
    rw [hz] at old new
    refine op_iterTurn h q2 hown hid (ob := .mapIter (some B') since (seen ++ [b]).toArray c) (cv := .tuple #[.bool true, e.key, e.val]) ?_ ⟨hs, some B', World.upd_same (lt_of_block hB), p1, B', s', l', p2, rfl⟩ hv.1 hv.2
    simp only [execOp, hop, ex, Instr.next, Sem.run_bind, Sem.run_pure, run_getIter hB, Result.andThen_ok, run_getMap g1, e1, Bool.false_eq_true, if_false, hz, old, new]
    have hlt : e.born < since := by
      rw [hce] at hany
      simpa using hany
    have hnl : ¬ since ≤ e.born := by omega
    have r3' : e.born = b := r3
    simp [Question.forced, run_setIter hB, hlt, hnl, r3']

theorem op_entry (h : Rel C vars nt G lb κ w a m) {x : Operand} {r id since stepped c b : Nat} {seen : List Nat} {es : List (V × V × Nat)} {k u : V} {b' : Nat} (hop : o.op = .entry x) (hx : rdM false m x = some (.po r 0)) (hg : m.st.get r = some (.iter (some id) since seen stepped)) (hm : m.st.get id = some (.map es c))
    (hl : seen.getLast? = some b) (hc : c = stepped) (hf : es.find? (fun e => Nat.beq e.2.2 b) = some (k, u, b')) : OpOk C vars nt G lb κ w a m m o (.tu [k, u]) := by
  obtain ⟨B, s, l, q1, q2, q3⟩ := rd_it h hx
  obtain ⟨⟨hs, m', hB, hmm⟩, hown, hid⟩ := obj_at h hg (by simp) q2
  obtain ⟨p1, B', s', l', p2, rfl⟩ := hmm
  have ex := q3 hs
  obtain ⟨ces, g1, g2, g3, g4⟩ := obj_map h hm p2
  have hf' : es.find? (fun e => e.2.2 == b) = some (k, u, b') := by
    rw [← hf]
    congr 1
    funext e
    cases hb : Nat.beq e.2.2 b
    · simp [beq_false hb]
    · simp [beq_true hb]
  obtain ⟨e, f1, f2⟩ := g2.find (p := fun n => n == b) (k, u, b') hf'
  obtain ⟨r1, r2, r3, r4, r5⟩ := f2
  have hv := two_rel (G := G) r1 r2 (scalar_good r5).2 r4
  have hbk : seen.toArray.back? = some b := by rw [← List.back?_toArray] at hl; exact hl
  have hfa : ces.find? (fun x => x.born == b) = some e := by rw [← Array.find?_toList]; exact f1
  refine .of_plain h (c := .tuple #[e.key, e.val]) ?_ hv.1 hv.2
  simp only [execOp, hop, ex, Instr.entry, Sem.run_bind, Sem.run_pure, run_getIter hB, Result.andThen_ok, hbk, run_getMap g1, hc, bne_self_eq_false, Bool.false_eq_true, if_false, hfa]
end
end Go.Mu
end
section
/- Conversions; every operation but the calls. -/
set_option linter.unusedSimpArgs false
set_option linter.unusedVariables false
set_option linter.constructorNameAsVariable false
namespace Go.Mu
section
variable {C : Cfg} {vars nt : Nat} {G G' : Gh} {lb lb' : Nat → Option Nat} {κ κ' : Nat → Bool} {w w' : World} {a : Act} {m m' : M} {o : Oper} {v : V} {P : Program}

theorem op_conv_int (h : Rel C vars nt G lb κ w a m) {src dst : TypeId} {x : Operand} {d : TypeDesc} {k k' : IntKind} {n : Int} (hop : o.op = .convert src dst x) (hs : C.P.underlying src = some d) (hd : C.P.underlying dst = some (.int k)) (hx : rdM false m x = some (.i k' n)) : OpOk C vars nt G lb κ w a m m o (.i k (k.wrap n)) := by
  have ex := rd_i h hx
  exact .of_plain h (c := .int k (k.wrap n)) (by simp [execOp, hop, ex, convert, run_underlying hs, run_underlying hd, Conv.intToInt]) (.i _ _) rfl
theorem op_conv_str (h : Rel C vars nt G lb κ w a m) {src dst : TypeId} {x : Operand} {d : TypeDesc} {z : ByteArray} (hop : o.op = .convert src dst x) (hs : C.P.underlying src = some d) (hd : C.P.underlying dst = some .string) (hx : rdM false m x = some (.s z)) : OpOk C vars nt G lb κ w a m m o (.s z) := by
  have ex := rd_s h hx
  exact .of_plain h (c := .string z) (by simp [execOp, hop, ex, convert, run_underlying hs, run_underlying hd]) (.s _) rfl
theorem flat_bytes : ∀ {xs : List V} {l : List UInt8}, bytesOf xs = some l → flat xs = xs
  | [], _, _ => rfl
  | x :: r, l, hl => by
    have : ∃ n q, x = .i .u8 n ∧ bytesOf r = some q := by
      cases x with
      | i k n =>
        cases k with
        | u8 =>
          simp only [bytesOf] at hl
          cases hr : bytesOf r with
          | none => simp [hr] at hl
          | some q => exact ⟨n, q, rfl, rfl⟩
        | _ => simp [bytesOf] at hl
      | _ => simp [bytesOf] at hl
    obtain ⟨n, q, rfl, hq⟩ := this
    simp [flat, cellsOf, flat_bytes hq]
theorem op_ofBytes_sl (h : Rel C vars nt G lb κ w a m) {src dst e : TypeId} {x : Operand} {ow : Nat} {nil : Bool} {xs : List V} {l : List UInt8} (hop : o.op = .convert src dst x) (hs : C.P.underlying src = some (.slice e)) (he : C.P.underlying e = some (.int .u8)) (hd : C.P.underlying dst = some .string) (hx : rdM false m x = some (.sl ow nil xs)) (hl : bytesOf xs = some l) : OpOk C vars nt G lb κ w a m m o (.s ⟨l.toArray⟩) := by
  have hr := rd_vrel h hx rfl
  simp only [down] at hr
  rcases hr.inv_sl with ⟨_, rfl, _, ec⟩ | ⟨_, B, s, cap, sz, ec, g2, g3, g4, g5, _⟩
  · simp only [bytesOf, Option.some.injEq] at hl
    subst hl
    refine .of_plain h (c := .string ⟨#[]⟩) ?_ (.s _) rfl
    have := run_convert_bytes_string (P := C.P) w src dst e none 0 0 hs he hd
    simp only [execOp, hop, ec, Sem.run_bind, this, Conv.bytesToString, Sem.run_pure, Result.andThen_ok]
    rfl
  · have hfl := flat_bytes hl
    rw [hfl] at g3 g4
    have := run_ofBytes (P := C.P) (w := w) (G := G) (B := B) (s := s) (cap := cap) hs he hd hl (fun j c hj => by
      obtain ⟨_, _, x, hx⟩ := g3 j c hj
      exact ⟨x, h.heap.ok.ic _ _ _ hx, g4 j c x hj hx⟩)
    rw [← ec] at this
    exact .of_plain h (c := .string ⟨l.toArray⟩) (by simp only [execOp, hop, Sem.run_bind, this, Sem.run_pure, Result.andThen_ok]) (.s _) rfl
theorem op_ofBytes_sm (h : Rel C vars nt G lb κ w a m) {src dst e : TypeId} {x : Operand} {id off n sz : Nat} {cs : List V} {l : List UInt8} (hop : o.op = .convert src dst x) (hs : C.P.underlying src = some (.slice e)) (he : C.P.underlying e = some (.int .u8)) (hd : C.P.underlying dst = some .string) (hx : rdM false m x = some (.sm id off n sz)) (hg : m.st.get id = some (.cells cs)) (hle : off + n ≤ cs.length)
    (hl : bytesOf ((cs.drop off).take n) = some l) : OpOk C vars nt G lb κ w a m m o (.s ⟨l.toArray⟩) := by
  obtain ⟨B, s, lim, cap, u1, u2, u3, u4, ec⟩ := (rd_vrel h hx rfl).inv_sm
  obtain ⟨cc, T, g1, g2, g3, g4, g5, g6⟩ := obj_cells h hg u2
  have hlen : ((cs.drop off).take n).length = n := by rw [List.length_take, List.length_drop]; omega
  have := run_ofBytes (P := C.P) (w := w) (G := G) (B := B) (s := s + off) (cap := cap) hs he hd hl (fun j c hj => by
    rw [List.getElem?_take] at hj
    split at hj
    · rw [List.getElem?_drop] at hj
      obtain ⟨x, hx⟩ := get_of_len g4.len hj
      refine ⟨x, ?_, g4.rel _ c x hj hx⟩
      rw [Nat.add_assoc]
      exact win_cell g1 hx
    · cases hj)
  rw [hlen, ← ec] at this
  exact .of_plain h (c := .string ⟨l.toArray⟩) (by simp only [execOp, hop, Sem.run_bind, this, Sem.run_pure, Result.andThen_ok]) (.s _) rfl

/-- Is it a call of a function? -/
def isCall (o : Oper) : Bool := match o.op with
  | .call c => match c.callee with
    | .builtin _ => false
    | _ => true
  | _ => false

/-- What is asked of an operation's uses. -/
structure Ready (vars : Nat) (κ : Nat → Bool) (o : Oper) : Prop where
  fresh : ∀ t ∈ uses o.op, κ t = false
  once : ((uses o.op).filter fun t => !bit vars t).Nodup

theorem mvo_false {o : Oper} {mv : Bool} (h : (match o.op with | .move _ | .assign _ => true | _ => false) = false) : mvo mv o = false := by
  cases mv with
  | false => rfl
  | true => simp only [mvo, cond_true]; exact h
theorem unown_id {o : Oper} {mv : Bool} (h : (match o.op with | .move _ | .assign _ => true | _ => false) = false) : unown mv m o = m := by
  cases mv with
  | false => rfl
  | true =>
    simp only [unown, cond_true]
    split
    · rename_i hop; rw [hop] at h; cases h
    · rename_i hop; rw [hop] at h; cases h
    · rfl
end
end Go.Mu
end
section
/- Every operation but the calls does what the evaluator says. -/
set_option linter.unusedSimpArgs false
set_option linter.unusedVariables false
set_option linter.constructorNameAsVariable false
namespace Go.Mu
section
variable {C : Cfg} {vars nt : Nat} {G G' : Gh} {lb lb' : Nat → Option Nat} {κ κ' : Nat → Bool} {w w' : World} {a : Act} {m m' : M} {o : Oper} {v : V} {P : Program}
variable {T : CallF} {Y : YieldF} {f : FuncId} {mv : Bool} {e : Eff}

/-- Not a move: what is read stays. -/
def still (o : Oper) : Bool := match o.op with
  | .move _ | .assign _ => false
  | _ => true
theorem still_rd (h : still o = true) : mvo mv o = false := mvo_false (by unfold still at h; cases hop : o.op <;> simp_all)
theorem still_un (h : still o = true) : unown mv m o = m := unown_id (by unfold still at h; cases hop : o.op <;> simp_all)

theorem ev_move (h : Rel C vars nt G lb κ w a m) (hr : Ready vars κ o) {x : Operand} (hop : o.op = .move x ∨ o.op = .assign x) (he : evalOp C T Y (rdM (mvo mv o) m) (getE m.L) m.st f mv o = some (v, e)) : e = .no ∧ OpOk C vars nt G lb κ w a m (unown mv m o) o v := by
  have hmv : mvo mv o = mv := by
    cases mv with
    | false => rfl
    | true => rcases hop with e | e <;> simp [mvo, e]
  rw [hmv] at he
  have he' : (match rdM mv m x with | some .u => none | some v => some (v, Eff.no) | none => none) = some (v, e) := by
    rcases hop with q | q <;> simp only [evalOp, q] at he <;> exact he
  split at he'
  · cases he'
  · rename_i u hnu hx
    simp only [Option.some.injEq, Prod.mk.injEq] at he'
    obtain ⟨rfl, rfl⟩ := he'
    exact ⟨rfl, op_move h hop hx (fun e => by subst e; exact hnu rfl) hr.fresh⟩
  · cases he'

theorem ev_pick (h : Rel C vars nt G lb κ w a m) (hr : Ready vars κ o) (hd : ∀ t, o.dst = some t → t < nt) {c x y : Operand} (hop : o.op = .pick c x y) (he : evalOp C T Y (rdM false m) (getE m.L) m.st f mv o = some (v, e)) : StepOk C vars nt G lb κ w a (wrM vars (effM m e) o.dst v) o := by
  simp only [evalOp, hop] at he
  split at he
  · rename_i hc
    cases hx : rdM false m x with
    | none => simp [hx] at he
    | some u =>
      simp only [hx, Option.map_some, Option.some.injEq, Prod.mk.injEq] at he
      obtain ⟨rfl, rfl⟩ := he
      exact .of_op (op_pick h hop hc (b := true) hx hr.fresh) hd
  · rename_i hc
    cases hx : rdM false m y with
    | none => simp [hx] at he
    | some u =>
      simp only [hx, Option.map_some, Option.some.injEq, Prod.mk.injEq] at he
      obtain ⟨rfl, rfl⟩ := he
      exact .of_op (op_pick h hop hc (b := false) hx hr.fresh) hd
  · cases he

theorem ev_nilCheck (h : Rel C vars nt G lb κ w a m) (hd : ∀ t, o.dst = some t → t < nt) {x : Operand} (hop : o.op = .nilCheck x) (he : evalOp C T Y (rdM false m) (getE m.L) m.st f mv o = some (v, e)) : StepOk C vars nt G lb κ w a (wrM vars (effM m e) o.dst v) o := by
  simp only [evalOp, hop] at he
  split at he
  · rename_i u hx
    cases hs : solid u with
    | false => simp [hs] at he
    | true =>
      simp only [hs, cond_true, Option.some.injEq, Prod.mk.injEq] at he
      obtain ⟨rfl, rfl⟩ := he
      exact .of_op (op_nilCheck h hop hx hs) hd
  · cases he

theorem ev_unOp (h : Rel C vars nt G lb κ w a m) (hd : ∀ t, o.dst = some t → t < nt) {op : UnOp} {t : TypeId} {x : Operand} (hop : o.op = .unOp op t x) (he : evalOp C T Y (rdM false m) (getE m.L) m.st f mv o = some (v, e)) : StepOk C vars nt G lb κ w a (wrM vars (effM m e) o.dst v) o := by
  simp only [evalOp, hop] at he
  split at he
  · rename_i hx
    simp only [Option.some.injEq, Prod.mk.injEq] at he
    obtain ⟨rfl, rfl⟩ := he
    exact .of_op (m' := m) (op_unop (m := m) h hop (by rw [hx])) hd
  · rename_i hx
    simp only [Option.some.injEq, Prod.mk.injEq] at he
    obtain ⟨rfl, rfl⟩ := he
    exact .of_op (m' := m) (op_unop (m := m) h hop (by rw [hx])) hd
  · rename_i hx
    simp only [Option.some.injEq, Prod.mk.injEq] at he
    obtain ⟨rfl, rfl⟩ := he
    exact .of_op (m' := m) (op_unop (m := m) h hop (by rw [hx])) hd
  · cases he

theorem ev_binOp (h : Rel C vars nt G lb κ w a m) (hd : ∀ t, o.dst = some t → t < nt) {op : BinOp} {t yt : TypeId} {x y : Operand} (hop : o.op = .binOp op t x y yt) (he : evalOp C T Y (rdM false m) (getE m.L) m.st f mv o = some (v, e)) : StepOk C vars nt G lb κ w a (wrM vars (effM m e) o.dst v) o := by
  simp only [evalOp, hop] at he
  split at he
  · rename_i hx hy
    split at he
    · rename_i r hr
      simp only [Option.some.injEq, Prod.mk.injEq] at he
      obtain ⟨rfl, rfl⟩ := he
      exact .of_op (op_int h hop hx hy hr) hd
    · cases he
  · rename_i hx hy
    split at he
    · rename_i r hr
      simp only [Option.some.injEq, Prod.mk.injEq] at he
      obtain ⟨rfl, rfl⟩ := he
      exact .of_op (op_str h hop hx hy hr) hd
    · cases he
  · rename_i p q hni hns hx hy
    have n1 : ∀ k n k' n', ¬ (p = .i k n ∧ q = .i k' n') := fun k n k' n' e => hni k n k' n' e.1 e.2
    have n2 : ∀ s s', ¬ (p = .s s ∧ q = .s s') := fun s s' e => hns s s' e.1 e.2
    split at he
    · split at he
      · rename_i r hr
        simp only [Option.some.injEq, Prod.mk.injEq] at he
        obtain ⟨rfl, rfl⟩ := he
        exact .of_op (op_cmp h hop hx hy (.inl rfl) n1 n2 hr) hd
      · cases he
    · split at he
      · rename_i r hr
        simp only [Option.some.injEq, Prod.mk.injEq] at he
        obtain ⟨rfl, rfl⟩ := he
        exact .of_op (op_cmp h hop hx hy (.inr rfl) n1 n2 hr) hd
      · cases he
    · cases he
  · cases he
end
end Go.Mu
end
section
/- Every operation but the calls does what the evaluator says: the rest. -/
set_option linter.unusedSimpArgs false
set_option linter.unusedVariables false
set_option linter.constructorNameAsVariable false
namespace Go.Mu
section
variable {C : Cfg} {vars nt : Nat} {G G' : Gh} {lb lb' : Nat → Option Nat} {κ κ' : Nat → Bool} {w w' : World} {a : Act} {m m' : M} {o : Oper} {v : V} {P : Program}
variable {T : CallF} {Y : YieldF} {f : FuncId} {mv : Bool} {e : Eff}

theorem ev_convert (h : Rel C vars nt G lb κ w a m) (hd : ∀ t, o.dst = some t → t < nt) {src dst : TypeId} {x : Operand} (hop : o.op = .convert src dst x) (he : evalOp C T Y (rdM false m) (getE m.L) m.st f mv o = some (v, e)) : StepOk C vars nt G lb κ w a (wrM vars (effM m e) o.dst v) o := by
  simp only [evalOp, hop] at he
  split at he
  · rename_i hs hdt hx
    simp only [Option.some.injEq, Prod.mk.injEq] at he
    obtain ⟨rfl, rfl⟩ := he
    exact .of_op (m' := m) (op_conv_int h hop hs hdt hx) hd
  · rename_i hs hdt hx
    simp only [Option.some.injEq, Prod.mk.injEq] at he
    obtain ⟨rfl, rfl⟩ := he
    exact .of_op (m' := m) (op_conv_str h hop hs hdt hx) hd
  · rename_i q z hs hdt hx
    split at he
    · rename_i hq
      cases hm : C.memT q with
      | true => simp [hm] at he
      | false =>
        simp only [hm, cond_false, Option.some.injEq, Prod.mk.injEq] at he
        obtain ⟨rfl, rfl⟩ := he
        exact .of_op (m' := m) (op_toBytes h hop hs hdt hq hx) hd
    · cases he
  · rename_i q ow n xs hs hdt hx
    split at he
    · rename_i l hq hl
      simp only [Option.some.injEq, Prod.mk.injEq] at he
      obtain ⟨rfl, rfl⟩ := he
      exact .of_op (m' := m) (op_ofBytes_sl h hop hs hq hdt hx hl) hd
    · cases he
  · rename_i q id off n sz hs hdt hx
    split at he
    · rename_i cs hq hg
      cases hle : leB (off + n) cs.length with
      | false => simp [hle] at he
      | true =>
        simp only [hle, cond_true] at he
        split at he
        · rename_i l hl
          simp only [Option.some.injEq, Prod.mk.injEq] at he
          obtain ⟨rfl, rfl⟩ := he
          exact .of_op (m' := m) (op_ofBytes_sm h hop hs hq hdt hx hg (leB_iff.1 hle) hl) hd
        · cases he
    · cases he
  · cases he

theorem ev_makeFunc (h : Rel C vars nt G lb κ w a m) (hd : ∀ t, o.dst = some t → t < nt) {g : Fn} {x y : Array Operand} (hop : o.op = .makeFunc g x y) (he : evalOp C T Y (rdM false m) (getE m.L) m.st f mv o = some (v, e)) : StepOk C vars nt G lb κ w a (wrM vars (effM m e) o.dst v) o := by
  simp only [evalOp, hop] at he
  split at he
  · rename_i p q hx hy
    cases hg : (goods p && goods q) with
    | false => simp [hg] at he
    | true =>
      simp only [hg, cond_true] at he
      simp only [Bool.and_eq_true] at hg
      split at he
      · simp only [Option.some.injEq, Prod.mk.injEq] at he
        obtain ⟨rfl, rfl⟩ := he
        exact .of_op (m' := m) (op_makeFunc h hop hx hy hg.1 hg.2) hd
      · cases he
  · cases he

theorem ev_makeMap (h : Rel C vars nt G lb κ w a m) (hd : ∀ t, o.dst = some t → t < nt) {t : TypeId} {r : Option Operand} (hop : o.op = .makeMap t r) (he : evalOp C T Y (rdM false m) (getE m.L) m.st f mv o = some (v, e)) : StepOk C vars nt G lb κ w a (wrM vars (effM m e) o.dst v) o := by
  simp only [evalOp, hop] at he
  split at he
  · simp only [Option.some.injEq, Prod.mk.injEq] at he
    obtain ⟨rfl, rfl⟩ := he
    exact .of_op (op_makeMap h hop) hd
  · cases he

theorem ev_makeSlice (h : Rel C vars nt G lb κ w a m) (hd : ∀ t, o.dst = some t → t < nt) {t : TypeId} {x y : Operand} (hop : o.op = .makeSlice t x y) (he : evalOp C T Y (rdM false m) (getE m.L) m.st f mv o = some (v, e)) : StepOk C vars nt G lb κ w a (wrM vars (effM m e) o.dst v) o := by
  simp only [evalOp, hop] at he
  split at he
  · rename_i q l c ht hx hy
    split at he
    · rename_i z hz
      cases hb : (leB l c && small C.P q c && leB (c * sizeT C.P q) 16777216 && fits C.P q z) with
      | false => simp [hb] at he
      | true =>
        simp only [hb, cond_true] at he
        simp only [Bool.and_eq_true] at hb
        obtain ⟨⟨⟨b1, b2⟩, b3⟩, b4⟩ := hb
        cases hm : C.memT q with
        | true =>
          simp only [hm, cond_true, Option.some.injEq, Prod.mk.injEq] at he
          obtain ⟨rfl, rfl⟩ := he
          exact .of_op (op_makeSlice_sm h hop ht hx hy hz (leB_iff.1 b1) b2 (leB_iff.1 b3)) hd
        | false =>
          simp only [hm, cond_false] at he
          cases hlc : Nat.beq l c with
          | false => simp [hlc] at he
          | true =>
            simp only [hlc, cond_true, Option.some.injEq, Prod.mk.injEq] at he
            obtain ⟨rfl, rfl⟩ := he
            have := beq_true hlc
            subst this
            exact .of_op (m' := m) (op_makeSlice_sl h hop ht hx hy hz b2 (leB_iff.1 b3)) hd
    · cases he
  · cases he

theorem ev_slice (h : Rel C vars nt G lb κ w a m) (hr : Ready vars κ o) (hd : ∀ t, o.dst = some t → t < nt) {t : TypeId} {x : Operand} {lo hi mx : Option Operand} (hop : o.op = .slice t x lo hi mx) (he : evalOp C T Y (rdM false m) (getE m.L) m.st f mv o = some (v, e)) : StepOk C vars nt G lb κ w a (wrM vars (effM m e) o.dst v) o := by
  simp only [evalOp, hop] at he
  split at he
  · rename_i z ht hx
    split at he
    · rename_i hh l h1 h2
      cases hb : (leB hh z.size && leB l hh) with
      | false => simp [hb] at he
      | true =>
        simp only [hb, cond_true, Option.some.injEq, Prod.mk.injEq] at he
        simp only [Bool.and_eq_true] at hb
        obtain ⟨rfl, rfl⟩ := he
        exact .of_op (m' := m) (op_slice_str h hop ht hx h1 h2 (leB_iff.1 hb.1) (leB_iff.1 hb.2)) hd
    · cases he
  · rename_i q ow n xs ht hx
    split at he
    · rename_i hh l h1 h2
      cases hb : (leB hh xs.length && leB l hh && hasT C.P q && headFit C.P q xs) with
      | false => simp [hb] at he
      | true =>
        simp only [hb, cond_true] at he
        simp only [Bool.and_eq_true] at hb
        obtain ⟨⟨⟨b1, b2⟩, b3⟩, b4⟩ := hb
        split at he
        · simp only [Option.some.injEq, Prod.mk.injEq] at he
          obtain ⟨rfl, rfl⟩ := he
          exact .of_op (m' := m) (op_slice_sl h hop ht hx h1 h2 (leB_iff.1 b1) (leB_iff.1 b2) b3 b4 hr.fresh (.inl ⟨rfl, rfl⟩)) hd
        · rename_i qq
          split at he
          · rename_i q2 hq
            cases hc : (hi.isSome && Nat.beq q2 hh) with
            | false => simp [hc] at he
            | true =>
              simp only [hc, cond_true, Option.some.injEq, Prod.mk.injEq] at he
              simp only [Bool.and_eq_true] at hc
              obtain ⟨rfl, rfl⟩ := he
              have := beq_true hc.2
              subst this
              exact .of_op (m' := m) (op_slice_sl h hop ht hx h1 h2 (leB_iff.1 b1) (leB_iff.1 b2) b3 b4 hr.fresh (.inr ⟨qq, rfl, hq, hc.1, rfl⟩)) hd
          · cases he
    · cases he
  · rename_i q id off n sz ht hx
    split at he
    · rename_i hh l h1 h2
      cases hb : (leB hh n && leB l hh && Nat.beq sz (sizeT C.P q) && ltB 0 sz) with
      | false => simp [hb] at he
      | true =>
        simp only [hb, cond_true] at he
        simp only [Bool.and_eq_true] at hb
        obtain ⟨⟨⟨b1, b2⟩, b3⟩, b4⟩ := hb
        have hsz := beq_true b3
        subst hsz
        have b1 := leB_iff.1 b1
        have b2 := leB_iff.1 b2
        have b4 := ltB_iff.1 b4
        cases h0 : Nat.beq l 0 with
        | true =>
          simp only [h0, cond_true, Option.some.injEq, Prod.mk.injEq] at he
          obtain ⟨rfl, rfl⟩ := he
          exact .of_op (m' := m) (op_slice_sm h hop ht hx h1 h2 b1 b2 b4 (.inl ⟨beq_true h0, rfl⟩)) hd
        | false =>
          simp only [h0, cond_false] at he
          cases hl : ltB l hh with
          | true =>
            simp only [hl, cond_true, Option.some.injEq, Prod.mk.injEq] at he
            obtain ⟨rfl, rfl⟩ := he
            exact .of_op (m' := m) (op_slice_sm h hop ht hx h1 h2 b1 b2 b4 (.inr (.inl ⟨ltB_iff.1 hl, rfl⟩))) hd
          | false =>
            simp only [hl, cond_false, Option.some.injEq, Prod.mk.injEq] at he
            obtain ⟨rfl, rfl⟩ := he
            have : l = hh := by
              rcases Nat.lt_or_ge l hh with g | g
              · rw [ltB_iff.2 g] at hl; cases hl
              · omega
            exact .of_op (m' := m) (op_slice_sm h hop ht hx h1 h2 b1 b2 b4 (.inr (.inr ⟨this, rfl⟩))) hd
    · cases he
  · cases he
end
end Go.Mu
end
section
/- Every operation but the calls does what the evaluator says: the rest of the rest. -/
set_option linter.unusedSimpArgs false
set_option linter.unusedVariables false
set_option linter.constructorNameAsVariable false
namespace Go.Mu
section
variable {C : Cfg} {vars nt : Nat} {G G' : Gh} {lb lb' : Nat → Option Nat} {κ κ' : Nat → Bool} {w w' : World} {a : Act} {m m' : M} {o : Oper} {v : V} {P : Program}
variable {T : CallF} {Y : YieldF} {f : FuncId} {mv : Bool} {e : Eff}

theorem ev_fieldAddr (h : Rel C vars nt G lb κ w a m) (hd : ∀ t, o.dst = some t → t < nt) {t : TypeId} {x : Operand} {k : Nat} (hop : o.op = .fieldAddr t x k) (he : evalOp C T Y (rdM false m) (getE m.L) m.st f mv o = some (v, e)) : StepOk C vars nt G lb κ w a (wrM vars (effM m e) o.dst v) o := by
  simp only [evalOp, hop] at he
  split at he
  · rename_i fs ht
    split at he
    · rename_i fd hf
      cases hz : Nat.beq (sizeT C.P fd.type) 0 with
      | true => simp [hz] at he
      | false =>
        simp only [hz, cond_false] at he
        split at he
        · rename_i p hx
          split at he
          · rename_i u hu
            simp only [Option.some.injEq, Prod.mk.injEq] at he
            obtain ⟨rfl, rfl⟩ := he
            exact .of_op (m' := m) (op_fieldAddr h hop ht hf hz hx hu) hd
          · cases he
        · cases he
    · cases he
  · cases he

theorem ev_field (h : Rel C vars nt G lb κ w a m) (hd : ∀ t, o.dst = some t → t < nt) {t : TypeId} {x : Operand} {k : Nat} (hop : o.op = .field t x k) (he : evalOp C T Y (rdM false m) (getE m.L) m.st f mv o = some (v, e)) : StepOk C vars nt G lb κ w a (wrM vars (effM m e) o.dst v) o := by
  simp only [evalOp, hop] at he
  split at he
  · rename_i fs cs ht hx
    split at he
    · rename_i fd hf
      split at he
      · rename_i u hu
        simp only [Option.some.injEq, Prod.mk.injEq] at he
        obtain ⟨rfl, rfl⟩ := he
        exact .of_op (m' := m) (op_field h hop ht hf hx hu) hd
      · cases he
    · cases he
  · cases he

theorem ev_indexAddr (h : Rel C vars nt G lb κ w a m) (hd : ∀ t, o.dst = some t → t < nt) {t : TypeId} {x ix : Operand} (hop : o.op = .indexAddr t x ix) (he : evalOp C T Y (rdM false m) (getE m.L) m.st f mv o = some (v, e)) : StepOk C vars nt G lb κ w a (wrM vars (effM m e) o.dst v) o := by
  simp only [evalOp, hop] at he
  split at he
  · rename_i q ow n xs i ht hx hi
    split at he
    · rename_i u hu
      cases hb : (fits C.P q u && ltB 0 (sizeT C.P q)) with
      | false => simp [hb] at he
      | true =>
        simp only [hb, cond_true, Option.some.injEq, Prod.mk.injEq] at he
        simp only [Bool.and_eq_true] at hb
        obtain ⟨rfl, rfl⟩ := he
        exact .of_op (m' := m) (op_indexAddr_sl h hop ht hx hi hu hb.1 (ltB_iff.1 hb.2)) hd
    · cases he
  · rename_i q id off n sz i ht hx hi
    cases hb : (ltB i n && Nat.beq sz (sizeT C.P q) && ltB 0 (sizeT C.P q)) with
    | false => simp [hb] at he
    | true =>
      simp only [hb, cond_true, Option.some.injEq, Prod.mk.injEq] at he
      simp only [Bool.and_eq_true] at hb
      obtain ⟨rfl, rfl⟩ := he
      have := beq_true hb.1.2
      subst this
      exact .of_op (m' := m) (op_indexAddr_sm h hop ht hx hi (ltB_iff.1 hb.1.1) (ltB_iff.1 hb.2)) hd
  · rename_i n q p i ht hx hi
    cases hb : (ltB i n && ltB 0 (sizeT C.P q)) with
    | false => simp [hb] at he
    | true =>
      simp only [hb, cond_true] at he
      simp only [Bool.and_eq_true] at hb
      split at he
      · rename_i u hu
        simp only [Option.some.injEq, Prod.mk.injEq] at he
        obtain ⟨rfl, rfl⟩ := he
        exact .of_op (m' := m) (op_indexAddr_arr h hop ht hx hi (ltB_iff.1 hb.1) (ltB_iff.1 hb.2) hu) hd
      · cases he
  · cases he

theorem ev_index (h : Rel C vars nt G lb κ w a m) (hd : ∀ t, o.dst = some t → t < nt) {t : TypeId} {x ix : Operand} (hop : o.op = .index t x ix) (he : evalOp C T Y (rdM false m) (getE m.L) m.st f mv o = some (v, e)) : StepOk C vars nt G lb κ w a (wrM vars (effM m e) o.dst v) o := by
  simp only [evalOp, hop] at he
  split at he
  · rename_i n q cs i ht hx hi
    cases hb : ltB i n with
    | false => simp [hb] at he
    | true =>
      simp only [hb, cond_true] at he
      split at he
      · rename_i u hu
        simp only [Option.some.injEq, Prod.mk.injEq] at he
        obtain ⟨rfl, rfl⟩ := he
        exact .of_op (m' := m) (op_index_arr h hop ht hx hi (ltB_iff.1 hb) hu) hd
      · cases he
  · rename_i z i ht hx hi
    split at he
    · rename_i c hc
      simp only [Option.some.injEq, Prod.mk.injEq] at he
      obtain ⟨rfl, rfl⟩ := he
      exact .of_op (m' := m) (op_index_str h hop ht hx hi hc) hd
    · cases he
  · cases he

theorem ev_extract (h : Rel C vars nt G lb κ w a m) (hd : ∀ t, o.dst = some t → t < nt) {x : Operand} {ix : Nat} (hop : o.op = .extract x ix) (he : evalOp C T Y (rdM false m) (getE m.L) m.st f mv o = some (v, e)) : StepOk C vars nt G lb κ w a (wrM vars (effM m e) o.dst v) o := by
  simp only [evalOp, hop] at he
  split at he
  · rename_i vs hx
    split at he
    · rename_i u hu
      simp only [Option.some.injEq, Prod.mk.injEq] at he
      obtain ⟨rfl, rfl⟩ := he
      exact .of_op (m' := m) (op_extract h hop hx hu) hd
    · cases he
  · cases he

theorem ev_range (h : Rel C vars nt G lb κ w a m) (hd : ∀ t, o.dst = some t → t < nt) {t : TypeId} {x : Operand} (hop : o.op = .range t x) (he : evalOp C T Y (rdM false m) (getE m.L) m.st f mv o = some (v, e)) : StepOk C vars nt G lb κ w a (wrM vars (effM m e) o.dst v) o := by
  simp only [evalOp, hop] at he
  split at he
  · rename_i z ht hx
    simp only [Option.some.injEq, Prod.mk.injEq] at he
    obtain ⟨rfl, rfl⟩ := he
    exact .of_op (op_range_str h hop ht hx) hd
  · rename_i ht hx
    simp only [Option.some.injEq, Prod.mk.injEq] at he
    obtain ⟨rfl, rfl⟩ := he
    exact .of_op (op_range_m0 h hop ht hx) hd
  · rename_i id ht hx
    split at he
    · rename_i es c hg
      simp only [Option.some.injEq, Prod.mk.injEq] at he
      obtain ⟨rfl, rfl⟩ := he
      exact .of_op (op_range_mp h hop ht hx hg) hd
    · cases he
  · cases he

theorem ev_lookup (h : Rel C vars nt G lb κ w a m) (hd : ∀ t, o.dst = some t → t < nt) {t : TypeId} {x y : Operand} {ok : Bool} (hop : o.op = .lookup t x y ok) (he : evalOp C T Y (rdM false m) (getE m.L) m.st f mv o = some (v, e)) : StepOk C vars nt G lb κ w a (wrM vars (effM m e) o.dst v) o := by
  simp only [evalOp, hop] at he
  split at he
  · rename_i kt q xv k ht hx hy
    cases hk : keyOf C.P kt k with
    | false => simp [hk] at he
    | true =>
      simp only [hk, cond_true] at he
      split at he
      · rename_i z hz
        simp only [Option.some.injEq, Prod.mk.injEq] at he
        obtain ⟨rfl, rfl⟩ := he
        exact .of_op (m' := m) (op_lookup_nil h hop ht hx hy hk hz) hd
      · rename_i id z hz
        split at he
        · rename_i es cl hg
          split at he
          · rename_i j u hf
            simp only [Option.some.injEq, Prod.mk.injEq] at he
            obtain ⟨rfl, rfl⟩ := he
            exact .of_op (m' := m) (op_lookup h hop ht hx hy hk hz hg hf) hd
          · rename_i hf
            simp only [Option.some.injEq, Prod.mk.injEq] at he
            obtain ⟨rfl, rfl⟩ := he
            exact .of_op (m' := m) (op_lookup h hop ht hx hy hk hz hg hf) hd
          · cases he
        · cases he
      · cases he
  · cases he

theorem ev_load (h : Rel C vars nt G lb κ w a m) (hd : ∀ t, o.dst = some t → t < nt) {t : TypeId} {x : Operand} (hop : o.op = .load t x) (he : evalOp C T Y (rdM false m) (getE m.L) m.st f mv o = some (v, e)) : StepOk C vars nt G lb κ w a (wrM vars (effM m e) o.dst v) o := by
  simp only [evalOp, hop] at he
  split at he
  · rename_i s off hx
    split at he
    · rename_i u hg
      split at he
      · rename_i u' hu
        cases mv with
        | true =>
          simp only [cond_true, Option.some.injEq, Prod.mk.injEq] at he
          obtain ⟨rfl, rfl⟩ := he
          exact .of_op (op_load_lp_mv h hop hx hg hu) hd
        | false =>
          simp only [cond_false, Option.some.injEq, Prod.mk.injEq] at he
          obtain ⟨rfl, rfl⟩ := he
          exact .of_op (m' := m) (op_load_lp h hop hx hg hu) hd
      · cases he
    · cases he
  · rename_i id off hx
    split at he
    · rename_i cs hg
      split at he
      · rename_i u' hu
        cases mv with
        | true =>
          simp only [cond_true, Option.some.injEq, Prod.mk.injEq] at he
          obtain ⟨rfl, rfl⟩ := he
          exact .of_op (op_load_po_mv h hop hx hg hu) hd
        | false =>
          simp only [cond_false, Option.some.injEq, Prod.mk.injEq] at he
          obtain ⟨rfl, rfl⟩ := he
          exact .of_op (m' := m) (op_load_po h hop hx hg hu) hd
      · cases he
    · cases he
  · rename_i cs off hx
    split at he
    · rename_i u' hu
      simp only [Option.some.injEq, Prod.mk.injEq] at he
      obtain ⟨rfl, rfl⟩ := he
      exact .of_op (m' := m) (op_load_ip h hop hx hu) hd
    · cases he
  · cases he

theorem ev_store (h : Rel C vars nt G lb κ w a m) (hr : Ready vars κ o) (hd : ∀ t, o.dst = some t → t < nt) {t : TypeId} {x y : Operand} (hop : o.op = .store t x y) (he : evalOp C T Y (rdM false m) (getE m.L) m.st f mv o = some (v, e)) : StepOk C vars nt G lb κ w a (wrM vars (effM m e) o.dst v) o := by
  simp only [evalOp, hop] at he
  split at he
  · rename_i s off u hx hy
    cases hb : (stor u && Nat.beq (cellsOf u).length (sizeT C.P t) && hasT C.P t) with
    | false => simp [hb] at he
    | true =>
      simp only [hb, cond_true] at he
      simp only [Bool.and_eq_true] at hb
      split at he
      · rename_i z hg
        split at he
        · rename_i v' hl
          simp only [Option.some.injEq, Prod.mk.injEq] at he
          obtain ⟨rfl, rfl⟩ := he
          exact .of_op (op_store_lp h hop hx hy hb.1.1 (beq_true hb.1.2) (hasT_info hb.2) hg hl hr.fresh) hd
        · cases he
      · cases he
  · rename_i id off u hx hy
    cases hb : (stor u && Nat.beq (cellsOf u).length (sizeT C.P t) && hasT C.P t) with
    | false => simp [hb] at he
    | true =>
      simp only [hb, cond_true] at he
      simp only [Bool.and_eq_true] at hb
      split at he
      · rename_i cs hg
        cases hl : leB (off + (cellsOf u).length) cs.length with
        | false => simp [hl] at he
        | true =>
          simp only [hl, cond_true, Option.some.injEq, Prod.mk.injEq] at he
          obtain ⟨rfl, rfl⟩ := he
          exact .of_op (op_store_po h hop hx hy hb.1.1 (beq_true hb.1.2) (hasT_info hb.2) hg (leB_iff.1 hl) hr.fresh) hd
      · cases he
  · cases he
end
end Go.Mu
end
