/- Merged from the texts Tn3 to Tn3: an evaluator for the program's code and its soundness; how a law's statement follows of one run. No conditions. -/
import Derived.Test.YtmckgecnalaogaaGreatMuH
import Derived.Test.YtmckgecnalaogaaGreatRows
section
/- TxnNil, whole. -/
set_option maxRecDepth 100000
set_option linter.unusedVariables false
set_option linter.constructorNameAsVariable false
namespace Go.Proofs.YtmckgecnalaogaaGreat
open Go.ChangeShapes Go.WideShapes Go.ChangeAt Go.RowKit Go.Mu Go.Tn

theorem trueOf {r : Ans} (h : Tn.isTrue r = true) : ∃ st1, r = some (.b true, st1) := by
  unfold Tn.isTrue at h
  split at h
  · exact ⟨_, rfl⟩
  · cases h
def S1 : FuncId → Option (List V → St → Option (V × St)) := fun f => bif Nat.beq f 10 then some (fun args st => match args with | [] => some (.b true, st) | _ => none) else none
theorem S1_ok : SoundS Tn.C S1 := by
  intro f g hg args st v st' h
  simp only [S1] at hg
  cases hb : Nat.beq f 10 with
  | false => rw [hb] at hg; cases hg
  | true =>
    rw [hb] at hg
    obtain rfl : f = 10 := Nat.eq_of_beq_eq_true hb
    simp only [cond_true, Option.some.injEq] at hg
    subst hg
    cases args with
    | cons a r => cases h
    | nil =>
      simp only [Option.some.injEq, Prod.mk.injEq] at h
      obtain ⟨rfl, rfl⟩ := h
      obtain ⟨st1, h1⟩ := trueOf alive0
      rw [(runG_eq Tn.C S0 400).1] at h1
      obtain ⟨k1, k2⟩ := fixed_sound ((run_ok mixed fnOk S0_ok 400).1) h1 rfl rfl
      exact ⟨k1, k2 st⟩
def st0 : St := { nx := 0, ob := .leaf }
noncomputable def bd6 : Code := match Tryz.f6.body with | some c => c | none => .skip
def opC (k : Int) (a b v : ByteArray) : List V := [.i .i64 k, .s a, .s b, .s v]
def yes : Ans := some (.b true, st0)
theorem tree6 (k n : Int) (a b v : ByteArray) :
    evalCodeK Tn.C (runG Tn.C S1 399).1 (runG Tn.C S1 399).2 6 399 bd6 { env := [(0, .ag (opC k a b v)), (1, .i .i64 n)], tp := [], L := [], st := st0 } (endK Tn.C Tryz.f6) =
      bif decide ((60 : Int) < (a.size : Int)) then yes else bif decide ((60 : Int) < (b.size : Int)) then yes else bif decide ((60 : Int) < (v.size : Int)) then yes else
        some (.b true, { nx := 1, ob := PT.node PT.leaf (some (.cells [.i .i64 n])) PT.leaf }) := by kernel_rfl
theorem bif_st {p : Bool} {x y : Ans} (hx : ∃ st1, x = some (.b true, st1)) (hy : ∃ st1, y = some (.b true, st1)) : ∃ st1, (bif p then x else y) = some (.b true, st1) := by cases p <;> assumption
theorem run6 (k n : Int) (a b v : ByteArray) : ∃ st1, runF Tn.C S1 400 6 [.ag (opC k a b v), .i .i64 n] st0 = some (.b true, st1) := by
  obtain ⟨st1, h1⟩ := (show ∃ st1, evalCodeK Tn.C (runG Tn.C S1 399).1 (runG Tn.C S1 399).2 6 399 bd6 { env := [(0, .ag (opC k a b v)), (1, .i .i64 n)], tp := [], L := [], st := st0 } (endK Tn.C Tryz.f6) = some (V.b true, st1) by
    rw [tree6]; exact bif_st ⟨_, rfl⟩ (bif_st ⟨_, rfl⟩ (bif_st ⟨_, rfl⟩ ⟨_, rfl⟩)))
  refine ⟨st1, Eq.trans ?_ h1⟩
  rw [(runG_eq Tn.C S1 399).1, (runG_eq Tn.C S1 399).2]
  have e : ∀ args st, runF Tn.C S1 (399 + 1) 6 args st = evalFn Tn.C (runF Tn.C S1 399) (runY Tn.C S1 399) 399 6 args st := fun args st => by rw [runF]; rfl
  rw [show (400 : Nat) = 399 + 1 from rfl, e]
  exact evalFn_K Tn.C _ _ 399 (fn := Tryz.f6) (c := bd6) Tryz.func6 (by kernel_rfl) _ _ rfl

theorem own : ownKnob Tryz.prog.godebug = none := by kernel_rfl

theorem contract (H : Type) (enc : TypeId × Value → H) (W : World) (base : Nat) (args : Array Value) (ds gs : List (DataW H)) (before : List MemPlace)
    (hval : ∀ (j : Nat) t v, Tryz.f6.params[j]? = some t → args[j]? = some v → Value.okWide Tryz.prog W .any base t v)
    (hW : DataW.Whole enc Tryz.prog Tryz.f6.params.toList Rows.txnNilSpec.vars false W args.toList ds gs before) :
    Calls Tryz.prog 6 args W fun e W' => ∃ v, e = .returned v ∧ Rows.txnNilSpec.post enc Tryz.prog Tryz.f6 false true false false W args v W' := by
  have hW' := hW
  obtain ⟨p, q, hA0, hV, rfl, hfz, hnd⟩ := hW
  have hA : DataW.TrodAll enc Tryz.prog W 0 (fun _ => true) true Tryz.f6.params.toList args.toList ds p := hA0
  rw [Tryz.params6] at hA hval
  obtain ⟨v0, vs0, d0, ds0, p0, q0, hargs, rfl, rfl, h0, r0⟩ := trodAll_cons hA
  obtain ⟨v1, vs1, d1, ds1, p1, q1, hargs1, rfl, rfl, h1, r1⟩ := trodAll_cons r0
  obtain ⟨rfl, rfl, rfl⟩ := trodAll_nil r1
  subst hargs1
  obtain rfl : args = #[v0, v1] := by apply Array.ext'; simpa using hargs
  have e0 : shapeOf Tryz.prog 20 32 = some [.i .i64, .s, .s, .s] := by kernel_rfl
  have e1 : shapeOf Tryz.prog 20 3 = some [.i .i64] := by kernel_rfl
  obtain ⟨x, hx, hpx, hax, hsx⟩ := arg_of h0 (hval 0 32 v0 rfl rfl) e0
  obtain ⟨y, hy, hpy, hay, hsy⟩ := arg_of h1 (hval 1 3 v1 rfl rfl) e1
  rw [show isAggT Tryz.prog 32 = true by kernel_rfl] at hax
  rw [show isAggT Tryz.prog 3 = false by kernel_rfl] at hay
  obtain ⟨k, a, b, v, rfl⟩ : ∃ k a b v, x = .ag (opC k a b v) := by
    cases x <;> simp only [isAg] at hax <;> try cases hax
    simp only [cellsOf, SatL, SatC] at hsx
    obtain ⟨_, _, rfl, ⟨k, rfl, _⟩, _, _, rfl, ⟨a, rfl, _⟩, _, _, rfl, ⟨b, rfl, _⟩, _, _, rfl, ⟨v, rfl, _⟩, rfl⟩ := hsx
    exact ⟨k, a, b, v, rfl⟩
  obtain ⟨n, rfl⟩ : ∃ n, y = .i .i64 n := by
    simp only [SatL, SatC] at hsy
    obtain ⟨u, q, hu, ⟨n, rfl, _⟩, rfl⟩ := hsy
    cases y <;> simp only [cellsOf, List.cons.injEq, and_true] at hu <;> first | exact ⟨n, hu⟩ | (simp only [isAg] at hay; cases hay) | cases hu
  obtain ⟨st1, hr⟩ := run6 k n a b v
  have hg : Given (Gh.start W) [.ag (opC k a b v), .i .i64 n] [v0, v1] := given_plain rfl fun j w c hj hc => by
    match j with
    | 0 => simp at hj hc; subst hj; subst hc; exact ⟨hx, hpx⟩
    | 1 => simp at hj hc; subst hj; subst hc; exact ⟨hy, hpy⟩
    | j + 2 => simp at hj
  refine (law_calls (run_ok mixed fnOk S1_ok 400).1 hr hg).mono fun e W' he => ?_
  obtain ⟨rfl, h1, h2, h3, h4⟩ := he
  refine ⟨_, rfl, law_post (tb := 4) (by kernel_rfl) ?_ rfl (by kernel_rfl) (by kernel_rfl) hW' (fun e => by subst e; rfl) ⟨h1, h2, h3, h4⟩⟩
  have : Tryz.f6.params.toList.all (fun t => Tryz.prog.readableRec t && decide (t < Tryz.prog.types.size)) = true := by kernel_rfl
  intro t ht
  have := List.all_eq_true.1 this t ht
  rw [Bool.and_eq_true] at this
  exact ⟨this.1, of_decide_eq_true this.2⟩

theorem lifted (os : Os) (started : os.Started) (H : Type) (enc : TypeId × Value → H) :
    ReturnsInHanded {} Tryz.checked os 6 .any (Rows.txnNilSpec.pre6 enc Tryz.prog Tryz.f6 Rows.txnNilRow.domain false) (Rows.txnNilSpec.post enc Tryz.prog Tryz.f6 false true false false) := by
  refine returnsInHanded_of_change (C := Tryz.checked) own started (by kernel_rfl) Tryz.func6
    (ChangeSpec.witness6 (enc := enc) (C := Tryz.checked) false ⟨#[], #[.agg #[.int .i64 0, .string ⟨#[]⟩, .string ⟨#[]⟩, .string ⟨#[]⟩], .int .i64 0], []⟩ 30 (by kernel_rfl) (by kernel_rfl) (by kernel_rfl) (by kernel_rfl)) ?_
  intro W base args ds gs before hval hW _ _
  exact contract H enc W base args ds gs before hval hW

theorem txnNil_holds : Rows.TxnNilSaid :=
  OpenClaim.holds_of_wide 6 Tryz.f6 rfl rfl rfl rfl rfl rfl rfl ⟨rfl, rfl, rfl, rfl, rfl⟩ rfl rfl rfl rfl rfl (by kernel_rfl) Tryz.func6 (by kernel_rfl)
    (of_decide_eq_true (by kernel_rfl)) (by unfold Func.isWrapper; first | (rw [if_pos (by decide +kernel)]; kernel_rfl) | (rw [if_neg (by decide +kernel)]; exact ⟨rfl, rfl⟩))
    (fun os started H enc _ => lifted os started H enc)
#print axioms txnNil_holds
end Go.Proofs.YtmckgecnalaogaaGreat
end
