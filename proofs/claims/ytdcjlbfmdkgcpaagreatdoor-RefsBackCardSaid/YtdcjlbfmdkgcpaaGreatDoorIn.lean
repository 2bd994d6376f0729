/- What comes in: bytes, arrays of bytes. No program in sight. -/
import Derived.Test.YtdcjlbfmdkgcpaaGreatDoorEq
import Derived.OpenShut
import Derived.ProofKit
import Derived.ChangeSame
import Derived.WideShapes
set_option linter.unusedSimpArgs false
set_option linter.unusedSectionVars false
set_option linter.unusedVariables false
namespace Go.Sl
open Go.RowKit Go.ChangeShapes Go.WideShapes Go.ChangeAt
section
variable {H : Type} {enc : TypeId × Value → H} {P : Program} {w : World} {base : Nat} {spare : Nat → Bool} {held : Bool}
theorem in_u8 {e : TypeId} {fuel : Nat} {cs : List Value} {x : DataW H × List MemPlace} (he : P.underlying e = some (.int .u8)) (h : DataW.trod enc P w base spare held fuel e cs = some x) : ∃ c : UInt8, cs = [.int .u8 (c.toNat : Nat)] := by
  obtain ⟨n, hcs, _, hw⟩ := DataW.trod_int he h
  simp only [Lit.wf, IntKind.min, IntKind.max, IntKind.bits, IntKind.signed, Bool.and_eq_true, decide_eq_true_eq] at hw
  refine ⟨UInt8.ofNat n.toNat, ?_⟩
  rw [hcs, UInt8.toNat_ofNat']
  congr 2
  simp at hw
  omega
theorem in_bytes {t e : TypeId} {n fuel : Nat} {cs : List Value} {x : DataW H × List MemPlace} (ht : P.underlying t = some (.array n e)) (he : P.underlying e = some (.int .u8)) (hc : P.cellsOf e = 1) (hn : P.cellsOf t = n)
    (h : DataW.trod enc P w base spare held fuel t cs = some x) : ∃ bs : List UInt8, bs.length = n ∧ cs = u8L bs := by
  obtain ⟨xs, m, _, rfl, hl, hlen, hf⟩ := DataW.trod_array ht h
  rw [hn] at hl
  have key : ∀ i, i < n → ∃ c : UInt8, cs[i]? = some (.int .u8 (c.toNat : Nat)) := by
    intro i hi
    have h1 := hf i hi
    rw [hc, List.getElem?_eq_getElem (show i < xs.length by omega)] at h1
    obtain ⟨c, hcs⟩ := in_u8 he h1
    refine ⟨c, ?_⟩
    have := congrArg (fun l => l[0]?) hcs
    simpa using this
  refine ⟨List.ofFn fun i : Fin n => (key i i.2).choose, by simp, ?_⟩
  apply List.ext_getElem?
  intro i
  rcases Nat.lt_or_ge i n with q | q
  · rw [(key i q).choose_spec]
    simp [u8L, q]
  · rw [List.getElem?_eq_none (by omega), List.getElem?_eq_none (by simp; omega)]
/-- A struct of a byte and an array of bytes. -/
theorem in_kb {t : TypeId} {f0 f1 : Field} {e : TypeId} {n : Nat} {v : Value} {d : DataW H} {p : List MemPlace} {r : Reach} {b0 : Nat} (ht : P.underlying t = some (.struct #[f0, f1])) (h0 : P.underlying f0.type = some (.int .u8)) (h1 : P.underlying f1.type = some (.array n e)) (he : P.underlying e = some (.int .u8))
    (o0 : f0.offset = 0) (o1 : f1.offset = 1) (c0 : P.cellsOf f0.type = 1) (ce : P.cellsOf e = 1) (c1 : P.cellsOf f1.type = n) (ct : P.cellsOf t = n + 1) (hv : Value.okWide P w r b0 t v)
    (h : DataW.Trod enc P w base spare held t v d p) : ∃ (k : UInt8) (bs : List UInt8), bs.length = n ∧ v = .agg (.int .u8 (k.toNat : Nat) :: u8L bs).toArray := by
  obtain ⟨cs, rfl, hsz⟩ := okWide_struct ht hv
  obtain ⟨fuel, hf⟩ := h
  obtain ⟨y0, y1, m, _, hl, g0, g1⟩ := trod_struct2 ht hf
  simp only [Value.cells] at hl g0 g1
  rw [ct] at hl
  rw [c0, o0] at g0
  rw [c1, o1] at g1
  obtain ⟨k, hk⟩ := in_u8 h0 g0
  obtain ⟨bs, hb, hbs⟩ := in_bytes h1 he ce c1 g1
  refine ⟨k, bs, hb, ?_⟩
  congr 1
  apply Array.ext'
  have e : cs.toList = cs.toList.take 1 ++ cs.toList.drop 1 := (List.take_append_drop 1 _).symm
  simp only [List.drop_zero] at hk
  rw [e, hk]
  rw [List.take_of_length_le (by rw [List.length_drop]; omega)] at hbs
  rw [hbs]
  rfl
end
/-- A contract of a function that needs nothing, as a call's. -/
theorem calls_of {P : Program} {f : FuncId} {args : List Value} {v : Value} (h : Fnc P f args [] (fun v' L' => v' = v ∧ L' = [])) (w : World) : Calls P f args.toArray w fun e w' => e = .returned v ∧ Below w.heap.size w w' :=
  (h w w (base w) (Sat.begin w)).mono fun e w' ⟨v', L', h1, ⟨h2, h3⟩, h4⟩ => by
    subst h2; subst h3; exact ⟨h1, Sat.below h4⟩
end Go.Sl
