/- Equality of byte arrays, of structs. No program in sight. -/
import Derived.Test.YtdcjlbfmdkgcpaaGreatDoorCv
import Derived.ChangeKeysEq
set_option linter.unusedSimpArgs false
set_option linter.unusedSectionVars false
set_option linter.unusedVariables false
namespace Go.Sl
open Go.RowKit

abbrev u8L (bs : List UInt8) : List Value := bs.map fun c => .int .u8 (c.toNat : Nat)
theorem u8_beq (a b : UInt8) : (((a.toNat : Nat) : Int) == ((b.toNat : Nat) : Int)) = decide (a = b) := by
  by_cases h : a = b
  · simp [h]
  · have : ¬ ((a.toNat : Nat) : Int) = ((b.toNat : Nat) : Int) := fun q => h (UInt8.toNat_inj.1 (by omega))
    simp only [h, decide_false]
    exact beq_eq_false_iff_ne.2 this
theorem eqItems_u8 {P : Program} {e : TypeId} (w : World) (d : Nat) (he : P.underlying e = some (.int .u8)) (hp : P.plainKey e = true) {xs ys : List UInt8} (hl : xs.length = ys.length) : ∀ (is : List Nat), (∀ i ∈ is, i < xs.length) →
    (Op.eqItems (d + 1) e 1 (u8L xs).toArray (u8L ys).toArray is).run P w = .ok (is.all fun i => decide (xs[i]? = ys[i]?)) w
  | [], _ => by simp [Op.eqItems]
  | i :: is, h => by
    have hi := h i List.mem_cons_self
    have hx : (u8L xs).toArray[i * 1]? = some (.int .u8 ((xs[i].toNat : Nat))) := by simp [hi]
    have hy : (u8L ys).toArray[i * 1]? = some (.int .u8 ((ys[i]'(by omega)).toNat : Nat)) := by simp [hl ▸ hi]
    have ih := eqItems_u8 w d he hp hl is (fun j hj => h j (List.mem_cons_of_mem _ hj))
    simp only [Op.eqItems, Sem.run_bind, run_part_plain w hp hx, run_part_plain w hp hy, Result.andThen_ok, run_equalIn_int w d e .u8 .u8 _ _ he, u8_beq]
    have e1 : xs[i]? = some xs[i] := List.getElem?_eq_getElem hi
    have e2 : ys[i]? = some (ys[i]'(by omega)) := List.getElem?_eq_getElem (by omega)
    simp only [List.all_cons, e1, e2, Option.some.injEq]
    by_cases q : xs[i] = ys[i]'(by omega)
    · simp [q, ih]
    · simp [q]
theorem equal_u8 {P : Program} {t e : TypeId} {n : Nat} (w : World) (d : Nat) (ht : P.underlying t = some (.array n e)) (he : P.underlying e = some (.int .u8)) (hc : P.cellsOf e = 1) {xs ys : List UInt8} (hx : xs.length = n) (hy : ys.length = n) :
    (Op.equalIn (d + 2) t (.agg (u8L xs).toArray) (.agg (u8L ys).toArray)).run P w = .ok (decide (xs = ys)) w := by
  obtain ⟨i, hi⟩ := info_of_underlying he
  have hp : P.plainKey e = true := by simp [Program.plainKey, he]
  rw [run_equalIn_array w (d + 1) _ _ ht hi, hc, eqItems_u8 w d he hp (by omega) _ (fun i hi => by simp at hi; omega)]
  congr 1
  by_cases q : xs = ys
  · subst q; simp
  · rw [show decide (xs = ys) = false from by simp [q], List.all_eq_false]
    apply Classical.byContradiction
    intro hno
    apply q
    apply List.ext_getElem?
    intro i
    by_cases hi : i < n
    · apply Classical.byContradiction
      intro hne
      exact hno ⟨i, by simp [hi], by simp [hne]⟩
    · rw [List.getElem?_eq_none (by omega), List.getElem?_eq_none (by omega)]
end Go.Sl
namespace Go.Sl
theorem cells_of {P : Program} {t : TypeId} {d : TypeDesc} {n : Nat} (hu : P.underlying t = some d) (hs : ∀ w, (sizeOf t).run P w = .ok n w) : P.cellsOf t = n := by
  obtain ⟨i, hi⟩ := info_of_underlying hu
  have h1 := run_sizeOf (P := P) default hi
  rw [hs default] at h1
  injection h1 with h2
  exact h2.symm
end Go.Sl
namespace Go.Sl
theorem eq_struct {P : Program} {t : TypeId} {fs : List Field} {xs ys : Array Value} (w : World) (d : Nat) (hu : P.underlying t = some (.struct fs.toArray)) (hp : P.stoodInHeld t = false) :
    (Op.equalIn (d + 1) t (.agg xs) (.agg ys)).run P w = (Op.eqFields d xs ys fs).run P w := by
  have e : P.fieldsOf t = fs.toArray := by simp [Program.fieldsOf, hu]
  rw [run_equalIn_struct w d t xs ys (by rw [e]; exact hu) hp, e]
theorem eqF_nil {P : Program} {xs ys : Array Value} (w : World) (d : Nat) : (Op.eqFields d xs ys []).run P w = .ok true w := by simp [Op.eqFields]
theorem eqF_cons {P : Program} {xs ys : Array Value} {f : Field} {fs : List Field} {a b : Value} {r q : Bool} (w : World) (d : Nat) (hf : f.name ≠ "_") (ha : (part f.type xs f.offset).run P w = .ok a w) (hb : (part f.type ys f.offset).run P w = .ok b w)
    (hr : (Op.equalIn d f.type a b).run P w = .ok r w) (hq : (Op.eqFields d xs ys fs).run P w = .ok q w) : (Op.eqFields d xs ys (f :: fs)).run P w = .ok (r && q) w := by
  simp only [Op.eqFields, hf, ne_eq, not_false_eq_true, if_true, Sem.run_bind, ha, hb, Result.andThen_ok, hr]
  cases r <;> simp [hq]
theorem part_cell {P : Program} {t : TypeId} {xs : List Value} {i : Nat} {v : Value} (w : World) (h : ∀ w, (isAgg t).run P w = .ok false w) (hv : xs[i]? = some v) : (part t xs.toArray i).run P w = .ok v w := by
  simp [part, h, hv]
theorem part_agg {P : Program} {t : TypeId} {xs ys : List Value} {i k : Nat} (w : World) (h : ∀ w, (isAgg t).run P w = .ok true w) (hs : ∀ w, (sizeOf t).run P w = .ok k w) (hv : (xs.drop i).take k = ys) : (part t xs.toArray i).run P w = .ok (.agg ys.toArray) w := by
  subst hv
  simp only [part, Sem.run_bind, h, Result.andThen_ok, if_true, hs, Sem.run_pure]
  congr 3
  apply Array.ext'
  simp [List.take_drop]
end Go.Sl
