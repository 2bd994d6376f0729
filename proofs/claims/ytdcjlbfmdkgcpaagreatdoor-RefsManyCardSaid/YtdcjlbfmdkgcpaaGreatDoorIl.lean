/- What comes in: slices of strings, of names, of writes. No program in sight. -/
import Derived.Test.YtdcjlbfmdkgcpaaGreatDoorIn
import Derived.Test.YtdcjlbfmdkgcpaaGreatDoorCv
import Derived.Deep.Slices
import Derived.Deep.Strs
import Derived.SizedLaws
set_option linter.unusedSimpArgs false
set_option linter.unusedSectionVars false
set_option linter.unusedVariables false
namespace Go.Sl
open Go.RowKit Go.ChangeShapes Go.WideShapes Go.ChangeAt Go.Deep
section
variable {H : Type} {enc : TypeId × Value → H} {P : Program} {w : World} {base' : Nat} {spare : Nat → Bool} {held : Bool}
theorem mem_weightsAll {P : Program} {e : TypeId} {n : Nat} : ∀ {l : List (DataW H)} {d : DataW H}, d ∈ l → n ∈ d.weights P e → n ∈ DataW.weightsAll P e l
  | d0 :: l, d, hd, hn => by
    simp only [DataW.weightsAll, List.mem_append]
    rcases List.mem_cons.1 hd with q | q
    · subst q; exact .inl hn
    · exact .inr (mem_weightsAll q hn)
/-- No part is larger than memory's reach. -/
def Fit (P : Program) (t : TypeId) (d : DataW H) : Prop := ∀ n ∈ d.weights P t, n ≤ reachBytes
/-- A slice that comes in: its elements, by what an element's cells are. -/
theorem in_cells {α : Type} {enc' : α → List Value} {sz : Nat} {t e : TypeId} {fuel : Nat} {cs : List Value} {x : DataW H × List MemPlace} (good : α → Prop) (ht : P.underlying t = some (.slice e)) (hsz : P.cellsOf e = sz) (hpos : 0 < sz)
    (hdec : ∀ fuel cs x, DataW.trod enc P w base' spare held fuel e cs = some x → Fit P e x.1 → ∃ y, cs = enc' y ∧ good y) (hlen : ∀ y, good y → (enc' y).length = sz)
    (hf : DataW.trod enc P w base' spare held fuel t cs = some x) (hfit : Fit P t x.1) : ∃ a cap xs, cs = [.slice a xs.length cap] ∧ SlIs (base w) enc' sz a xs.length xs ∧ (∀ x ∈ xs, good x) ∧ xs.length ≤ maxLen ∧ xs.length * P.bytesOf e ≤ reachBytes := by
  rcases open_slice ht hf with ⟨h1, _⟩ | ⟨a', len, cap, m, n, D, Pl, h1, hb, hl, hm, hmm, hx0, hx⟩
  · subst h1
    exact ⟨none, 0, [], rfl, base_is (fun _ h => by cases h) (.inl rfl) hpos, fun _ h => (by cases h), Nat.zero_le _, by simp⟩
  · subst h1
    have hlm : len ≤ m := by rw [hmm]; split <;> omega
    have hfitD : ∀ i, i < len → Fit P e (D i) := by
      intro i hi n hn
      refine hfit n ?_
      rw [hx0]
      simp only [DataW.weights, ht, List.mem_cons, List.mem_append]
      right; left
      exact mem_weightsAll (List.mem_map.2 ⟨i, List.mem_range.2 hi, rfl⟩) hn
    have hbytes : len * P.bytesOf e ≤ reachBytes := by
      have := hfit ((len + (m - len)) * P.bytesOf e) (by rw [hx0]; simp [DataW.weights, ht])
      refine Nat.le_trans (Nat.mul_le_mul_right _ (by omega)) this
    have key : ∀ i, i < len → ∃ y, good y ∧ ∀ j, j < sz → w.cell? (a'.add (i * sz + j)) = (enc' y)[j]? := by
      intro i hi
      obtain ⟨cs, hc, ht'⟩ := hx i (by omega)
      obtain ⟨y, rfl, hg⟩ := hdec _ _ _ ht' (hfitD i hi)
      rw [hsz] at hc
      obtain ⟨_, hl', hcell⟩ := World.cells?_some hc
      exact ⟨y, hg, fun j hj => by rw [← hcell j hj, Go.Deep.add_add]⟩
    refine ⟨some a', cap, List.ofFn fun i : Fin len => (key i i.2).choose, by simp, ?_, ?_, by simp; omega, by simpa using hbytes⟩
    · refine base_is (fun x hx => ?_) ?_ hpos
      · obtain ⟨i, rfl⟩ := List.mem_ofFn.1 hx
        exact hlen _ (key i i.2).choose_spec.1
      · rcases Nat.eq_zero_or_pos len with q | q
        · left; subst q; rfl
        · right
          have hspot : a'.spot = none := by
            have h0 := (key 0 q).choose_spec.2 0 hpos
            rw [show 0 * sz + 0 = 0 from by omega] at h0
            have hlen0 := hlen _ (key 0 q).choose_spec.1
            rw [List.getElem?_eq_getElem (by omega)] at h0
            have e0 : a'.add 0 = a' := by unfold Addr.add; simp
            rw [e0] at h0
            unfold World.cell? at h0
            split at h0
            · split at h0
              · cases h0
              · rename_i q; cases e : a'.spot with
                | none => rfl
                | some x => rw [e] at q; simp at q
            · cases h0
          obtain ⟨b, o, sp⟩ := a'
          simp only at hspot
          subst hspot
          refine ⟨b, o, rfl, fun i hi => ?_⟩
          have hfl := flat_length (enc := enc') (sz := sz) (xs := List.ofFn fun i : Fin len => (key i i.2).choose) (fun x hx => by
            obtain ⟨i, rfl⟩ := List.mem_ofFn.1 hx
            exact hlen _ (key i i.2).choose_spec.1)
          rw [hfl] at hi
          simp only [List.length_ofFn] at hi
          have hk : i / sz < len := (Nat.div_lt_iff_lt_mul hpos).2 hi
          have hj : i % sz < sz := Nat.mod_lt _ hpos
          have hfa := flat_at (enc := enc') (sz := sz) (xs := List.ofFn fun i : Fin len => (key i i.2).choose) (i := i / sz) (x := (key (i / sz) hk).choose) (fun x hx => by
            obtain ⟨i, rfl⟩ := List.mem_ofFn.1 hx
            exact hlen _ (key i i.2).choose_spec.1) (by simp [hk]) (i % sz) hj
          have ei : i / sz * sz + i % sz = i := by rw [Nat.mul_comm]; exact Nat.div_add_mod i sz
          have hcell := (key (i / sz) hk).choose_spec.2 (i % sz) hj
          rw [ei] at hfa hcell
          rw [hfa, ← hcell, add_off]
    · intro x hx
      obtain ⟨i, rfl⟩ := List.mem_ofFn.1 hx
      exact (key i i.2).choose_spec.1
theorem in_slice {α : Type} {enc' : α → List Value} {sz : Nat} {t e : TypeId} {v : Value} {d : DataW H} {p : List MemPlace} {r : Reach} {b0 : Nat} (good : α → Prop) (ht : P.underlying t = some (.slice e)) (hsz : P.cellsOf e = sz) (hpos : 0 < sz)
    (hdec : ∀ fuel cs x, DataW.trod enc P w base' spare held fuel e cs = some x → Fit P e x.1 → ∃ y, cs = enc' y ∧ good y) (hlen : ∀ y, good y → (enc' y).length = sz)
    (hv : Value.okWide P w r b0 t v) (h : DataW.Trod enc P w base' spare held t v d p) (hfit : Fit P t d) : ∃ a cap xs, v = .slice a xs.length cap ∧ SlIs (base w) enc' sz a xs.length xs ∧ (∀ x ∈ xs, good x) ∧ xs.length ≤ maxLen ∧ xs.length * P.bytesOf e ≤ reachBytes := by
  obtain ⟨a, len, cap, rfl⟩ := okWide_slice ht hv
  obtain ⟨fuel, hf⟩ := h
  obtain ⟨a', cap', xs, h1, h2⟩ := in_cells good ht hsz hpos hdec hlen hf hfit
  simp only [Value.cells, List.cons.injEq, Value.slice.injEq, and_true] at h1
  obtain ⟨rfl, rfl, rfl⟩ := h1
  exact ⟨_, _, xs, rfl, h2⟩
/-- Cells of a string. -/
theorem dec_str {t : TypeId} (ht : P.underlying t = some .string) : ∀ fuel cs x, DataW.trod enc P w base' spare held fuel t cs = some x → Fit P t x.1 → ∃ y : Str, cs = [.string y] ∧ y.size ≤ reachBytes := fun fuel cs x h hf => by
  obtain ⟨s, h1, h3, h2⟩ := DataW.trod_string ht h
  refine ⟨s, h1, hf _ ?_⟩
  rw [h3]
  show s.size ∈ [s.data.toList.length]
  rw [Array.length_toList]
  exact List.mem_singleton.2 rfl
/-- Cells of a write. -/
theorem dec_write {t : TypeId} {f0 f1 f2 : Field} (ht : P.underlying t = some (.struct #[f0, f1, f2])) (h0 : P.underlying f0.type = some .string) (h1 : P.underlying f1.type = some .string) (h2 : P.underlying f2.type = some .bool)
    (o0 : f0.offset = 0) (o1 : f1.offset = 1) (o2 : f2.offset = 2) (c0 : P.cellsOf f0.type = 1) (c1 : P.cellsOf f1.type = 1) (c2 : P.cellsOf f2.type = 1) (ct : P.cellsOf t = 3) :
    ∀ fuel cs x, DataW.trod enc P w base' spare held fuel t cs = some x → Fit P t x.1 → ∃ y : Wr, cs = encW y ∧ y.1.size ≤ reachBytes ∧ y.2.1.size ≤ reachBytes := fun fuel cs x h hf => by
  obtain ⟨y0, y1, y2, m, hx, hl, g0, g1, g2⟩ := trod_struct3 ht h
  rw [ct] at hl
  rw [c0, o0] at g0
  rw [c1, o1] at g1
  rw [c2, o2] at g2
  have hw : ∀ n, n ∈ y0.1.weights P f0.type ∨ n ∈ y1.1.weights P f1.type → n ≤ reachBytes := by
    intro n hn
    refine hf n ?_
    rw [hx]
    simp only [DataW.weights, ht, List.map_cons, List.map_nil, DataW.weightsEach, List.mem_append]
    rcases hn with q | q
    · exact .inl q
    · exact .inr (.inl q)
  match cs, hl with
  | [u0, u1, u2], _ =>
    simp only [List.drop_zero, List.drop_succ_cons, List.take_succ_cons, List.take_zero] at g0 g1 g2
    obtain ⟨a, e0, e0', l0⟩ := DataW.trod_string h0 g0
    obtain ⟨b, e1, e1', l1⟩ := DataW.trod_string h1 g1
    obtain ⟨c, e2, _⟩ := DataW.trod_bool h2 g2
    simp only [List.cons.injEq, and_true] at e0 e1 e2
    subst e0; subst e1; subst e2
    refine ⟨(a, b, c), rfl, hw _ (.inl ?_), hw _ (.inr ?_)⟩
    · rw [e0']; show a.size ∈ [a.data.toList.length]; rw [Array.length_toList]; exact List.mem_singleton.2 rfl
    · rw [e1']; show b.size ∈ [b.data.toList.length]; rw [Array.length_toList]; exact List.mem_singleton.2 rfl
/-- Cells of a byte and an array of bytes. -/
theorem dec_kb {t : TypeId} {f0 f1 : Field} {e : TypeId} {n : Nat} (ht : P.underlying t = some (.struct #[f0, f1])) (h0 : P.underlying f0.type = some (.int .u8)) (h1 : P.underlying f1.type = some (.array n e)) (he : P.underlying e = some (.int .u8))
    (o0 : f0.offset = 0) (o1 : f1.offset = 1) (c0 : P.cellsOf f0.type = 1) (ce : P.cellsOf e = 1) (c1 : P.cellsOf f1.type = n) (ct : P.cellsOf t = n + 1) :
    ∀ fuel cs x, DataW.trod enc P w base' spare held fuel t cs = some x → Fit P t x.1 → ∃ y : UInt8 × List UInt8, cs = .int .u8 (y.1.toNat : Nat) :: u8L y.2 ∧ y.2.length = n := fun fuel cs x h _ => by
  obtain ⟨y0, y1, m, _, hl, g0, g1⟩ := trod_struct2 ht h
  rw [ct] at hl
  rw [c0, o0] at g0
  rw [c1, o1] at g1
  obtain ⟨k, hk⟩ := in_u8 h0 g0
  obtain ⟨bs, hb, hbs⟩ := in_bytes h1 he ce c1 g1
  refine ⟨(k, bs), ?_, hb⟩
  have e : cs = cs.take 1 ++ cs.drop 1 := (List.take_append_drop 1 _).symm
  simp only [List.drop_zero] at hk
  rw [e, hk]
  rw [List.take_of_length_le (by rw [List.length_drop]; omega)] at hbs
  rw [hbs]
  rfl
end
/-- A contract of a function that reads memory of the call's begin, as a call's. -/
theorem calls_of1 {P : Program} {f : FuncId} {args : List Value} {v : Value} {w : World} (h : Fnc P f args [base w] (fun v' L' => v' = v ∧ L' = [base w])) : Calls P f args.toArray w fun e w' => e = .returned v ∧ Below w.heap.size w w' := by
  refine (h w w (fun _ => True) ⟨rfl, rfl, Out.same _, Nat.le_refl _, ?_⟩).mono fun e w' ⟨v', L', h1, ⟨h2, h3⟩, h4⟩ => by
    subst h2; subst h3
    exact ⟨h1, Sat.below (L := [fun _ => True]) h4⟩
  exact ⟨hpOf w, fun _ => none, fun _ => .inr rfl, Hp.le_refl _, fun _ _ e => (by cases e), fun _ _ => rfl, fun _ => none, fun _ => none, fun _ => .inl rfl, fun _ _ e => (by cases e), fun _ _ e => (by cases e), trivial, trivial⟩
end Go.Sl
