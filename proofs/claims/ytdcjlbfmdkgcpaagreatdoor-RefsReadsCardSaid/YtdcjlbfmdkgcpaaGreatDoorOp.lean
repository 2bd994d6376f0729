/- More rules: structs built, slices laid out, conversions, interfaces, closures, ranges over strings. No program in sight. -/
import Derived.Test.YtdcjlbfmdkgcpaaGreatDoorRg
set_option linter.unusedSimpArgs false
set_option linter.unusedSectionVars false
set_option linter.unusedVariables false
namespace Go.Sl
open Go.RowKit

section rules
variable {P : Program} {g : World} {n : Nat} {s : Env} {L : List HP} {Q : Exit → Act → World → Prop} {ops : Array Oper} {rest : List Oper}
variable {d : Nat} {x y z : Operand} {ty T U : TypeId} {pos : String} {af : Array Edge} {v v' u : Value}
variable {α : Type} {enc : α → List Value} {sz : Nat} {a : Option Addr} {len : Nat} {xs : List α} {K : Act → World → Prop}

/-! Structs -/
def cellsL : Value → List Value
  | .agg cs => cs.toList
  | v => [v]
theorem cellsL_eq (v : Value) : v.cells.toList = cellsL v := by cases v <;> rfl
def bld (places : List (Nat × Nat)) : List Value → List (Nat × Value) → Option (List Value)
  | cells, [] => some cells
  | cells, (i, v) :: r => match places[i]? with
    | some (off, size) => if (cellsL v).length = size ∧ 0 < size then match setR cells off (cellsL v) with
      | some cells' => bld places cells' r
      | none => none
      else none
    | none => none
/-- What a struct type's fields are: where each lies, and how large it is. -/
class StT (P : Program) (T : TypeId) (places : outParam (List (Nat × Nat))) : Prop where
  run : ∃ fields, (∀ w, (underlying T).run P w = .ok (.struct fields) w) ∧ ∀ w, (fields.mapM (m := Sem) fun f => Prod.mk f.offset <$> sizeOf f.type).run P w = .ok places.toArray w
theorem setR_len : ∀ {vs cells r : List Value} {o : Nat}, setR cells o vs = some r → r.length = cells.length ∧ (vs = [] ∨ o + vs.length ≤ cells.length)
  | [], cells, r, o, h => by simp [setR] at h; subst h; exact ⟨rfl, .inl rfl⟩
  | v :: vs, cells, r, o, h => by
    simp only [setR] at h
    split at h
    · rename_i q e
      obtain ⟨h1, rfl⟩ := setN_eq e
      obtain ⟨h2, h3⟩ := setR_len h
      refine ⟨by simpa using h2, .inr ?_⟩
      rcases h3 with rfl | h3
      · simp; omega
      · simp at h3 ⊢; omega
    · cases h
theorem setR_fold : ∀ {vs cells r : List Value} {o k : Nat}, k ≤ o → setR cells o vs = some r → (vs.zipIdx k).foldl (fun (cs : Array Value) (x : Value × Nat) => cs.setIfInBounds (o - k + x.2) x.1) cells.toArray = r.toArray := by
  intro vs
  induction vs with
  | nil => intro cells r o k _ h; simp [setR] at h; subst h; simp
  | cons v vs ih =>
    intro cells r o k hk h
    simp only [setR] at h
    split at h
    · rename_i q e
      obtain ⟨h1, rfl⟩ := setN_eq e
      have h2 := ih (o := o + 1) (k := k + 1) (by omega) h
      rw [← h2]
      simp only [List.zipIdx_cons, List.foldl_cons, List.setIfInBounds_toArray]
      rw [show o + 1 - (k + 1) = o - k from by omega, show o - k + k = o from by omega]
    · cases h
theorem fill_bld {places : List (Nat × Nat)} : ∀ {parts : List (Nat × Value)} {cells vs : List Value}, bld places cells parts = some vs → Instr.fill (places.toArray[·]?) cells.toArray parts = some vs.toArray
  | [], cells, vs, h => by simp [bld] at h; subst h; rfl
  | (i, v) :: r, cells, vs, h => by
    simp only [bld] at h
    split at h
    · rename_i off size hp
      split at h
      · rename_i hsz
        split at h
        · rename_i cells' hset
          obtain ⟨hl, hle⟩ := setR_len hset
          have hv : v.cells.size = size := by rw [← hsz.1, ← cellsL_eq]; simp
          have hfit : ¬ (off + v.cells.size > cells.toArray.size) := by
            have e : (cellsL v).length = v.cells.size := by rw [← cellsL_eq]; simp
            rcases hle with q | q
            · rw [q] at hsz; simp at hsz; omega
            · simp; omega
          simp only [Instr.fill, List.getElem?_toArray, hp]
          have : (v.cells.zipIdx.foldl (fun cs (c, j) => cs.setIfInBounds (off + j) c) cells.toArray) = cells'.toArray := by
            rw [← Array.foldl_toList, Array.toList_zipIdx, cellsL_eq, ← setR_fold (Nat.zero_le off) hset]
            rfl
          simp only [hv, ne_eq, not_true_eq_false, decide_false, Bool.false_or, Bool.or_eq_true, decide_eq_true_eq]
          rw [if_neg (by rw [← hv]; simpa using hfit)]
          rw [this]
          have := fill_bld h
          simpa using this
        · cases h
      · cases h
    · cases h
theorem bd {places : List (Nat × Nat)} {zs vs : List Value} {parts : List (Nat × Operand)} {vals : List (Nat × Value)} [st : StT P T places] [zz : Zv P T (.agg zs.toArray)] (hn : Nat.blt d n = true)
    (hp : parts.mapM (m := Option) (fun p => (ev s p.2).map fun v => (p.1, v)) = some vals) (hv : bld places zs vals = some vs)
    (next : At g n ((d, .agg vs.toArray) :: s) L (wpList P ops Q rest)) : At g n s L (wpList P ops Q (⟨some d, .build T parts.toArray, ty, pos, af, none⟩ :: rest)) :=
  op_pure rfl rfl hn (fun a w ha => by
    obtain ⟨fields, hu, hm⟩ := st.run
    have hf := fill_bld hv
    have he : parts.map (fun p => (p.1, a.eval p.2)) = vals := by
      have key : ∀ (l : List (Nat × Operand)) (r : List (Nat × Value)), l.mapM (m := Option) (fun p => (ev s p.2).map fun v => (p.1, v)) = some r → l.map (fun p => (p.1, a.eval p.2)) = r := by
        intro l
        induction l with
        | nil => intro r h; simp at h; subst h; rfl
        | cons p l ih =>
          intro r h
          simp only [List.mapM_cons, Option.bind_eq_bind, Option.bind_eq_some_iff, Option.map_eq_some_iff, Option.pure_def, Option.some.injEq] at h
          obtain ⟨x, ⟨v, h1, rfl⟩, r', h2, rfl⟩ := h
          simp [ih r' h2, ha.ev h1]
      exact key parts vals hp
    have hc : (Value.agg zs.toArray).cells = zs.toArray := rfl
    simp only [execOp, List.map_toArray, he]
    simp at hf
    simp [Instr.build, zz.run, hu, hm, hc, hf]) next

theorem bdQ {places : List (Nat × Nat)} {zs vs : List Value} {parts : List (Nat × Operand)} {vals : List (Nat × Value)} [st : StT P T places] [zz : Zv P T (.agg zs.toArray)] (hn : Nat.blt d n = true)
    (hp : parts.mapM (m := Option) (fun p => (ev s p.2).map fun v => (p.1, v)) = some vals) (hv : bld places zs vals = some vs)
    (next : AtQ P g n ((d, .agg vs.toArray) :: s) L ops Q rest) : AtQ P g n s L ops Q (⟨some d, .build T parts.toArray, ty, pos, af, none⟩ :: rest) :=
  opQ_pure rfl rfl hn (fun a w ha => by
    obtain ⟨fields, hu, hm⟩ := st.run
    have hf := fill_bld hv
    have he : parts.map (fun p => (p.1, a.eval p.2)) = vals := by
      have key : ∀ (l : List (Nat × Operand)) (r : List (Nat × Value)), l.mapM (m := Option) (fun p => (ev s p.2).map fun v => (p.1, v)) = some r → l.map (fun p => (p.1, a.eval p.2)) = r := by
        intro l
        induction l with
        | nil => intro r h; simp at h; subst h; rfl
        | cons p l ih =>
          intro r h
          simp only [List.mapM_cons, Option.bind_eq_bind, Option.bind_eq_some_iff, Option.map_eq_some_iff, Option.pure_def, Option.some.injEq] at h
          obtain ⟨x, ⟨v, h1, rfl⟩, r', h2, rfl⟩ := h
          simp [ih r' h2, ha.ev h1]
      exact key parts vals hp
    have hc : (Value.agg zs.toArray).cells = zs.toArray := rfl
    simp only [execOp, List.map_toArray, he]
    simp at hf
    simp [Instr.build, zz.run, hu, hm, hc, hf]) next
theorem bdY {places : List (Nat × Nat)} {zs vs : List Value} {parts : List (Nat × Operand)} {vals : List (Nat × Value)} [st : StT P T places] [zz : Zv P T (.agg zs.toArray)]
    (hp : parts.mapM (m := Option) (fun p => (ev s p.2).map fun v => (p.1, v)) = some vals) (hv : bld places zs vals = some vs) :
    Yl P g n s L ⟨some d, .build T parts.toArray, ty, pos, af, none⟩ (.agg vs.toArray) :=
  opY_pure rfl rfl (fun a w ha => by
    obtain ⟨fields, hu, hm⟩ := st.run
    have hf := fill_bld hv
    have he : parts.map (fun p => (p.1, a.eval p.2)) = vals := by
      have key : ∀ (l : List (Nat × Operand)) (r : List (Nat × Value)), l.mapM (m := Option) (fun p => (ev s p.2).map fun v => (p.1, v)) = some r → l.map (fun p => (p.1, a.eval p.2)) = r := by
        intro l
        induction l with
        | nil => intro r h; simp at h; subst h; rfl
        | cons p l ih =>
          intro r h
          simp only [List.mapM_cons, Option.bind_eq_bind, Option.bind_eq_some_iff, Option.map_eq_some_iff, Option.pure_def, Option.some.injEq] at h
          obtain ⟨x, ⟨v, h1, rfl⟩, r', h2, rfl⟩ := h
          simp [ih r' h2, ha.ev h1]
      exact key parts vals hp
    have hc : (Value.agg zs.toArray).cells = zs.toArray := rfl
    simp only [execOp, List.map_toArray, he]
    simp at hf
    simp [Instr.build, zz.run, hu, hm, hc, hf])
/-! Slices laid out -/
class SlE (P : Program) (T : TypeId) (e k : outParam Nat) (zs : outParam Value) : Prop where
  run : ∀ w, (underlying T).run P w = .ok (.slice e) w
  size : ∀ w, (sizeOf e).run P w = .ok k w
  zero : ∀ w, (zeroValue e).run P w = .ok zs w
theorem fill_rows {k : Nat} (hk : 0 < k) : ∀ (vals : List Value) (done cells : List Value) (j : Nat), (∀ v ∈ vals, (cellsL v).length = k) → done.length = j * k → cells.length = vals.length * k →
    Instr.fill (fun i => some (i * k, k)) (done ++ cells).toArray (vals.zipIdx j |>.map fun p => (p.2, p.1)) = some (done ++ vals.flatMap cellsL).toArray
  | [], done, cells, j, _, _, hc => by
    have : cells = [] := List.eq_nil_of_length_eq_zero (by simpa using hc)
    subst this; simp [Instr.fill]
  | v :: vals, done, cells, j, hv, hd, hc => by
    have hv0 := hv v List.mem_cons_self
    have hset := setR_app (vs := cellsL v) (l1 := done) (l2 := cells) (by rw [hv0, hc]; simp [Nat.add_mul])
    have hfold := setR_fold (k := 0) (Nat.zero_le _) hset
    have hcs : v.cells.size = k := by rw [← hv0, ← cellsL_eq]; simp
    have hfit : ¬ ((v.cells.size ≠ k || decide (j * k + v.cells.size > (done ++ cells).toArray.size)) = true) := by
      simp only [hcs, List.size_toArray, List.length_append, hd, hc, List.length_cons, Nat.add_mul]
      simp
    simp only [List.zipIdx_cons, List.map_cons, Instr.fill]
    rw [if_neg hfit]
    have e : (v.cells.zipIdx.foldl (fun cs (c, j') => cs.setIfInBounds (j * k + j') c) (done ++ cells).toArray) = (done ++ cellsL v ++ cells.drop k).toArray := by
      rw [← Array.foldl_toList, Array.toList_zipIdx, cellsL_eq]
      rw [hv0] at hfold
      rw [← hfold, hd]
      rfl
    have ih := fill_rows hk vals (done ++ cellsL v) (cells.drop k) (j + 1) (fun u hu => hv u (List.mem_cons_of_mem _ hu)) (by simp [hd, hv0, Nat.add_mul]) (by simp [hc, Nat.add_mul])
    rw [e, ih]
    simp
theorem run_buildSlice {e k : Nat} {zv : Value} [sl : SlT P T e k] [zz : Zv P e zv] (hz : zv.cells.size = k) (hk : 0 < k) {vals : List Value} (hne : vals ≠ []) (hv : ∀ v ∈ vals, (cellsL v).length = k) (hbig : vals.length * k ≤ 16777216) (w : World) :
    (Instr.buildSlice T vals.length (vals.zipIdx.map fun p => (p.2, p.1)).toArray).run P w = .ok (.slice (some ⟨w.heap.size, 0, none⟩) vals.length vals.length) (w.alloc (.cells (vals.flatMap cellsL).toArray e)) := by
  have h1 : ¬ (2 ^ 24 < vals.length * k) := by omega
  have h2 : ¬ (vals.length * k = 0) := by
    intro q
    rcases Nat.mul_eq_zero.1 q with q | q
    · exact hne (List.eq_nil_of_length_eq_zero q)
    · omega
  have hf := fill_rows hk vals [] ((List.range (vals.length * k)).map fun i => zv.cells[i % zv.cells.size]!) 0 hv (by simp) (by simp)
  have he : ((Array.range (vals.length * k)).map fun i => zv.cells[i % zv.cells.size]!) = ([] ++ (List.range (vals.length * k)).map fun i => zv.cells[i % zv.cells.size]!).toArray := by
    apply Array.ext'; simp
  unfold Instr.buildSlice
  simp only [Sem.run_bind, sl.run, sl.size, Result.andThen_ok]
  rw [if_neg (by simpa using h1), if_neg h2]
  simp only [Sem.run_bind, zz.run, Result.andThen_ok, Sem.run_pure]
  rw [he, hf]
  simp [newRow]
/-- One element of one cell. -/
theorem bs1 {e : Nat} {zv : Value} [sl : SlT P T e 1] [zz : Zv P e zv] (hz : zv.oneCell' = true) (hn : Nat.blt d n = true) (hx : ev s x = some v) (hv : v.oneCell' = true)
    (next : ∀ b, At g n ((d, .slice (some ⟨b, 0, none⟩) 1 1) :: s) (blk b e [v] :: L) (wpList P ops Q rest)) : At g n s L (wpList P ops Q (⟨some d, .buildSlice T 1 #[(0, x)], ty, pos, af, none⟩ :: rest)) :=
  op_any (fun b => .slice (some ⟨b, 0, none⟩) 1 1) (fun b => blk b e [v] :: L) rfl rfl hn (fun a w ha hw => ⟨w.heap.size, w.alloc (.cells #[v] e), by
    have hc : cellsL v = [v] := by cases v <;> first | rfl | (simp [Value.oneCell'] at hv)
    have hzc : zv.cells.size = 1 := by cases zv <;> first | rfl | (simp [Value.oneCell'] at hz)
    have := run_buildSlice (P := P) (T := T) hzc (by omega) (vals := [v]) (by simp) (by simp [hc]) (by simp) w
    simp [hc] at this
    simp [execOp, ha.ev hx, this], hw.alloc _⟩) next
/-- One element that is a struct. -/
theorem bs1a {e k : Nat} {zs vs : List Value} [sl : SlT P T e k] [zz : Zv P e (.agg zs.toArray)] (hz : zs.length = k) (hk : 0 < k) (hk2 : k ≤ 16777216) (hn : Nat.blt d n = true) (hx : ev s x = some (.agg vs.toArray)) (hv : vs.length = k)
    (next : ∀ b, At g n ((d, .slice (some ⟨b, 0, none⟩) 1 1) :: s) (blk b e vs :: L) (wpList P ops Q rest)) : At g n s L (wpList P ops Q (⟨some d, .buildSlice T 1 #[(0, x)], ty, pos, af, none⟩ :: rest)) :=
  op_any (fun b => .slice (some ⟨b, 0, none⟩) 1 1) (fun b => blk b e vs :: L) rfl rfl hn (fun a w ha hw => ⟨w.heap.size, w.alloc (.cells vs.toArray e), by
    have hc : cellsL (.agg vs.toArray) = vs := rfl
    have := run_buildSlice (P := P) (T := T) (zv := .agg zs.toArray) (by simpa [Value.cells] using hz) hk (vals := [.agg vs.toArray]) (by simp) (by simp [hc, hv]) (by simpa using hk2) w
    simp [hc] at this
    simp [execOp, ha.ev hx, this], hw.alloc _⟩) next
theorem mapM_ev {ps : List (Nat × Operand)} {vals : List (Nat × Value)} {a : Act} (ha : EnvOk n s a) (h : ps.mapM (m := Option) (fun p => (ev s p.2).map fun v => (p.1, v)) = some vals) : ps.map (fun p => (p.1, a.eval p.2)) = vals := by
  induction ps generalizing vals with
  | nil => simp at h; subst h; rfl
  | cons p l ih =>
    simp only [List.mapM_cons, Option.bind_eq_bind, Option.bind_eq_some_iff, Option.map_eq_some_iff, Option.pure_def, Option.some.injEq] at h
    obtain ⟨x, ⟨v, h1, rfl⟩, r', h2, rfl⟩ := h
    simp [ih h2, ha.ev h1]
/-- Several elements. -/
theorem bsL {e k m : Nat} {zv : Value} (vals : List Value) (cs : List Value) {ps : List (Nat × Operand)} [sl : SlT P T e k] [zz : Zv P e zv] (hz : zv.cells.size = k) (hk : 0 < k) (hn : Nat.blt d n = true)
    (hp : ps.mapM (m := Option) (fun p => (ev s p.2).map fun v => (p.1, v)) = some (vals.zipIdx.map fun p => (p.2, p.1))) (hm : m = vals.length) (hne : vals ≠ []) (hv : ∀ v ∈ vals, (cellsL v).length = k) (hbig : vals.length * k ≤ 16777216) (hcs : vals.flatMap cellsL = cs)
    (next : ∀ b, At g n ((d, .slice (some ⟨b, 0, none⟩) m m) :: s) (blk b e cs :: L) (wpList P ops Q rest)) : At g n s L (wpList P ops Q (⟨some d, .buildSlice T m ps.toArray, ty, pos, af, none⟩ :: rest)) :=
  op_any (fun b => .slice (some ⟨b, 0, none⟩) m m) (fun b => blk b e cs :: L) rfl rfl hn (fun a w ha hw => ⟨w.heap.size, w.alloc (.cells cs.toArray e), by
    have := run_buildSlice (P := P) (T := T) hz hk hne hv hbig w
    have he := mapM_ev ha hp
    subst hm; subst hcs
    simp only [execOp, List.map_toArray, he]
    simp [this], hw.alloc _⟩) next

/-! Conversions -/
theorem cvI {k1 k2 : IntKind} {i : Int} {src dst : TypeId} [h1 : Ul P src (.int k1)] [h2 : Ul P dst (.int k2)] (hn : Nat.blt d n = true) (hx : ev s x = some (.int k1 i)) (h : fits k2 i) (next : At g n ((d, .int k2 i) :: s) L (wpList P ops Q rest)) :
    At g n s L (wpList P ops Q (⟨some d, .convert src dst x, ty, pos, af, none⟩ :: rest)) :=
  op_pure rfl rfl hn (fun a w ha => by simp [execOp, ha.ev hx, convert, h1.run, h2.run, Conv.intToInt, show k2.wrap i = i from h]) next
theorem cvIQ {k1 k2 : IntKind} {i : Int} {src dst : TypeId} [h1 : Ul P src (.int k1)] [h2 : Ul P dst (.int k2)] (hn : Nat.blt d n = true) (hx : ev s x = some (.int k1 i)) (h : fits k2 i)
    (next : AtQ P g n ((d, .int k2 i) :: s) L ops Q rest) : AtQ P g n s L ops Q (⟨some d, .convert src dst x, ty, pos, af, none⟩ :: rest) :=
  opQ_pure rfl rfl hn (fun a w ha => by simp [execOp, ha.ev hx, convert, h1.run, h2.run, Conv.intToInt, show k2.wrap i = i from h]) next
theorem cvIY {k1 k2 : IntKind} {i : Int} {src dst : TypeId} [h1 : Ul P src (.int k1)] [h2 : Ul P dst (.int k2)] (hx : ev s x = some (.int k1 i)) (h : fits k2 i) :
    Yl P g n s L ⟨some d, .convert src dst x, ty, pos, af, none⟩ (.int k2 i) :=
  opY_pure rfl rfl (fun a w ha => by simp [execOp, ha.ev hx, convert, h1.run, h2.run, Conv.intToInt, show k2.wrap i = i from h])
theorem cvIW {k1 k2 : IntKind} {i : Int} {src dst : TypeId} [h1 : Ul P src (.int k1)] [h2 : Ul P dst (.int k2)] (hn : Nat.blt d n = true) (hx : ev s x = some (.int k1 i)) (next : At g n ((d, .int k2 (k2.wrap i)) :: s) L (wpList P ops Q rest)) :
    At g n s L (wpList P ops Q (⟨some d, .convert src dst x, ty, pos, af, none⟩ :: rest)) :=
  op_pure rfl rfl hn (fun a w ha => by simp [execOp, ha.ev hx, convert, h1.run, h2.run, Conv.intToInt]) next
theorem cvIWQ {k1 k2 : IntKind} {i : Int} {src dst : TypeId} [h1 : Ul P src (.int k1)] [h2 : Ul P dst (.int k2)] (hn : Nat.blt d n = true) (hx : ev s x = some (.int k1 i))
    (next : AtQ P g n ((d, .int k2 (k2.wrap i)) :: s) L ops Q rest) : AtQ P g n s L ops Q (⟨some d, .convert src dst x, ty, pos, af, none⟩ :: rest) :=
  opQ_pure rfl rfl hn (fun a w ha => by simp [execOp, ha.ev hx, convert, h1.run, h2.run, Conv.intToInt]) next
theorem cvIWY {k1 k2 : IntKind} {i : Int} {src dst : TypeId} [h1 : Ul P src (.int k1)] [h2 : Ul P dst (.int k2)] (hx : ev s x = some (.int k1 i)) :
    Yl P g n s L ⟨some d, .convert src dst x, ty, pos, af, none⟩ (.int k2 (k2.wrap i)) :=
  opY_pure rfl rfl (fun a w ha => by simp [execOp, ha.ev hx, convert, h1.run, h2.run, Conv.intToInt])
def encB (c : UInt8) : List Value := [.int .u8 (c.toNat : Nat)]
theorem flat_encB (bs : List UInt8) : flat encB bs = bs.map fun c => .int .u8 (c.toNat : Nat) := by
  induction bs with
  | nil => rfl
  | cons c bs ih => simp only [flat, List.flatMap_cons, List.map_cons, encB] at ih ⊢; rw [ih]; rfl
theorem foldl_bytes (bs : List UInt8) : (bs.map fun c => ((c.toNat : Nat) : Int)).foldl (fun r n => r.push (UInt8.ofNat n.toNat)) ByteArray.empty = ⟨bs.toArray⟩ := by
  rw [foldl_push_bytes]
  apply ByteArray.ext
  simp [Function.comp_def]
theorem run_bytesToStr {w : World} {a : Option Addr} {len c : Nat} {bs : List UInt8} (h : (Builtin.firstCells 1 len (.slice a len c)).run P w = .ok (flat encB bs).toArray w) :
    (Conv.bytesToString (.slice a len c)).run P w = .ok (.string ⟨bs.toArray⟩) w := by
  cases a with
  | none =>
    simp [Builtin.firstCells] at h
    have : bs = [] := by
      cases bs with
      | nil => rfl
      | cons _ _ => simp [flat, encB] at h
    subst this
    simp [Conv.bytesToString]; rfl
  | some ad =>
    simp only [Builtin.firstCells, Nat.mul_one] at h
    rw [flat_encB] at h
    have := run_bytesToString (P := P) w ad len c (bs.map fun c => ((c.toNat : Nat) : Int)) (by rw [h]; simp [Function.comp_def])
    rw [this, foldl_bytes]
class BytT (P : Program) (T : TypeId) (e : outParam TypeId) : Prop where
  run : ∀ w, (underlying T).run P w = .ok (.slice e) w
  elem : ∀ w, (underlying e).run P w = .ok (.int .u8) w
/-- string(b) -/
theorem cvBS {R : List HP} {src dst e c : Nat} {bs : List UInt8} (A : HP) [t : Take A L R] [b1 : BytT P src e] [s1 : StrT P dst] (h : SlIs A encB 1 a len bs) (hn : Nat.blt d n = true) (hx : ev s x = some (.slice a len c))
    (next : At g n ((d, .string ⟨bs.toArray⟩) :: s) L (wpList P ops Q rest)) : At g n s L (wpList P ops Q (⟨some d, .convert src dst x, ty, pos, af, none⟩ :: rest)) :=
  op_rd rfl rfl hn (fun ac w ha hw => by
    have h1 := run_cells_is (P := P) (A := A) hw h c
    have h2 := run_bytesToStr h1
    simp [execOp, ha.ev hx, convert, b1.run, b1.elem, s1.run, h2]) next
theorem cvBSQ {R : List HP} {src dst e c : Nat} {bs : List UInt8} (A : HP) [t : Take A L R] [b1 : BytT P src e] [s1 : StrT P dst] (h : SlIs A encB 1 a len bs) (hn : Nat.blt d n = true) (hx : ev s x = some (.slice a len c))
    (next : AtQ P g n ((d, .string ⟨bs.toArray⟩) :: s) L ops Q rest) : AtQ P g n s L ops Q (⟨some d, .convert src dst x, ty, pos, af, none⟩ :: rest) :=
  opQ_rd rfl rfl hn (fun ac w ha hw => by
    have h1 := run_cells_is (P := P) (A := A) hw h c
    have h2 := run_bytesToStr h1
    simp [execOp, ha.ev hx, convert, b1.run, b1.elem, s1.run, h2]) next
theorem cvBSY {R : List HP} {src dst e c : Nat} {bs : List UInt8} (A : HP) [t : Take A L R] [b1 : BytT P src e] [s1 : StrT P dst] (h : SlIs A encB 1 a len bs) (hx : ev s x = some (.slice a len c)) :
    Yl P g n s L ⟨some d, .convert src dst x, ty, pos, af, none⟩ (.string ⟨bs.toArray⟩) :=
  opY_rd rfl rfl (fun ac w ha hw => by
    have h1 := run_cells_is (P := P) (A := A) hw h c
    have h2 := run_bytesToStr h1
    simp [execOp, ha.ev hx, convert, b1.run, b1.elem, s1.run, h2])
/-- string of a block's cells that are bytes. -/
theorem cvBSb {src dst e B b : Nat} {bs : List UInt8} {cs : List Value} {fl : List Value → List HP} [i : HasB b B cs L fl] [b1 : BytT P src e] [s1 : StrT P dst] (hcs : cs = flat encB bs) (hl : len = bs.length) (hn : Nat.blt d n = true) (hx : ev s x = some (.slice (some ⟨b, 0, none⟩) len len))
    (next : At g n ((d, .string ⟨bs.toArray⟩) :: s) L (wpList P ops Q rest)) : At g n s L (wpList P ops Q (⟨some d, .convert src dst x, ty, pos, af, none⟩ :: rest)) :=
  op_rd rfl rfl hn (fun ac w ha hw => by
    have h0 := src_blk (P := P) (g := g) (sz := 1) (m := len) (i := i) (by rw [hcs, flat_encB]; simp [hl])
    have h1 := h0.cells w hw
    rw [hcs] at h1
    have h2 := run_bytesToStr h1
    simp [execOp, ha.ev hx, convert, b1.run, b1.elem, s1.run, h2]) next
theorem cvBSbQ {src dst e B b : Nat} {bs : List UInt8} {cs : List Value} {fl : List Value → List HP} [i : HasB b B cs L fl] [b1 : BytT P src e] [s1 : StrT P dst] (hcs : cs = flat encB bs) (hl : len = bs.length) (hn : Nat.blt d n = true) (hx : ev s x = some (.slice (some ⟨b, 0, none⟩) len len))
    (next : AtQ P g n ((d, .string ⟨bs.toArray⟩) :: s) L ops Q rest) : AtQ P g n s L ops Q (⟨some d, .convert src dst x, ty, pos, af, none⟩ :: rest) :=
  opQ_rd rfl rfl hn (fun ac w ha hw => by
    have h0 := src_blk (P := P) (g := g) (sz := 1) (m := len) (i := i) (by rw [hcs, flat_encB]; simp [hl])
    have h1 := h0.cells w hw
    rw [hcs] at h1
    have h2 := run_bytesToStr h1
    simp [execOp, ha.ev hx, convert, b1.run, b1.elem, s1.run, h2]) next
theorem cvBSbY {src dst e B b : Nat} {bs : List UInt8} {cs : List Value} {fl : List Value → List HP} [i : HasB b B cs L fl] [b1 : BytT P src e] [s1 : StrT P dst] (hcs : cs = flat encB bs) (hl : len = bs.length) (hx : ev s x = some (.slice (some ⟨b, 0, none⟩) len len)) :
    Yl P g n s L ⟨some d, .convert src dst x, ty, pos, af, none⟩ (.string ⟨bs.toArray⟩) :=
  opY_rd rfl rfl (fun ac w ha hw => by
    have h0 := src_blk (P := P) (g := g) (sz := 1) (m := len) (i := i) (by rw [hcs, flat_encB]; simp [hl])
    have h1 := h0.cells w hw
    rw [hcs] at h1
    have h2 := run_bytesToStr h1
    simp [execOp, ha.ev hx, convert, b1.run, b1.elem, s1.run, h2])
/-- []byte(s) -/
theorem cvSB {src dst e : Nat} {str : Str} [b1 : BytT P dst e] [s1 : StrT P src] (hn : Nat.blt d n = true) (hx : ev s x = some (.string str)) (hsz : str.size < 9223372036854775808)
    (next : ∀ a' cap', At g n ((d, .slice a' str.size cap') :: s) (osl e encB 1 a' cap' str.data.toList :: L) (wpList P ops Q rest)) : At g n s L (wpList P ops Q (⟨some d, .convert src dst x, ty, pos, af, none⟩ :: rest)) := by
  refine op_any (α := Option Addr × Nat) (fun p => .slice p.1 str.size p.2) (fun p => osl e encB 1 p.1 p.2 str.data.toList :: L) rfl rfl hn (fun c w ha hw => ?_) (fun p => next p.1 p.2)
  obtain ⟨k, hkd⟩ : ∃ k, k = (Question.appendCap str.size 0 e).cut (w.tape w.drawn (Question.appendCap str.size 0 e)) := ⟨_, rfl⟩
  have hk : str.size ≤ k := by rw [hkd]; simp [Question.cut]
  have hw1 : Sat g w.drew L := hw.drew
  have hs1 := hw1.alloc (.cells ((flat encB str.data.toList) ++ List.replicate (k - str.size) (Value.int .u8 0)).toArray e)
  have hN : ((flat encB str.data.toList) ++ List.replicate (k - str.size) (Value.int .u8 0)).length = k := by
    rw [flat_encB]; simp
    have : str.data.size = str.size := rfl
    omega
  have hcells : (str.data.map fun b => Value.int .u8 (b.toNat : Nat)) ++ Array.replicate (k - str.size) (Value.int .u8 0) = ((flat encB str.data.toList) ++ List.replicate (k - str.size) (Value.int .u8 0)).toArray := by
    rw [flat_encB]; apply Array.ext'; simp
  generalize hC : ((flat encB str.data.toList) ++ List.replicate (k - str.size) (Value.int .u8 0)) = C at hs1 hN hcells
  have hfr : Turned (w.drew.alloc (.cells C.toArray e)) ((w.drew.alloc (.cells C.toArray e)).freeze ⟨w.heap.size, k, none⟩ 1) w.heap.size (.cells C.toArray e (k, k + 1)) := by
    have hb : (w.drew.alloc (.cells C.toArray e)).heap[w.heap.size]? = some (.cells C.toArray e) := by
      show (w.heap.push _)[w.heap.size]? = _
      simp
    refine ⟨by simp [World.freeze], by simp [World.freeze], ⟨by simp [World.freeze], by simp [World.freeze]⟩, by simp [World.freeze], ?_⟩
    funext b
    simp only [hpOf, World.freeze, Hp.put]
    rw [if_neg (by omega)]
    simp only [Array.getElem?_modify]
    by_cases q : w.heap.size = b
    · subst q; rw [if_pos rfl, if_pos rfl, hb]; rfl
    · rw [if_neg q, if_neg (fun h => q h.symm)]
  refine ⟨(some ⟨w.heap.size, 0, none⟩, k), (w.drew.alloc (.cells C.toArray e)).freeze ⟨w.heap.size, k, none⟩ 1, ?_, ?_⟩
  · have hsh : (w.drew.alloc (.cells C.toArray e)).shape? w.heap.size = some (e, k) := by
      have hb : (w.drew.alloc (.cells C.toArray e)).heap[w.heap.size]? = some (.cells C.toArray e) := by
        show (w.heap.push _)[w.heap.size]? = _
        simp
      unfold World.shape?; rw [hb]; simp [hN]
    have hr : (Conv.stringToBytes e str).run P w = .ok (.slice (some ⟨w.heap.size, 0, none⟩) str.size k) ((w.drew.alloc (.cells C.toArray e)).freeze ⟨w.heap.size, k, none⟩ 1) := by
      simp [Conv.stringToBytes, Question.forced, ← hkd, newRow, markStringish, hcells, hsh]
    simp [execOp, ha.ev hx, convert, b1.run, b1.elem, s1.run, hr]
  · have := hfr.sat hs1
    refine this.imp fun h q => q.headMono fun hh hq => ⟨fun x hx => rfl, ?_, .inr ⟨w.heap.size, [], List.replicate (k - str.size) (Value.int .u8 0), (k, k + 1), rfl, ?_, ?_, ?_⟩⟩
    · show str.data.toList.length ≤ k
      simpa using hk
    · rw [show hh w.heap.size = _ from hq, ← hC]; simp
    · simp
    · have : ([] ++ flat encB str.data.toList ++ List.replicate (k - str.size) (Value.int .u8 0)).length = k := by rw [List.nil_append, hC, hN]
      rw [this]; exact NoFz.past _ _

/-! Interfaces, function values -/
class MkI (P : Program) (T : TypeId) : Prop where
  run : ∀ v w, (Instr.makeInterface T v).run P w = .ok (.iface T v) w
theorem mi [h : MkI P T] (hn : Nat.blt d n = true) (hx : ev s x = some v) (next : At g n ((d, .iface T v) :: s) L (wpList P ops Q rest)) :
    At g n s L (wpList P ops Q (⟨some d, .makeInterface T x, ty, pos, af, none⟩ :: rest)) :=
  op_pure rfl rfl hn (fun a w ha => by simp [execOp, ha.ev hx, h.run]) next
theorem miQ [h : MkI P T] (hn : Nat.blt d n = true) (hx : ev s x = some v)
    (next : AtQ P g n ((d, .iface T v) :: s) L ops Q rest) : AtQ P g n s L ops Q (⟨some d, .makeInterface T x, ty, pos, af, none⟩ :: rest) :=
  opQ_pure rfl rfl hn (fun a w ha => by simp [execOp, ha.ev hx, h.run]) next
theorem miY [h : MkI P T] (hx : ev s x = some v) :
    Yl P g n s L ⟨some d, .makeInterface T x, ty, pos, af, none⟩ (.iface T v) :=
  opY_pure rfl rfl (fun a w ha => by simp [execOp, ha.ev hx, h.run])
/-- What a method of a dynamic type is: a function, and what it takes for a receiver. -/
class Mth (P : Program) (t : TypeId) (v : Value) (name : String) (f : outParam FuncId) (r : outParam Value) : Prop where
  run : ∀ w, (method (P.types.size + Made.depth) t v name).run P w = .ok (f, r) w
theorem run_enter {f : FuncId} {args : Array Value} {w : World} [c : Ca P f] : (callFunc f args).run P w = .ok (.enter f args) w := c.run args w
/-- A call through an interface value. -/
theorem civ {t f : Nat} {r rv : Value} {nm : String} {xs : List Operand} {vs : List Value} {ats : Array TypeId} {L1 R : List HP} {Q1 : Value → List HP → Prop} [m : Mth P t rv nm f r] [c : Ca P f] (spec : Fnc P f (r :: vs) L1 Q1) (hn : Nat.blt d n = true)
    (hr : ev s x = some (.iface t rv)) (hx : evs s xs = some vs) [p : Pick L1 L R]
    (next : ∀ v L', Q1 v L' → At g n ((d, v) :: s) (L' ++ R) (wpList P ops Q rest)) : At g n s L (wpList P ops Q (⟨some d, .call ⟨.invoke x nm, xs.toArray, ats⟩, ty, pos, af, none⟩ :: rest)) := by
  intro a w ha hw
  have hc := spec g w (Sats R) (hw.imp fun h q => app_frame.1 (p.pick h q))
  refine wpList_plain rfl fun K hK => ?_
  unfold Oper.wp
  have hrun : (execOp a.eval ⟨some d, .call ⟨.invoke x nm, xs.toArray, ats⟩, ty, pos, af, none⟩).run P w = .ok (.enter f (r :: vs).toArray) w := by
    have h1 := ha.evs hx
    have h2 := ha.ev hr
    have h3 : xs.toArray.map a.eval = vs.toArray := by simp [h1]
    simp only [execOp, resolve, h2, h3, Sem.run_bind, Sem.run_pure, Result.andThen_ok, invoke, callMethod]
    simp [callMethod, m.run, c.run]
  rw [hrun, Oper.upon_enter]
  refine hc.mono ?_
  rintro e w' ⟨v, L', rfl, hq, hs⟩
  exact hK _ _ (next v L' hq _ _ (ha.put hn _) (hs.imp fun h q => app_frame.2 q))
/-- A call of a function value. -/
theorem clf {f : FuncId} {fs cap : List Value} {xs : List Operand} {vs : List Value} {ats : Array TypeId} {L1 R : List HP} {Q1 : Value → List HP → Prop} [c : Ca P f] (spec : Fnc P f (fs ++ vs ++ cap) L1 Q1) (hn : Nat.blt d n = true)
    (hf : ev s x = some (.func (.func f) fs.toArray cap.toArray)) (hx : evs s xs = some vs) [p : Pick L1 L R]
    (next : ∀ v L', Q1 v L' → At g n ((d, v) :: s) (L' ++ R) (wpList P ops Q rest)) : At g n s L (wpList P ops Q (⟨some d, .call ⟨.value x, xs.toArray, ats⟩, ty, pos, af, none⟩ :: rest)) := by
  intro a w ha hw
  have hc := spec g w (Sats R) (hw.imp fun h q => app_frame.1 (p.pick h q))
  refine wpList_plain rfl fun K hK => ?_
  unfold Oper.wp
  have hr : (execOp a.eval ⟨some d, .call ⟨.value x, xs.toArray, ats⟩, ty, pos, af, none⟩).run P w = .ok (.enter f (fs ++ vs ++ cap).toArray) w := by
    have h1 := ha.evs hx
    have h2 := ha.ev hf
    simp [execOp, resolve, Deferred.ofValue, h1, h2, invoke, c.run]
  rw [hr, Oper.upon_enter]
  refine hc.mono ?_
  rintro e w' ⟨v, L', rfl, hq, hs⟩
  exact hK _ _ (next v L' hq _ _ (ha.put hn _) (hs.imp fun h q => app_frame.2 q))
theorem mf {f : FuncId} {fs cap : List Operand} {vs us : List Value} (hn : Nat.blt d n = true) (h1 : evs s fs = some vs) (h2 : evs s cap = some us) (next : At g n ((d, .func (.func f) vs.toArray us.toArray) :: s) L (wpList P ops Q rest)) :
    At g n s L (wpList P ops Q (⟨some d, .makeFunc (.func f) fs.toArray cap.toArray, ty, pos, af, none⟩ :: rest)) :=
  op_pure rfl rfl hn (fun a w ha => by
    have e1 := ha.evs h1
    have e2 := ha.evs h2
    simp [execOp, Instr.makeFunc, e1, e2]) next

theorem mfQ {f : FuncId} {fs cap : List Operand} {vs us : List Value} (hn : Nat.blt d n = true) (h1 : evs s fs = some vs) (h2 : evs s cap = some us)
    (next : AtQ P g n ((d, .func (.func f) vs.toArray us.toArray) :: s) L ops Q rest) : AtQ P g n s L ops Q (⟨some d, .makeFunc (.func f) fs.toArray cap.toArray, ty, pos, af, none⟩ :: rest) :=
  opQ_pure rfl rfl hn (fun a w ha => by
    have e1 := ha.evs h1
    have e2 := ha.evs h2
    simp [execOp, Instr.makeFunc, e1, e2]) next
theorem mfY {f : FuncId} {fs cap : List Operand} {vs us : List Value} (h1 : evs s fs = some vs) (h2 : evs s cap = some us) :
    Yl P g n s L ⟨some d, .makeFunc (.func f) fs.toArray cap.toArray, ty, pos, af, none⟩ (.func (.func f) vs.toArray us.toArray) :=
  opY_pure rfl rfl (fun a w ha => by
    have e1 := ha.evs h1
    have e2 := ha.evs h2
    simp [execOp, Instr.makeFunc, e1, e2])
/-! min, max -/
theorem mnI {k : IntKind} {i j : Int} {ats : Array TypeId} (hn : Nat.blt d n = true) (hx : ev s x = some (.int k i)) (hy : ev s y = some (.int k j)) (next : At g n ((d, .int k (if j < i then j else i)) :: s) L (wpList P ops Q rest)) :
    At g n s L (wpList P ops Q (⟨some d, .call ⟨.builtin .min, #[x, y], ats⟩, ty, pos, af, none⟩ :: rest)) :=
  op_pure rfl rfl hn (fun a w ha => by simp [execOp, resolve, invoke, builtin, Builtin.min_, Builtin.min2, ha.ev hx, ha.ev hy]) next
theorem mnIQ {k : IntKind} {i j : Int} {ats : Array TypeId} (hn : Nat.blt d n = true) (hx : ev s x = some (.int k i)) (hy : ev s y = some (.int k j))
    (next : AtQ P g n ((d, .int k (if j < i then j else i)) :: s) L ops Q rest) : AtQ P g n s L ops Q (⟨some d, .call ⟨.builtin .min, #[x, y], ats⟩, ty, pos, af, none⟩ :: rest) :=
  opQ_pure rfl rfl hn (fun a w ha => by simp [execOp, resolve, invoke, builtin, Builtin.min_, Builtin.min2, ha.ev hx, ha.ev hy]) next
theorem mnIY {k : IntKind} {i j : Int} {ats : Array TypeId} (hx : ev s x = some (.int k i)) (hy : ev s y = some (.int k j)) :
    Yl P g n s L ⟨some d, .call ⟨.builtin .min, #[x, y], ats⟩, ty, pos, af, none⟩ (.int k (if j < i then j else i)) :=
  opY_pure rfl rfl (fun a w ha => by simp [execOp, resolve, invoke, builtin, Builtin.min_, Builtin.min2, ha.ev hx, ha.ev hy])
theorem mxI {k : IntKind} {i j : Int} {ats : Array TypeId} (hn : Nat.blt d n = true) (hx : ev s x = some (.int k i)) (hy : ev s y = some (.int k j)) (next : At g n ((d, .int k (if j > i then j else i)) :: s) L (wpList P ops Q rest)) :
    At g n s L (wpList P ops Q (⟨some d, .call ⟨.builtin .max, #[x, y], ats⟩, ty, pos, af, none⟩ :: rest)) :=
  op_pure rfl rfl hn (fun a w ha => by simp [execOp, resolve, invoke, builtin, Builtin.max_, Builtin.max2, ha.ev hx, ha.ev hy]) next

theorem mxIQ {k : IntKind} {i j : Int} {ats : Array TypeId} (hn : Nat.blt d n = true) (hx : ev s x = some (.int k i)) (hy : ev s y = some (.int k j))
    (next : AtQ P g n ((d, .int k (if j > i then j else i)) :: s) L ops Q rest) : AtQ P g n s L ops Q (⟨some d, .call ⟨.builtin .max, #[x, y], ats⟩, ty, pos, af, none⟩ :: rest) :=
  opQ_pure rfl rfl hn (fun a w ha => by simp [execOp, resolve, invoke, builtin, Builtin.max_, Builtin.max2, ha.ev hx, ha.ev hy]) next
theorem mxIY {k : IntKind} {i j : Int} {ats : Array TypeId} (hx : ev s x = some (.int k i)) (hy : ev s y = some (.int k j)) :
    Yl P g n s L ⟨some d, .call ⟨.builtin .max, #[x, y], ats⟩, ty, pos, af, none⟩ (.int k (if j > i then j else i)) :=
  opY_pure rfl rfl (fun a w ha => by simp [execOp, resolve, invoke, builtin, Builtin.max_, Builtin.max2, ha.ev hx, ha.ev hy])
/-! Slicing -/
/-- s[i:j] of a string -/
theorem slS {str : Str} {lo hi : Operand} {k1 k2 : IntKind} {i j : Int} [h : StrT P T] (hn : Nat.blt d n = true) (hx : ev s x = some (.string str)) (h1 : ev s lo = some (.int k1 i)) (h2 : ev s hi = some (.int k2 j)) (hb : 0 ≤ i ∧ i ≤ j ∧ j ≤ (str.size : Int))
    (next : At g n ((d, .string (str.extract i.toNat j.toNat)) :: s) L (wpList P ops Q rest)) : At g n s L (wpList P ops Q (⟨some d, .slice T x (some lo) (some hi) none, ty, pos, af, none⟩ :: rest)) :=
  op_pure rfl rfl hn (fun a w ha => by
    obtain ⟨jn, rfl⟩ := Int.eq_ofNat_of_zero_le (show 0 ≤ j by omega)
    have e1 : jn ≤ str.size := by omega
    simp [execOp, Instr.sliceAt, Instr.slice, h.run, ha.ev hx, ha.ev h1, ha.ev h2, Instr.sliceBounds, Instr.sliceBound, asIntOf, hb.1, hb.2.1, e1]) next
theorem slSQ {str : Str} {lo hi : Operand} {k1 k2 : IntKind} {i j : Int} [h : StrT P T] (hn : Nat.blt d n = true) (hx : ev s x = some (.string str)) (h1 : ev s lo = some (.int k1 i)) (h2 : ev s hi = some (.int k2 j)) (hb : 0 ≤ i ∧ i ≤ j ∧ j ≤ (str.size : Int))
    (next : AtQ P g n ((d, .string (str.extract i.toNat j.toNat)) :: s) L ops Q rest) : AtQ P g n s L ops Q (⟨some d, .slice T x (some lo) (some hi) none, ty, pos, af, none⟩ :: rest) :=
  opQ_pure rfl rfl hn (fun a w ha => by
    obtain ⟨jn, rfl⟩ := Int.eq_ofNat_of_zero_le (show 0 ≤ j by omega)
    have e1 : jn ≤ str.size := by omega
    simp [execOp, Instr.sliceAt, Instr.slice, h.run, ha.ev hx, ha.ev h1, ha.ev h2, Instr.sliceBounds, Instr.sliceBound, asIntOf, hb.1, hb.2.1, e1]) next
theorem slSY {str : Str} {lo hi : Operand} {k1 k2 : IntKind} {i j : Int} [h : StrT P T] (hx : ev s x = some (.string str)) (h1 : ev s lo = some (.int k1 i)) (h2 : ev s hi = some (.int k2 j)) (hb : 0 ≤ i ∧ i ≤ j ∧ j ≤ (str.size : Int)) :
    Yl P g n s L ⟨some d, .slice T x (some lo) (some hi) none, ty, pos, af, none⟩ (.string (str.extract i.toNat j.toNat)) :=
  opY_pure rfl rfl (fun a w ha => by
    obtain ⟨jn, rfl⟩ := Int.eq_ofNat_of_zero_le (show 0 ≤ j by omega)
    have e1 : jn ≤ str.size := by omega
    simp [execOp, Instr.sliceAt, Instr.slice, h.run, ha.ev hx, ha.ev h1, ha.ev h2, Instr.sliceBounds, Instr.sliceBound, asIntOf, hb.1, hb.2.1, e1])
/-- s[i:] -/
theorem slSl {str : Str} {lo : Operand} {k1 : IntKind} {i : Int} [h : StrT P T] (hn : Nat.blt d n = true) (hx : ev s x = some (.string str)) (h1 : ev s lo = some (.int k1 i)) (hb : 0 ≤ i ∧ i ≤ (str.size : Int))
    (next : At g n ((d, .string (str.extract i.toNat str.size)) :: s) L (wpList P ops Q rest)) : At g n s L (wpList P ops Q (⟨some d, .slice T x (some lo) none none, ty, pos, af, none⟩ :: rest)) :=
  op_pure rfl rfl hn (fun a w ha => by
    simp [execOp, Instr.sliceAt, Instr.slice, h.run, ha.ev hx, ha.ev h1, Instr.sliceBounds, Instr.sliceBound, asIntOf, hb.1, hb.2]) next
theorem slSlQ {str : Str} {lo : Operand} {k1 : IntKind} {i : Int} [h : StrT P T] (hn : Nat.blt d n = true) (hx : ev s x = some (.string str)) (h1 : ev s lo = some (.int k1 i)) (hb : 0 ≤ i ∧ i ≤ (str.size : Int))
    (next : AtQ P g n ((d, .string (str.extract i.toNat str.size)) :: s) L ops Q rest) : AtQ P g n s L ops Q (⟨some d, .slice T x (some lo) none none, ty, pos, af, none⟩ :: rest) :=
  opQ_pure rfl rfl hn (fun a w ha => by
    simp [execOp, Instr.sliceAt, Instr.slice, h.run, ha.ev hx, ha.ev h1, Instr.sliceBounds, Instr.sliceBound, asIntOf, hb.1, hb.2]) next
theorem slSlY {str : Str} {lo : Operand} {k1 : IntKind} {i : Int} [h : StrT P T] (hx : ev s x = some (.string str)) (h1 : ev s lo = some (.int k1 i)) (hb : 0 ≤ i ∧ i ≤ (str.size : Int)) :
    Yl P g n s L ⟨some d, .slice T x (some lo) none none, ty, pos, af, none⟩ (.string (str.extract i.toNat str.size)) :=
  opY_pure rfl rfl (fun a w ha => by
    simp [execOp, Instr.sliceAt, Instr.slice, h.run, ha.ev hx, ha.ev h1, Instr.sliceBounds, Instr.sliceBound, asIntOf, hb.1, hb.2])
/-- s[:j] -/
theorem slSh {str : Str} {hi : Operand} {k2 : IntKind} {j : Int} [h : StrT P T] (hn : Nat.blt d n = true) (hx : ev s x = some (.string str)) (h2 : ev s hi = some (.int k2 j)) (hb : 0 ≤ j ∧ j ≤ (str.size : Int))
    (next : At g n ((d, .string (str.extract 0 j.toNat)) :: s) L (wpList P ops Q rest)) : At g n s L (wpList P ops Q (⟨some d, .slice T x none (some hi) none, ty, pos, af, none⟩ :: rest)) :=
  op_pure rfl rfl hn (fun a w ha => by
    simp [execOp, Instr.sliceAt, Instr.slice, h.run, ha.ev hx, ha.ev h2, Instr.sliceBounds, Instr.sliceBound, asIntOf, hb.1, hb.2]) next
theorem slShQ {str : Str} {hi : Operand} {k2 : IntKind} {j : Int} [h : StrT P T] (hn : Nat.blt d n = true) (hx : ev s x = some (.string str)) (h2 : ev s hi = some (.int k2 j)) (hb : 0 ≤ j ∧ j ≤ (str.size : Int))
    (next : AtQ P g n ((d, .string (str.extract 0 j.toNat)) :: s) L ops Q rest) : AtQ P g n s L ops Q (⟨some d, .slice T x none (some hi) none, ty, pos, af, none⟩ :: rest) :=
  opQ_pure rfl rfl hn (fun a w ha => by
    simp [execOp, Instr.sliceAt, Instr.slice, h.run, ha.ev hx, ha.ev h2, Instr.sliceBounds, Instr.sliceBound, asIntOf, hb.1, hb.2]) next
theorem slShY {str : Str} {hi : Operand} {k2 : IntKind} {j : Int} [h : StrT P T] (hx : ev s x = some (.string str)) (h2 : ev s hi = some (.int k2 j)) (hb : 0 ≤ j ∧ j ≤ (str.size : Int)) :
    Yl P g n s L ⟨some d, .slice T x none (some hi) none, ty, pos, af, none⟩ (.string (str.extract 0 j.toNat)) :=
  opY_pure rfl rfl (fun a w ha => by
    simp [execOp, Instr.sliceAt, Instr.slice, h.run, ha.ev hx, ha.ev h2, Instr.sliceBounds, Instr.sliceBound, asIntOf, hb.1, hb.2])
class ArrT (P : Program) (T : TypeId) (m e k : outParam Nat) : Prop where
  run : ∀ w, (underlying T).run P w = .ok (.array m e) w
  size : ∀ w, (sizeOf e).run P w = .ok k w
/-- a[:j] of an array that lies in memory -/
theorem slAh {m e k b o : Nat} {hi : Operand} {k2 : IntKind} {j : Int} [h : ArrT P T m e k] (hn : Nat.blt d n = true) (hx : ev s x = some (.pointer (some ⟨b, o, none⟩))) (h2 : ev s hi = some (.int k2 j)) (hb : 0 ≤ j ∧ j ≤ (m : Int))
    (next : At g n ((d, .slice (some ⟨b, o, none⟩) j.toNat m) :: s) L (wpList P ops Q rest)) : At g n s L (wpList P ops Q (⟨some d, .slice T x none (some hi) none, ty, pos, af, none⟩ :: rest)) :=
  op_pure rfl rfl hn (fun a w ha => by
    have e : (⟨b, o, none⟩ : Addr).add 0 = ⟨b, o, none⟩ := by simp [Addr.add]
    simp [execOp, Instr.sliceAt, h.run, h.size, ha.ev hx, ha.ev h2, Instr.sliceBounds, Instr.sliceBound, asIntOf, hb.1, hb.2, Instr.sureAddr, e]) next
theorem slAhQ {m e k b o : Nat} {hi : Operand} {k2 : IntKind} {j : Int} [h : ArrT P T m e k] (hn : Nat.blt d n = true) (hx : ev s x = some (.pointer (some ⟨b, o, none⟩))) (h2 : ev s hi = some (.int k2 j)) (hb : 0 ≤ j ∧ j ≤ (m : Int))
    (next : AtQ P g n ((d, .slice (some ⟨b, o, none⟩) j.toNat m) :: s) L ops Q rest) : AtQ P g n s L ops Q (⟨some d, .slice T x none (some hi) none, ty, pos, af, none⟩ :: rest) :=
  opQ_pure rfl rfl hn (fun a w ha => by
    have e : (⟨b, o, none⟩ : Addr).add 0 = ⟨b, o, none⟩ := by simp [Addr.add]
    simp [execOp, Instr.sliceAt, h.run, h.size, ha.ev hx, ha.ev h2, Instr.sliceBounds, Instr.sliceBound, asIntOf, hb.1, hb.2, Instr.sureAddr, e]) next
theorem slAhY {m e k b o : Nat} {hi : Operand} {k2 : IntKind} {j : Int} [h : ArrT P T m e k] (hx : ev s x = some (.pointer (some ⟨b, o, none⟩))) (h2 : ev s hi = some (.int k2 j)) (hb : 0 ≤ j ∧ j ≤ (m : Int)) :
    Yl P g n s L ⟨some d, .slice T x none (some hi) none, ty, pos, af, none⟩ (.slice (some ⟨b, o, none⟩) j.toNat m) :=
  opY_pure rfl rfl (fun a w ha => by
    have e : (⟨b, o, none⟩ : Addr).add 0 = ⟨b, o, none⟩ := by simp [Addr.add]
    simp [execOp, Instr.sliceAt, h.run, h.size, ha.ev hx, ha.ev h2, Instr.sliceBounds, Instr.sliceBound, asIntOf, hb.1, hb.2, Instr.sureAddr, e])
/-- a[i:] of an array that lies in memory -/
theorem slAl {m e k b o : Nat} {lo : Operand} {k1 : IntKind} {i : Nat} [h : ArrT P T m e k] (hn : Nat.blt d n = true) (hx : ev s x = some (.pointer (some ⟨b, o, none⟩))) (h1 : ev s lo = some (.int k1 (i : Nat))) (hb : i ≤ m)
    (next : At g n ((d, .slice (some ⟨b, if m = i then o else o + i * k, none⟩) (m - i) (m - i)) :: s) L (wpList P ops Q rest)) : At g n s L (wpList P ops Q (⟨some d, .slice T x (some lo) none none, ty, pos, af, none⟩ :: rest)) :=
  op_pure rfl rfl hn (fun a w ha => by
    have e : (⟨b, o, none⟩ : Addr).add (i * k) = ⟨b, o + i * k, none⟩ := add_off _ _ _
    by_cases q : m = i
    · subst q
      simp [execOp, Instr.sliceAt, h.run, h.size, ha.ev hx, ha.ev h1, Instr.sliceBounds, Instr.sliceBound, asIntOf, Instr.sureAddr]
    · have q' : i ≤ m := hb
      simp [execOp, Instr.sliceAt, h.run, h.size, ha.ev hx, ha.ev h1, Instr.sliceBounds, Instr.sliceBound, asIntOf, Instr.sureAddr, e, q, q']) next
theorem slAlQ {m e k b o : Nat} {lo : Operand} {k1 : IntKind} {i : Nat} [h : ArrT P T m e k] (hn : Nat.blt d n = true) (hx : ev s x = some (.pointer (some ⟨b, o, none⟩))) (h1 : ev s lo = some (.int k1 (i : Nat))) (hb : i ≤ m)
    (next : AtQ P g n ((d, .slice (some ⟨b, if m = i then o else o + i * k, none⟩) (m - i) (m - i)) :: s) L ops Q rest) : AtQ P g n s L ops Q (⟨some d, .slice T x (some lo) none none, ty, pos, af, none⟩ :: rest) :=
  opQ_pure rfl rfl hn (fun a w ha => by
    have e : (⟨b, o, none⟩ : Addr).add (i * k) = ⟨b, o + i * k, none⟩ := add_off _ _ _
    by_cases q : m = i
    · subst q
      simp [execOp, Instr.sliceAt, h.run, h.size, ha.ev hx, ha.ev h1, Instr.sliceBounds, Instr.sliceBound, asIntOf, Instr.sureAddr]
    · have q' : i ≤ m := hb
      simp [execOp, Instr.sliceAt, h.run, h.size, ha.ev hx, ha.ev h1, Instr.sliceBounds, Instr.sliceBound, asIntOf, Instr.sureAddr, e, q, q']) next
theorem slAlY {m e k b o : Nat} {lo : Operand} {k1 : IntKind} {i : Nat} [h : ArrT P T m e k] (hx : ev s x = some (.pointer (some ⟨b, o, none⟩))) (h1 : ev s lo = some (.int k1 (i : Nat))) (hb : i ≤ m) :
    Yl P g n s L ⟨some d, .slice T x (some lo) none none, ty, pos, af, none⟩ (.slice (some ⟨b, if m = i then o else o + i * k, none⟩) (m - i) (m - i)) :=
  opY_pure rfl rfl (fun a w ha => by
    have e : (⟨b, o, none⟩ : Addr).add (i * k) = ⟨b, o + i * k, none⟩ := add_off _ _ _
    by_cases q : m = i
    · subst q
      simp [execOp, Instr.sliceAt, h.run, h.size, ha.ev hx, ha.ev h1, Instr.sliceBounds, Instr.sliceBound, asIntOf, Instr.sureAddr]
    · have q' : i ≤ m := hb
      simp [execOp, Instr.sliceAt, h.run, h.size, ha.ev hx, ha.ev h1, Instr.sliceBounds, Instr.sliceBound, asIntOf, Instr.sureAddr, e, q, q'])
/-- a[:] of an array that lies in memory -/
theorem slA {m e k b o : Nat} [h : ArrT P T m e k] (hn : Nat.blt d n = true) (hx : ev s x = some (.pointer (some ⟨b, o, none⟩)))
    (next : At g n ((d, .slice (some ⟨b, o, none⟩) m m) :: s) L (wpList P ops Q rest)) : At g n s L (wpList P ops Q (⟨some d, .slice T x none none none, ty, pos, af, none⟩ :: rest)) :=
  op_pure rfl rfl hn (fun a w ha => by
    have e : (⟨b, o, none⟩ : Addr).add 0 = ⟨b, o, none⟩ := by simp [Addr.add]
    simp [execOp, Instr.sliceAt, h.run, h.size, ha.ev hx, Instr.sliceBounds, Instr.sliceBound, Instr.sureAddr, e]) next

theorem slAQ {m e k b o : Nat} [h : ArrT P T m e k] (hn : Nat.blt d n = true) (hx : ev s x = some (.pointer (some ⟨b, o, none⟩)))
    (next : AtQ P g n ((d, .slice (some ⟨b, o, none⟩) m m) :: s) L ops Q rest) : AtQ P g n s L ops Q (⟨some d, .slice T x none none none, ty, pos, af, none⟩ :: rest) :=
  opQ_pure rfl rfl hn (fun a w ha => by
    have e : (⟨b, o, none⟩ : Addr).add 0 = ⟨b, o, none⟩ := by simp [Addr.add]
    simp [execOp, Instr.sliceAt, h.run, h.size, ha.ev hx, Instr.sliceBounds, Instr.sliceBound, Instr.sureAddr, e]) next
theorem slAY {m e k b o : Nat} [h : ArrT P T m e k] (hx : ev s x = some (.pointer (some ⟨b, o, none⟩))) :
    Yl P g n s L ⟨some d, .slice T x none none none, ty, pos, af, none⟩ (.slice (some ⟨b, o, none⟩) m m) :=
  opY_pure rfl rfl (fun a w ha => by
    have e : (⟨b, o, none⟩ : Addr).add 0 = ⟨b, o, none⟩ := by simp [Addr.add]
    simp [execOp, Instr.sliceAt, h.run, h.size, ha.ev hx, Instr.sliceBounds, Instr.sliceBound, Instr.sureAddr, e])
/-- An array value's element. -/
theorem ixA {m e i : Nat} {vs : List Value} {k1 : IntKind} [h : ArrT P T m e 1] [sc : Sc P e] (hn : Nat.blt d n = true) (hx : ev s x = some (.agg vs.toArray)) (hy : ev s y = some (.int k1 (i : Nat))) (hi : i < m) (hv : vs[i]? = some v)
    (next : At g n ((d, v) :: s) L (wpList P ops Q rest)) : At g n s L (wpList P ops Q (⟨some d, .index T x y, ty, pos, af, none⟩ :: rest)) :=
  op_pure rfl rfl hn (fun a w ha => by
    simp [execOp, Instr.index, h.run, h.size, ha.ev hx, ha.ev hy, asIntOf, hi, part, sc.agg, hv]) next
theorem ixAQ {m e i : Nat} {vs : List Value} {k1 : IntKind} [h : ArrT P T m e 1] [sc : Sc P e] (hn : Nat.blt d n = true) (hx : ev s x = some (.agg vs.toArray)) (hy : ev s y = some (.int k1 (i : Nat))) (hi : i < m) (hv : vs[i]? = some v)
    (next : AtQ P g n ((d, v) :: s) L ops Q rest) : AtQ P g n s L ops Q (⟨some d, .index T x y, ty, pos, af, none⟩ :: rest) :=
  opQ_pure rfl rfl hn (fun a w ha => by
    simp [execOp, Instr.index, h.run, h.size, ha.ev hx, ha.ev hy, asIntOf, hi, part, sc.agg, hv]) next
theorem ixAY {m e i : Nat} {vs : List Value} {k1 : IntKind} [h : ArrT P T m e 1] [sc : Sc P e] (hx : ev s x = some (.agg vs.toArray)) (hy : ev s y = some (.int k1 (i : Nat))) (hi : i < m) (hv : vs[i]? = some v) :
    Yl P g n s L ⟨some d, .index T x y, ty, pos, af, none⟩ (v) :=
  opY_pure rfl rfl (fun a w ha => by
    simp [execOp, Instr.index, h.run, h.size, ha.ev hx, ha.ev hy, asIntOf, hi, part, sc.agg, hv])
/-- copy of a string's bytes into a block of bytes. -/
theorem cpS {b B o dl dc : Nat} {cs cs' : List Value} {fl : List Value → List HP} {str : Str} {U e : Nat} [sl : SlT P T e 1] [i : HasB b B cs L fl] (hn : Nat.blt d n = true) (hx : ev s x = some (.slice (some ⟨b, o, none⟩) dl dc)) (hy : ev s y = some (.string str))
    (hset : setR cs o ((bytesOf str).take (Nat.min str.size dl)) = some cs')
    (next : At g n ((d, .int .i64 ((Nat.min str.size dl : Nat) : Int)) :: s) (fl cs') (wpList P ops Q rest)) : At g n s L (wpList P ops Q (⟨some d, .call ⟨.builtin .copy, #[x, y], #[T, U]⟩, ty, pos, af, none⟩ :: rest)) :=
  op_any (α := Unit) (fun _ => .int .i64 ((Nat.min str.size dl : Nat) : Int)) (fun _ => fl cs') rfl rfl hn (fun a w ha hw => by
    obtain ⟨w', hr, tw⟩ := run_storeCells (P := P) (o := o) ((bytesOf str).take (Nat.min str.size dl)) 0 w cs cs' (i.read hw) hset (by
      intro v hv
      have := List.mem_of_mem_take hv
      simp only [bytesOf, List.mem_map] at this
      obtain ⟨c, _, rfl⟩ := this; rfl)
    have hf : ((str.extract 0 (Nat.min str.size dl)).data.map fun b => Value.int .u8 b.toNat).toList = (bytesOf str).take (Nat.min str.size dl) := by
      simp [bytesOf, ByteArray.data_extract, List.map_take]
    refine ⟨(), w', ?_, i.write hw tw⟩
    simp only [execOp, resolve, List.map_toArray, List.map_cons, List.map_nil, ha.ev hx, ha.ev hy, Sem.run_bind, Sem.run_pure, Result.andThen_ok, invoke, builtin, Builtin.copy_]
    simp [sl.run, sl.size, Builtin.lenOf, Builtin.firstCells, goInt] at hf hr ⊢
    simp [hf, hr]) fun _ => next
/-! range over a string -/
theorem rgs {str : Str} [h : StrT P T] (hn : Nat.blt d n = true) (hx : ev s x = some (.string str)) (next : ∀ it, At g n ((d, .pointer (some ⟨it, 0, none⟩)) :: s) (pt it (.stringIter str 0) :: L) (wpList P ops Q rest)) :
    At g n s L (wpList P ops Q (⟨some d, .range T x, ty, pos, af, none⟩ :: rest)) :=
  op_any (fun it => .pointer (some ⟨it, 0, none⟩)) (fun it => pt it (.stringIter str 0) :: L) rfl rfl hn (fun a w ha hw => ⟨w.heap.size, w.alloc (.stringIter str 0), by simp [execOp, Instr.range, ha.ev hx, h.run], hw.alloc _⟩) next
theorem nxs {it p : Nat} {str : Str} {R : List HP} [t : Take (pt it (.stringIter str p)) L R] (hn : Nat.blt d n = true) (hx : ev s x = some (.pointer (some ⟨it, 0, none⟩)))
    (stop : str.size ≤ p → At g n ((d, .tuple [.bool false].toArray) :: s) L (wpList P ops Q rest))
    (next : p < str.size → At g n ((d, .tuple [.bool true, .int .i64 (p : Nat), .int .i32 ((Utf8.decode str p).1 : Nat)].toArray) :: s) (pt it (.stringIter str (p + (Utf8.decode str p).2)) :: R) (wpList P ops Q rest)) :
    At g n s L (wpList P ops Q (⟨some d, .next x true, ty, pos, af, none⟩ :: rest)) := by
  intro a w ha hw
  have hs := hw.imp t.fwd
  have hb : hpOf w it = some (.stringIter str p) := hs.mem.read
  have hg : (getObj it).run P w = .ok (.stringIter str p) w := by
    have h' : w.heap[it]? = some (.stringIter str p) := hb
    simp only [getObj, Sem.run, h']
  refine wpList_plain rfl fun K hK => ?_
  unfold Oper.wp
  by_cases hp : p < str.size
  · obtain ⟨w2, hset, tw⟩ := turned_setObj (P := P) (o' := .stringIter str (p + (Utf8.decode str p).2)) hb (by intro _ _ _ h; cases h)
    have hrun : (execOp a.eval ⟨some d, .next x true, ty, pos, af, none⟩).run P w = .ok (.value (.tuple [.bool true, .int .i64 (p : Nat), .int .i32 ((Utf8.decode str p).1 : Nat)].toArray)) w2 := by
      simp [execOp, Instr.next, ha.ev hx, hg, hp, hset, goInt]
    rw [hrun]
    exact hK _ _ (next hp _ _ (ha.put hn _) (tw.sat hs))
  · have hrun : (execOp a.eval ⟨some d, .next x true, ty, pos, af, none⟩).run P w = .ok (.value (.tuple [.bool false].toArray)) w := by
      simp [execOp, Instr.next, ha.ev hx, hg, hp]
    rw [hrun]
    exact hK _ _ (stop (by omega) _ _ (ha.put hn _) hw)
/-- An empty slice for the code's own use. -/
theorem nilO (ct : Nat) (enc : α → List Value) (sz : Nat) (h : At g n s (osl ct enc sz none 0 [] :: L) K) : At g n s L K :=
  weakL (L' := osl ct enc sz none 0 [] :: L) (fun h q => ⟨fun _ => none, h, fun _ => .inl rfl, fun _ _ e => (by cases e), Hp.le_refl _, ⟨fun x hx => (by cases hx), Nat.le_refl _, .inl ⟨rfl, rfl, rfl⟩⟩, q⟩) h
end rules
end Go.Sl
