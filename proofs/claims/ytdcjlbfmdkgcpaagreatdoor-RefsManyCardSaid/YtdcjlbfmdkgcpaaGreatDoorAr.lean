/- Slices: what they hold, reading and appending, strings as bytes; rules for them. No program in sight. -/
import Derived.Test.YtdcjlbfmdkgcpaaGreatDoorMp
set_option linter.unusedSimpArgs false
set_option linter.unusedSectionVars false
set_option linter.unusedVariables false
namespace Go.Sl
open Go.RowKit

def flat {α : Type} (enc : α → List Value) (xs : List α) : List Value := xs.flatMap enc
/-- In memory of which A holds the cells from ⟨b, o⟩ on are vs. -/
def Rd (A : HP) (b o : Nat) (vs : List Value) : Prop := ∀ h, A h → ∃ cs T fz, h b = some (.cells cs T fz) ∧ ∀ i, i < vs.length → cs[o + i]? = vs[i]?
/-- In memory of which A holds a slice with this address and length has the elements xs. -/
structure SlIs {α : Type} (A : HP) (enc : α → List Value) (sz : Nat) (a : Option Addr) (len : Nat) (xs : List α) : Prop where
  len : len = xs.length
  sz : ∀ x ∈ xs, (enc x).length = sz
  rd : ∀ h, A h → xs = [] ∨ ∃ b o, a = some ⟨b, o, none⟩ ∧ ∃ cs T fz, h b = some (.cells cs T fz) ∧ ∀ i, i < (flat enc xs).length → cs[o + i]? = (flat enc xs)[i]?
/-- A slice of the code's own, with room behind it. -/
def osl {α : Type} (T : TypeId) (enc : α → List Value) (sz : Nat) (a : Option Addr) (cap : Nat) (xs : List α) : HP := fun h =>
  (∀ x ∈ xs, (enc x).length = sz) ∧ xs.length ≤ cap ∧
  ((a = none ∧ xs = [] ∧ cap = 0) ∨ ∃ b pre spare fz, a = some ⟨b, pre.length, none⟩ ∧ h b = some (.cells (pre ++ flat enc xs ++ spare).toArray T fz) ∧ (cap - xs.length) * sz ≤ spare.length ∧ NoFz (pre ++ flat enc xs ++ spare).length fz)

theorem flat_length {α : Type} {enc : α → List Value} {sz : Nat} : ∀ {xs : List α}, (∀ x ∈ xs, (enc x).length = sz) → (flat enc xs).length = xs.length * sz
  | [], _ => by simp [flat]
  | x :: xs, h => by
    have h1 := flat_length (xs := xs) (fun y hy => h y (List.mem_cons_of_mem _ hy))
    have h2 := h x List.mem_cons_self
    simp only [flat, List.flatMap_cons, List.length_append, List.length_cons] at h1 ⊢
    rw [h1, h2, Nat.add_mul]; omega
theorem flat_app {α : Type} {enc : α → List Value} {xs ys : List α} : flat enc (xs ++ ys) = flat enc xs ++ flat enc ys := by simp [flat]
theorem flat_at {α : Type} {enc : α → List Value} {sz : Nat} : ∀ {xs : List α} {i : Nat} {x : α}, (∀ x ∈ xs, (enc x).length = sz) → xs[i]? = some x → ∀ j, j < sz → (flat enc xs)[i * sz + j]? = (enc x)[j]?
  | [], i, x, _, h, _, _ => by simp at h
  | y :: xs, 0, x, hs, h, j, hj => by
    simp at h; subst h
    simp only [flat, List.flatMap_cons, Nat.zero_mul, Nat.zero_add]
    rw [List.getElem?_append_left (by rw [hs _ List.mem_cons_self]; exact hj)]
  | y :: xs, i + 1, x, hs, h, j, hj => by
    have ih := flat_at (xs := xs) (i := i) (x := x) (fun y hy => hs y (List.mem_cons_of_mem _ hy)) (by simpa using h) j hj
    simp only [flat, List.flatMap_cons] at ih ⊢
    rw [List.getElem?_append_right (by rw [hs _ List.mem_cons_self, Nat.add_mul]; omega), hs _ List.mem_cons_self, ← ih]
    congr 1
    rw [Nat.add_mul]; omega
theorem osl_is {α : Type} {T : TypeId} {enc : α → List Value} {sz : Nat} {a : Option Addr} {cap : Nat} {xs : List α} (hs : ∀ x ∈ xs, (enc x).length = sz) : SlIs (osl T enc sz a cap xs) enc sz a xs.length xs where
  len := rfl
  sz := hs
  rd h q := by
    obtain ⟨_, _, ⟨_, e, _⟩ | ⟨b, pre, spare, fz, e, hb, _⟩⟩ := q
    · exact .inl e
    · refine .inr ⟨b, pre.length, e, _, _, _, hb, fun i hi => ?_⟩
      simp only [List.getElem?_toArray, List.append_assoc]
      rw [List.getElem?_append_right (by omega), show pre.length + i - pre.length = i from by omega, List.getElem?_append_left hi]
/-- A slice that was there when the call began. -/
theorem base_is {α : Type} {g : World} {enc : α → List Value} {sz : Nat} {a : Option Addr} {xs : List α} (hs : ∀ x ∈ xs, (enc x).length = sz)
    (h : xs = [] ∨ ∃ b o, a = some ⟨b, o, none⟩ ∧ ∀ i, i < (flat enc xs).length → g.cell? ⟨b, o + i, none⟩ = (flat enc xs)[i]?) (hpos : 0 < sz) : SlIs (base g) enc sz a xs.length xs where
  len := rfl
  sz := hs
  rd h' q := by
    rcases h with e | ⟨b, o, e, hc⟩
    · exact .inl e
    · cases xs with
      | nil => exact .inl rfl
      | cons x xs =>
        refine .inr ⟨b, o, e, ?_⟩
        have hlen := flat_length hs
        have hp : 0 < (flat enc (x :: xs)).length := by rw [hlen]; simp; exact hpos
        have h0 := hc 0 hp
        rw [List.getElem?_eq_getElem hp] at h0
        have hlt := World.block_lt_of_cell? _ _ h0
        have hb := q b hlt
        have hcell := h0
        unfold World.cell? at hcell
        simp only at hcell
        cases hg : g.heap[b]? with
        | none => rw [hg] at hcell; cases hcell
        | some ob =>
          rw [hg] at hcell hb
          cases ob with
          | cells cs T fz =>
            refine ⟨cs, T, fz, hb, fun i hi => ?_⟩
            have := hc i hi
            rw [← this]
            simp [World.cell?, hg]
          | _ => cases hcell

/-- A type whose underlying type is no integer type: what append's second operand can be of. -/
class SlU (P : Program) (U : TypeId) : Prop where
  run : (∃ e, ∀ w, (underlying U).run P w = .ok (.slice e) w) ∨ ∀ w, (underlying U).run P w = .ok .string w

section rules
variable {P : Program} {g : World} {n : Nat} {s : Env} {L : List HP} {Q : Exit → Act → World → Prop} {ops : Array Oper} {rest : List Oper}
variable {d : Nat} {x y z : Operand} {ty T U : TypeId} {pos : String} {af : Array Edge} {v v' u : Value}
variable {α : Type} {enc : α → List Value} {sz : Nat} {a : Option Addr} {len : Nat} {xs : List α} {K : Act → World → Prop}

/-- The address of a slice that has an element. -/
theorem slAddr {R : List HP} (A : HP) [t : Take A L R] (h : SlIs A enc sz a len xs) (hne : 0 < xs.length) (next : ∀ b o, a = some ⟨b, o, none⟩ → At g n s L K) : At g n s L K := by
  intro c w ha hw
  obtain ⟨h1, h2, d, l1, l2, hA, _⟩ := t.fwd _ hw.mem
  rcases h.rd _ hA with e | ⟨b, o, e, _⟩
  · subst e; simp at hne
  · exact next b o e c w ha hw
theorem Take.cells {A : HP} {R : List HP} [t : Take A L R] {w : World} (hw : Sat g w L) {b o : Nat} {vs : List Value} (h : ∀ h, A h → ∃ cs T fz, h b = some (.cells cs T fz) ∧ ∀ i, i < vs.length → cs[o + i]? = vs[i]?) : ∀ i, i < vs.length → w.cell? ⟨b, o + i, none⟩ = vs[i]? := by
  obtain ⟨h1, h2, d, l1, l2, hA, _⟩ := t.fwd _ hw.mem
  obtain ⟨cs, T, fz, hb, hc⟩ := h _ hA
  intro i hi
  rw [cell_of (l1 _ _ hb), hc i hi]
/-- An element of a slice is read: one cell. -/
theorem ldE {R : List HP} {b o j : Nat} {e : α} (A : HP) [t : Take A L R] (h : SlIs A enc sz (some ⟨b, o, none⟩) len xs) (i : Nat) (he : xs[i]? = some e) [sc : Sc P T] (hn : Nat.blt d n = true) (hx : ev s x = some (.pointer (some ⟨b, j, none⟩))) (hj : j = o + i * sz) (hv : enc e = [v]) (h1 : sz = 1)
    (next : At g n ((d, v) :: s) L (wpList P ops Q rest)) : At g n s L (wpList P ops Q (⟨some d, .load T x, ty, pos, af, none⟩ :: rest)) :=
  op_rd rfl rfl hn (fun c w ha hw => by
    obtain ⟨h1', h2', dd, l1, l2, hA, _⟩ := t.fwd _ hw.mem
    rcases h.rd _ hA with e0 | ⟨b', o', e0, cs, T', fz, hb, hc⟩
    · subst e0; simp at he
    · simp only [Option.some.injEq, Addr.mk.injEq] at e0
      obtain ⟨rfl, rfl, _⟩ := e0
      have hlt : i < xs.length := by
        rcases Nat.lt_or_ge i xs.length with q | q
        · exact q
        · rw [List.getElem?_eq_none q] at he; cases he
      have hfl := flat_length h.sz
      have := hc (i * sz + 0) (by rw [hfl, h1]; omega)
      rw [flat_at h.sz he 0 (by omega), hv] at this
      have hcell : w.cell? ⟨b, j, none⟩ = some v := by rw [cell_of (l1 _ _ hb), hj, ← Nat.add_zero (i * sz), this]; rfl
      simp [execOp, ha.ev hx, Instr.loadAt, Instr.sureAddr, loadVar, sc.agg, hcell]) next
theorem ldEQ {R : List HP} {b o j : Nat} {e : α} (A : HP) [t : Take A L R] (h : SlIs A enc sz (some ⟨b, o, none⟩) len xs) (i : Nat) (he : xs[i]? = some e) [sc : Sc P T] (hn : Nat.blt d n = true) (hx : ev s x = some (.pointer (some ⟨b, j, none⟩))) (hj : j = o + i * sz) (hv : enc e = [v]) (h1 : sz = 1)
    (next : AtQ P g n ((d, v) :: s) L ops Q rest) : AtQ P g n s L ops Q (⟨some d, .load T x, ty, pos, af, none⟩ :: rest) :=
  opQ_rd rfl rfl hn (fun c w ha hw => by
    obtain ⟨h1', h2', dd, l1, l2, hA, _⟩ := t.fwd _ hw.mem
    rcases h.rd _ hA with e0 | ⟨b', o', e0, cs, T', fz, hb, hc⟩
    · subst e0; simp at he
    · simp only [Option.some.injEq, Addr.mk.injEq] at e0
      obtain ⟨rfl, rfl, _⟩ := e0
      have hlt : i < xs.length := by
        rcases Nat.lt_or_ge i xs.length with q | q
        · exact q
        · rw [List.getElem?_eq_none q] at he; cases he
      have hfl := flat_length h.sz
      have := hc (i * sz + 0) (by rw [hfl, h1]; omega)
      rw [flat_at h.sz he 0 (by omega), hv] at this
      have hcell : w.cell? ⟨b, j, none⟩ = some v := by rw [cell_of (l1 _ _ hb), hj, ← Nat.add_zero (i * sz), this]; rfl
      simp [execOp, ha.ev hx, Instr.loadAt, Instr.sureAddr, loadVar, sc.agg, hcell]) next
theorem ldEY {R : List HP} {b o j : Nat} {e : α} (A : HP) [t : Take A L R] (h : SlIs A enc sz (some ⟨b, o, none⟩) len xs) (i : Nat) (he : xs[i]? = some e) [sc : Sc P T] (hx : ev s x = some (.pointer (some ⟨b, j, none⟩))) (hj : j = o + i * sz) (hv : enc e = [v]) (h1 : sz = 1) :
    Yl P g n s L ⟨some d, .load T x, ty, pos, af, none⟩ (v) :=
  opY_rd rfl rfl (fun c w ha hw => by
    obtain ⟨h1', h2', dd, l1, l2, hA, _⟩ := t.fwd _ hw.mem
    rcases h.rd _ hA with e0 | ⟨b', o', e0, cs, T', fz, hb, hc⟩
    · subst e0; simp at he
    · simp only [Option.some.injEq, Addr.mk.injEq] at e0
      obtain ⟨rfl, rfl, _⟩ := e0
      have hlt : i < xs.length := by
        rcases Nat.lt_or_ge i xs.length with q | q
        · exact q
        · rw [List.getElem?_eq_none q] at he; cases he
      have hfl := flat_length h.sz
      have := hc (i * sz + 0) (by rw [hfl, h1]; omega)
      rw [flat_at h.sz he 0 (by omega), hv] at this
      have hcell : w.cell? ⟨b, j, none⟩ = some v := by rw [cell_of (l1 _ _ hb), hj, ← Nat.add_zero (i * sz), this]; rfl
      simp [execOp, ha.ev hx, Instr.loadAt, Instr.sureAddr, loadVar, sc.agg, hcell])
/-- An element of a slice is read: a struct. -/
theorem ldEa {R : List HP} {b o j : Nat} {e : α} (A : HP) [t : Take A L R] (h : SlIs A enc sz (some ⟨b, o, none⟩) len xs) (i : Nat) (he : xs[i]? = some e) [ag : Ag P T sz] (hn : Nat.blt d n = true) (hx : ev s x = some (.pointer (some ⟨b, j, none⟩))) (hj : j = o + i * sz)
    (next : At g n ((d, .agg (enc e).toArray) :: s) L (wpList P ops Q rest)) : At g n s L (wpList P ops Q (⟨some d, .load T x, ty, pos, af, none⟩ :: rest)) :=
  op_rd rfl rfl hn (fun c w ha hw => by
    obtain ⟨h1', h2', dd, l1, l2, hA, _⟩ := t.fwd _ hw.mem
    rcases h.rd _ hA with e0 | ⟨b', o', e0, cs, T', fz, hb, hc⟩
    · subst e0; simp at he
    · simp only [Option.some.injEq, Addr.mk.injEq] at e0
      obtain ⟨rfl, rfl, _⟩ := e0
      have hlt : i < xs.length := by
        rcases Nat.lt_or_ge i xs.length with q | q
        · exact q
        · rw [List.getElem?_eq_none q] at he; cases he
      have hfl := flat_length h.sz
      have hrow := h.sz e (List.mem_of_getElem? he)
      have hcells : ∀ k, k < sz → w.cell? (Addr.add ⟨b, j, none⟩ (0 + k)) = (enc e)[k]? := by
        intro k hk
        have hle : i * sz + k < xs.length * sz := by
          have : (i + 1) * sz ≤ xs.length * sz := Nat.mul_le_mul_right _ hlt
          rw [Nat.add_mul] at this; omega
        have := hc (i * sz + k) (by rw [hfl]; exact hle)
        rw [flat_at h.sz he k hk] at this
        rw [add_off, cell_of (l1 _ _ hb), ← this, hj]; congr 1; omega
      have hld := run_loadCellsFrom (P := P) (w := w) (a := ⟨b, j, none⟩) sz 0 (enc e) #[] hrow hcells
      simp [execOp, ha.ev hx, Instr.loadAt, Instr.sureAddr, loadVar, ag.agg, ag.size, loadCells, hld]) next

theorem ldEaQ {R : List HP} {b o j : Nat} {e : α} (A : HP) [t : Take A L R] (h : SlIs A enc sz (some ⟨b, o, none⟩) len xs) (i : Nat) (he : xs[i]? = some e) [ag : Ag P T sz] (hn : Nat.blt d n = true) (hx : ev s x = some (.pointer (some ⟨b, j, none⟩))) (hj : j = o + i * sz)
    (next : AtQ P g n ((d, .agg (enc e).toArray) :: s) L ops Q rest) : AtQ P g n s L ops Q (⟨some d, .load T x, ty, pos, af, none⟩ :: rest) :=
  opQ_rd rfl rfl hn (fun c w ha hw => by
    obtain ⟨h1', h2', dd, l1, l2, hA, _⟩ := t.fwd _ hw.mem
    rcases h.rd _ hA with e0 | ⟨b', o', e0, cs, T', fz, hb, hc⟩
    · subst e0; simp at he
    · simp only [Option.some.injEq, Addr.mk.injEq] at e0
      obtain ⟨rfl, rfl, _⟩ := e0
      have hlt : i < xs.length := by
        rcases Nat.lt_or_ge i xs.length with q | q
        · exact q
        · rw [List.getElem?_eq_none q] at he; cases he
      have hfl := flat_length h.sz
      have hrow := h.sz e (List.mem_of_getElem? he)
      have hcells : ∀ k, k < sz → w.cell? (Addr.add ⟨b, j, none⟩ (0 + k)) = (enc e)[k]? := by
        intro k hk
        have hle : i * sz + k < xs.length * sz := by
          have : (i + 1) * sz ≤ xs.length * sz := Nat.mul_le_mul_right _ hlt
          rw [Nat.add_mul] at this; omega
        have := hc (i * sz + k) (by rw [hfl]; exact hle)
        rw [flat_at h.sz he k hk] at this
        rw [add_off, cell_of (l1 _ _ hb), ← this, hj]; congr 1; omega
      have hld := run_loadCellsFrom (P := P) (w := w) (a := ⟨b, j, none⟩) sz 0 (enc e) #[] hrow hcells
      simp [execOp, ha.ev hx, Instr.loadAt, Instr.sureAddr, loadVar, ag.agg, ag.size, loadCells, hld]) next
theorem ldEaY {R : List HP} {b o j : Nat} {e : α} (A : HP) [t : Take A L R] (h : SlIs A enc sz (some ⟨b, o, none⟩) len xs) (i : Nat) (he : xs[i]? = some e) [ag : Ag P T sz] (hx : ev s x = some (.pointer (some ⟨b, j, none⟩))) (hj : j = o + i * sz) :
    Yl P g n s L ⟨some d, .load T x, ty, pos, af, none⟩ (.agg (enc e).toArray) :=
  opY_rd rfl rfl (fun c w ha hw => by
    obtain ⟨h1', h2', dd, l1, l2, hA, _⟩ := t.fwd _ hw.mem
    rcases h.rd _ hA with e0 | ⟨b', o', e0, cs, T', fz, hb, hc⟩
    · subst e0; simp at he
    · simp only [Option.some.injEq, Addr.mk.injEq] at e0
      obtain ⟨rfl, rfl, _⟩ := e0
      have hlt : i < xs.length := by
        rcases Nat.lt_or_ge i xs.length with q | q
        · exact q
        · rw [List.getElem?_eq_none q] at he; cases he
      have hfl := flat_length h.sz
      have hrow := h.sz e (List.mem_of_getElem? he)
      have hcells : ∀ k, k < sz → w.cell? (Addr.add ⟨b, j, none⟩ (0 + k)) = (enc e)[k]? := by
        intro k hk
        have hle : i * sz + k < xs.length * sz := by
          have : (i + 1) * sz ≤ xs.length * sz := Nat.mul_le_mul_right _ hlt
          rw [Nat.add_mul] at this; omega
        have := hc (i * sz + k) (by rw [hfl]; exact hle)
        rw [flat_at h.sz he k hk] at this
        rw [add_off, cell_of (l1 _ _ hb), ← this, hj]; congr 1; omega
      have hld := run_loadCellsFrom (P := P) (w := w) (a := ⟨b, j, none⟩) sz 0 (enc e) #[] hrow hcells
      simp [execOp, ha.ev hx, Instr.loadAt, Instr.sureAddr, loadVar, ag.agg, ag.size, loadCells, hld])
/-! Appending -/
theorem setN_app {l1 : List Value} {u : Value} {l2 : List Value} {v : Value} : setN (l1 ++ u :: l2) l1.length v = some (l1 ++ v :: l2) := by
  induction l1 with
  | nil => simp [setN]
  | cons a l1 ih => simp [setN, ih]
theorem setR_app : ∀ {vs l1 l2 : List Value}, vs.length ≤ l2.length → setR (l1 ++ l2) l1.length vs = some (l1 ++ vs ++ l2.drop vs.length)
  | [], l1, l2, _ => by simp [setR]
  | v :: vs, l1, [], h => by simp at h
  | v :: vs, l1, u :: l2, h => by
    simp only [setR, setN_app]
    have := setR_app (vs := vs) (l1 := l1 ++ [v]) (l2 := l2) (by simpa using h)
    simpa using this
theorem growBy_le (newLen : Nat) : ∀ (k c B : Nat), c ≤ B → Builtin.growBy newLen k c ≤ B * 2 ^ k + 192 * 2 ^ k * k
  | 0, c, B, h => by simp [Builtin.growBy]; exact h
  | k + 1, c, B, h => by
    simp only [Builtin.growBy]
    split
    · have : B ≤ B * 2 ^ (k + 1) := Nat.le_mul_of_pos_right _ (Nat.pos_of_ne_zero (by simp))
      omega
    · have h1 := growBy_le newLen k (c + (c + 768) / 4) (2 * B + 192) (by omega)
      refine Nat.le_trans h1 ?_
      have e : (2 * B + 192) * 2 ^ k + 192 * 2 ^ k * k ≤ B * 2 ^ (k + 1) + 192 * 2 ^ (k + 1) * (k + 1) := by
        have h2 : (2 : Nat) ^ (k + 1) = 2 ^ k * 2 := Nat.pow_succ 2 k
        rw [h2]
        generalize 2 ^ k = p
        have a1 : (2 * B + 192) * p = 2 * (B * p) + 192 * p := by rw [Nat.add_mul, Nat.mul_assoc]
        have a2 : B * (p * 2) = 2 * (B * p) := by rw [← Nat.mul_assoc, Nat.mul_comm]
        have a3 : 192 * (p * 2) * (k + 1) = 384 * p * k + 384 * p := by rw [Nat.mul_add, Nat.mul_one, show 192 * (p * 2) = 384 * p from by omega]
        have a4 : 192 * p * k ≤ 384 * p * k := Nat.mul_le_mul_right _ (by omega)
        rw [a1, a2, a3]; omega
      exact e
theorem nextcap_le {need cap : Nat} (h1 : need ≤ 2147483648) (h2 : cap < need) : Builtin.nextslicecap need cap ≤ 68719476736 := by
  unfold Builtin.nextslicecap
  split
  · omega
  · split
    · omega
    · have := growBy_le need 4 cap 2147483648 (by omega)
      omega
/-- What is appended: its length and its cells, in the worlds in which L holds. -/
structure Src (P : Program) (g : World) (L : List HP) (sz : Nat) (y : Value) (m : Nat) (cs : List Value) : Prop where
  len : ∀ w, Sat g w L → (Builtin.lenOf y).run P w = .ok m w
  cells : ∀ w, Sat g w L → (Builtin.firstCells sz m y).run P w = .ok cs.toArray w
  size : cs.length = m * sz
theorem run_cells_is {A : HP} {R : List HP} [t : Take A L R] {w : World} (hw : Sat g w L) (h : SlIs A enc sz a len xs) (c : Nat) : (Builtin.firstCells sz len (.slice a len c)).run P w = .ok (flat enc xs).toArray w := by
  obtain ⟨h1, h2, dd, l1, l2, hA, _⟩ := t.fwd _ hw.mem
  have hl := h.len
  have hfl := flat_length h.sz
  cases a with
  | none =>
    rcases h.rd _ hA with e | ⟨b, o, e, _⟩
    · subst e; simp [Builtin.firstCells, flat]
    · cases e
  | some ad =>
    rcases h.rd _ hA with e | ⟨b, o, e, cs, T', fz, hb, hc⟩
    · subst e
      simp at hl; subst hl
      simp [Builtin.firstCells, loadCells, loadCellsFrom, flat]
    · cases e
      simp only [Builtin.firstCells, loadCells]
      have := run_loadCellsFrom (P := P) (w := w) (a := ⟨b, o, none⟩) (len * sz) 0 (flat enc xs) #[] (by rw [hfl, hl]) (fun j hj => by
        rw [add_off, cell_of (l1 _ _ hb), Nat.zero_add, hc j (by rw [hfl, ← hl]; exact hj)])
      simpa using this
theorem src_is {A : HP} {R : List HP} [t : Take A L R] (h : SlIs A enc sz a len xs) (c : Nat) : Src P g L sz (.slice a len c) len (flat enc xs) where
  len w _ := by simp [Builtin.lenOf]
  cells w hw := run_cells_is (A := A) hw h c
  size := by rw [flat_length h.sz, h.len]
def bytesOf (b : Str) : List Value := b.data.toList.map fun c => .int .u8 (c.toNat : Nat)
theorem bytesOf_length (b : Str) : (bytesOf b).length = b.size := by simp [bytesOf]
theorem src_str (b : Str) : Src P g L 1 (.string b) b.size (bytesOf b) where
  len w _ := by simp [Builtin.lenOf]
  cells w _ := by
    have e : (b.extract 0 b.size) = b := by
      apply ByteArray.ext
      simp [ByteArray.data_extract]
    simp only [Builtin.firstCells, Sem.run_pure, e, bytesOf]
    congr 1
    apply Array.ext'
    simp
  size := by rw [bytesOf_length]; omega
/-- One block's cells, as they stand. -/
theorem src_blk {b B m : Nat} {cs : List Value} {fl : List Value → List HP} [i : HasB b B cs L fl] (hm : cs.length = m * sz) : Src P g L sz (.slice (some ⟨b, 0, none⟩) m m) m cs where
  len w _ := by simp [Builtin.lenOf]
  cells w hw := by
    have hb := i.read hw
    simp only [Builtin.firstCells, loadCells]
    have := run_loadCellsFrom (P := P) (w := w) (a := ⟨b, 0, none⟩) (m * sz) 0 cs #[] hm (fun j hj => by rw [add_off, cell_of hb]; simp)
    simpa using this
  size := hm

theorem run_choose_cap {w : World} {need old e : Nat} (h : need < 2 ^ 63) : ∃ k w', need ≤ k ∧ (choose (.appendCap need old e)).run P w = .ok k w' ∧ w'.heap = w.heap ∧ w'.os = w.os ∧ w'.tape = w.tape ∧ w'.output = w.output := by
  rw [run_choose]
  rw [if_neg (by simp [Question.forced])]
  exact ⟨_, _, by simp [Question.cut], rfl, rfl, rfl, rfl, rfl⟩
/-- append onto a slice of the code's own. -/
theorem apO {R : List HP} {E bytes cap m U : Nat} {yv zv : Value} {ys : List α} [sl : SlT P T E sz] (ct : Nat) [nm : SlU P U] [by' : ByT P E bytes] [zz : Zv P E zv] [t : Take (osl ct enc sz a cap xs) L R] (hn : Nat.blt d n = true)
    (hx : ev s x = some (.slice a len cap)) (hl : len = xs.length) (hy : ev s y = some yv) (src : Src P g L sz yv m (flat enc ys)) (hys : ∀ y ∈ ys, (enc y).length = sz) (hm : m = ys.length) (hone : ∀ y ∈ ys, ∀ v ∈ enc y, v.oneCell' = true)
    (hz : zv.cells.size = sz) (hb : bytes ≤ 4096) (hbig : xs.length + ys.length ≤ 2147483648)
    (next : ∀ a' cap' c', At g n ((d, .slice a' (xs ++ ys).length cap') :: s) (osl c' enc sz a' cap' (xs ++ ys) :: R) (wpList P ops Q rest)) :
    At g n s L (wpList P ops Q (⟨some d, .call ⟨.builtin .append, #[x, y], #[T, U]⟩, ty, pos, af, none⟩ :: rest)) := by
  refine op_any (α := Option Addr × Nat × Nat) (fun p => .slice p.1 (xs ++ ys).length p.2.1) (fun p => osl p.2.2 enc sz p.1 p.2.1 (xs ++ ys) :: R) rfl rfl hn (fun c w ha hw => ?_) (fun p => next p.1 p.2.1 p.2.2)
  subst hl; subst hm
  have hsy := src.len w hw
  have hcy := src.cells w hw
  have hsat := t.fwd _ hw.mem
  obtain ⟨h1, h2, dd, l1, l2, hA, hR⟩ := hsat
  have hA' := hA
  obtain ⟨hxs, hcap, hcase⟩ := hA
  have hos := osl_is (T := ct) (a := a) (cap := cap) hxs
  have hcx := run_cells_is (P := P) (A := osl ct enc sz a cap xs) hw hos cap
  have hexec : (execOp c.eval ⟨some d, .call ⟨.builtin .append, #[x, y], #[T, U]⟩, ty, pos, af, none⟩).run P w = ((Builtin.append_ #[T, U] ty #[.slice a xs.length cap, yv]).run P w).andThen fun v w' => .ok (.value v) w' := by
    simp [execOp, resolve, invoke, builtin, ha.ev hx, ha.ev hy]
  by_cases hroom : xs.length + ys.length ≤ cap
  · -- there is room
    rcases hcase with ⟨e1, e2, e3⟩ | ⟨b, pre, spare, fz, e1, hbk, hsp, hfz⟩
    · subst e1; subst e2; subst e3
      have e4 : ys = [] := by cases ys with | nil => rfl | cons _ _ => simp at hroom
      subst e4
      refine ⟨(none, 0, ct), w, ?_, ?_⟩
      · rw [hexec]
        simp only [List.length_nil] at hsy hcy
        rcases nm.run with ⟨eU, hU⟩ | hU
        all_goals simp [Builtin.append_, sl.run, sl.size, hU, hsy, hcy, flat]
      · exact hw.imp fun h q => (t.fwd h q).headMono fun k hk => by simpa using hk
    · subst e1
      have hfx := flat_length hxs
      have hfy := flat_length hys
      have hlen : (flat enc ys).length ≤ spare.length := by
        rw [hfy]; refine Nat.le_trans (Nat.mul_le_mul_right _ ?_) hsp; omega
      have hwb : hpOf w b = some (.cells (pre ++ flat enc xs ++ spare).toArray ct fz) := l1 _ _ hbk
      have hset := setR_app (l1 := pre ++ flat enc xs) (l2 := spare) hlen
      have hoff : pre.length + xs.length * sz + 0 = (pre ++ flat enc xs).length := by simp [hfx]
      obtain ⟨w', hrun, tw⟩ := run_storeCellsG (P := P) (o := pre.length + xs.length * sz) (flat enc ys) 0 w _ _ hwb hfz (by rw [hoff]; exact hset) (by
        intro v hv
        obtain ⟨y, hy1, hy2⟩ := List.mem_flatMap.1 hv
        exact hone y hy1 v hy2)
      refine ⟨(some ⟨b, pre.length, none⟩, cap, ct), w', ?_, ?_⟩
      · rw [hexec]
        rcases nm.run with ⟨eU, hU⟩ | hU
        all_goals simp [Builtin.append_, sl.run, sl.size, hU, hsy, hcy, hroom, add_off, hrun]
      · refine ⟨tw.os.trans hw.os, tw.tape.trans hw.tape, tw.output.trans hw.output, by rw [tw.size]; exact hw.size, ?_⟩
        rw [tw.mem]
        refine Sats.rewrite (osl ct enc sz (some ⟨b, pre.length, none⟩) cap (xs ++ ys)) (t.fwd _ hw.mem) (fun k hk => ?_) (fun k hk => ?_)
        · obtain ⟨_, _, ⟨q, _⟩ | ⟨b', pre', spare', fz', q, hb', _⟩⟩ := hk
          · cases q
          · simp at q; obtain ⟨rfl, _⟩ := q; exact ⟨_, hb'⟩
        · refine ⟨fun x hx => ?_, by simp; exact hroom, .inr ⟨b, pre, spare.drop (flat enc ys).length, fz, rfl, ?_, ?_, ?_⟩⟩
          · rcases List.mem_append.1 hx with q | q
            · exact hxs x q
            · exact hys x q
          · rw [Hp.put_at, flat_app]; simp
          · rw [List.length_drop, hfy, List.length_append]
            have : (cap - (xs.length + ys.length)) * sz + ys.length * sz ≤ (cap - xs.length) * sz := by
              rw [← Nat.add_mul]; exact Nat.mul_le_mul_right _ (by omega)
            omega
          · have e : (pre ++ flat enc (xs ++ ys) ++ spare.drop (flat enc ys).length).length = (pre ++ flat enc xs ++ spare).length := by simp [flat_app]; omega
            rw [e]; exact hfz
  · -- it grows
    obtain ⟨ti, hti, htb⟩ := by'.run w
    obtain ⟨k, hkd⟩ : ∃ k, k = (Question.appendCap (xs.length + ys.length) cap E).cut (w.tape w.drawn (Question.appendCap (xs.length + ys.length) cap E)) := ⟨_, rfl⟩
    have hk : xs.length + ys.length ≤ k := by rw [hkd]; simp [Question.cut]
    have hw1 : Sat g w.drew L := hw.drew
    obtain ⟨ti1, hti1, htb1⟩ := by'.run w.drew
    have hcx1 := run_cells_is (P := P) (A := osl ct enc sz a cap xs) hw1 hos cap
    have hcy1 := src.cells w.drew hw1
    have hnc : ¬ (Builtin.nextslicecap (xs.length + ys.length) cap * ti.bytes > 2 ^ 48) := by
      have q1 := nextcap_le hbig (by omega : cap < xs.length + ys.length)
      have q2 : Builtin.nextslicecap (xs.length + ys.length) cap * ti.bytes ≤ 68719476736 * 4096 := Nat.mul_le_mul q1 (by rw [htb]; exact hb)
      omega
    have hmax : ¬ (((xs.length + ys.length : Nat) : Int) > IntKind.i64.max ∧ (False ∨ ti.bytes = 0)) := by
      intro q; have := q.1; simp at this; omega
    have hzl : (Builtin.zeroCells zv.cells (k - (xs.length + ys.length))).size = (k - (xs.length + ys.length)) * sz := by simp [Builtin.zeroCells, hz]
    refine ⟨(some ⟨w.heap.size, 0, none⟩, k, E), w.drew.alloc (.cells ((flat enc xs).toArray ++ (flat enc ys).toArray ++ Builtin.zeroCells zv.cells (k - (xs.length + ys.length))) E), ?_, ?_⟩
    · rw [hexec]
      have hlt' : cap < xs.length + ys.length := by omega
      have hm2 : ¬ ((9223372036854775807 : Int) < (xs.length : Int) + (ys.length : Int)) := by omega
      have hnc' : ¬ (281474976710656 < Builtin.nextslicecap (xs.length + ys.length) cap * ti.bytes) := hnc
      rcases nm.run with ⟨eU, hU⟩ | hU
      all_goals simp [Builtin.append_, sl.run, sl.size, hU, hsy, hroom, hti, hti1, hnc', hcx1, hcy1, zz.run, newRow, hm2, Question.forced, ← hkd]
      all_goals (congr 2; rw [← Array.append_assoc]; simp)
    · have hs1 := (hw1.imp fun h q => (t.fwd h q).tail).alloc (.cells ((flat enc xs).toArray ++ (flat enc ys).toArray ++ Builtin.zeroCells zv.cells (k - (xs.length + ys.length))) E)
      refine hs1.imp fun h q => q.headMono fun kk hkk => ?_
      refine ⟨fun x hx => ?_, by simp; exact hk, .inr ⟨w.heap.size, [], (Builtin.zeroCells zv.cells (k - (xs.length + ys.length))).toList, (0, 0), rfl, ?_, ?_, NoFz.zero _⟩⟩
      · rcases List.mem_append.1 hx with q | q
        · exact hxs x q
        · exact hys x q
      · rw [show kk w.heap.size = _ from hkk, flat_app]
        simp
      · simp only [Array.length_toList, hzl, List.length_append]
        exact Nat.le_refl _
end rules
end Go.Sl
