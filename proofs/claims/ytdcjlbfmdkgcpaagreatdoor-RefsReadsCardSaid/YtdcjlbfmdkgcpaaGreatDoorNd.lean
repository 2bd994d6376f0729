/- One-cell reads and writes in any assertion; linked nodes, one of which lies inside another block. No program in sight. -/
import Derived.Test.YtdcjlbfmdkgcpaaGreatDoorOp
set_option linter.unusedSimpArgs false
set_option linter.unusedSectionVars false
set_option linter.unusedVariables false
namespace Go.Sl
open Go.RowKit

class BoolT (P : Program) (T : TypeId) : Prop where
  eq : P.underlying T = some .bool
section rules
variable {P : Program} {g : World} {n : Nat} {s : Env} {L : List HP} {Q : Exit → Act → World → Prop} {ops : Array Oper} {rest : List Oper}
variable {d : Nat} {x y z : Operand} {ty T U : TypeId} {pos : String} {af : Array Edge} {v v' u : Value}
variable {K : Act → World → Prop}

/-- A load of one cell that an assertion tells. -/
theorem ldC {b o : Nat} {R : List HP} (A : HP) [t : Take A L R] [sc : Sc P T] (hn : Nat.blt d n = true) (hx : ev s x = some (.pointer (some ⟨b, o, none⟩))) (hA : ∀ h, A h → ∃ cs T fz, h b = some (.cells cs T fz) ∧ cs[o]? = some v)
    (next : At g n ((d, v) :: s) L (wpList P ops Q rest)) : At g n s L (wpList P ops Q (⟨some d, .load T x, ty, pos, af, none⟩ :: rest)) :=
  op_rd rfl rfl hn (fun a w ha hw => by
    obtain ⟨h1, h2, dj, l1, l2, hh, hr⟩ := t.fwd _ hw.mem
    obtain ⟨cs, T', fz, hb, hv⟩ := hA _ hh
    have hc : w.cell? ⟨b, o, none⟩ = some v := by rw [cell_of (l1 _ _ hb), hv]
    simp [execOp, ha.ev hx, Instr.loadAt, Instr.sureAddr, loadVar, sc.agg, hc]) next
theorem ldCQ {b o : Nat} {R : List HP} (A : HP) [t : Take A L R] [sc : Sc P T] (hn : Nat.blt d n = true) (hx : ev s x = some (.pointer (some ⟨b, o, none⟩))) (hA : ∀ h, A h → ∃ cs T fz, h b = some (.cells cs T fz) ∧ cs[o]? = some v)
    (next : AtQ P g n ((d, v) :: s) L ops Q rest) : AtQ P g n s L ops Q (⟨some d, .load T x, ty, pos, af, none⟩ :: rest) :=
  opQ_rd rfl rfl hn (fun a w ha hw => by
    obtain ⟨h1, h2, dj, l1, l2, hh, hr⟩ := t.fwd _ hw.mem
    obtain ⟨cs, T', fz, hb, hv⟩ := hA _ hh
    have hc : w.cell? ⟨b, o, none⟩ = some v := by rw [cell_of (l1 _ _ hb), hv]
    simp [execOp, ha.ev hx, Instr.loadAt, Instr.sureAddr, loadVar, sc.agg, hc]) next
theorem ldCY {b o : Nat} {R : List HP} (A : HP) [t : Take A L R] [sc : Sc P T] (hx : ev s x = some (.pointer (some ⟨b, o, none⟩))) (hA : ∀ h, A h → ∃ cs T fz, h b = some (.cells cs T fz) ∧ cs[o]? = some v) :
    Yl P g n s L ⟨some d, .load T x, ty, pos, af, none⟩ (v) :=
  opY_rd rfl rfl (fun a w ha hw => by
    obtain ⟨h1, h2, dj, l1, l2, hh, hr⟩ := t.fwd _ hw.mem
    obtain ⟨cs, T', fz, hb, hv⟩ := hA _ hh
    have hc : w.cell? ⟨b, o, none⟩ = some v := by rw [cell_of (l1 _ _ hb), hv]
    simp [execOp, ha.ev hx, Instr.loadAt, Instr.sureAddr, loadVar, sc.agg, hc])
/-- A store of one cell into an assertion's block. -/
theorem stC {b o : Nat} {R : List HP} (A B : HP) [t : Take A L R] [sc : Sc P T] (hx : ev s x = some (.pointer (some ⟨b, o, none⟩))) (hy : ev s y = some v) (h1 : v.oneCell' = true)
    (hA : ∀ h, A h → ∃ cs T fz, h b = some (.cells cs T fz) ∧ NoFz cs.size fz ∧ o < cs.size ∧ B (h.put b (.cells (cs.setIfInBounds o v) T fz)))
    (next : At g n s (B :: R) (wpList P ops Q rest)) : At g n s L (wpList P ops Q (⟨none, .store T x y, ty, pos, af, none⟩ :: rest)) :=
  op_none (α := Unit) .skip (.inr rfl) (fun _ => B :: R) rfl rfl (fun a w ha hw => by
    have hcs : v.cells = #[v] := by cases v <;> first | rfl | (simp [Value.oneCell'] at h1)
    have hs := t.fwd _ hw.mem
    have hs' := hs
    obtain ⟨k1, k2, dj, l1, l2, hh, hr⟩ := hs'
    obtain ⟨cs, T', fz, hb, hf, ho, hB⟩ := hA _ hh
    have hwb : hpOf w b = some (.cells cs.toList.toArray T' fz) := by simpa using l1 _ _ hb
    have hset : setR cs.toList (o + 0) [v] = some (cs.toList.set o v) := by
      have key : ∀ (l : List Value) (i : Nat), i < l.length → setN l i v = some (l.set i v) := by
        intro l
        induction l with
        | nil => intro i hi; simp at hi
        | cons a l ih =>
          intro i hi
          cases i with
          | zero => simp [setN]
          | succ i => simp only [setN]; rw [ih i (by simpa using hi)]; simp
      simp only [setR, Nat.add_zero, key cs.toList o (by simpa using ho)]
    obtain ⟨w', hrun, tw⟩ := run_storeCellsG (P := P) (o := o) [v] 0 w cs.toList _ hwb (by simpa using hf) hset (by simpa using h1)
    refine ⟨(), w', by simp [execOp, ha.ev hx, ha.ev hy, Instr.storeAt, Instr.sureAddr, storeVar, hcs, sc.size, hrun], tw.os.trans hw.os, tw.tape.trans hw.tape, tw.output.trans hw.output, by rw [tw.size]; exact hw.size, ?_⟩
    rw [tw.mem]
    have e : (cs.toList.set o v).toArray = cs.setIfInBounds o v := by apply Array.ext'; simp
    rw [e]
    have hb' := hB
    refine ⟨k1.put b (.cells (cs.setIfInBounds o v) T' fz), k2, ?_, ?_, ?_, hB, hr⟩
    · intro q
      by_cases hq : q = b
      · subst hq; right
        rcases dj q with r | r
        · rw [hb] at r; cases r
        · exact r
      · rcases dj q with r | r
        · left; simp [Hp.put, hq, r]
        · exact .inr r
    · intro q ob e
      by_cases hq : q = b
      · subst hq; simp [Hp.put] at e ⊢; exact e
      · simp [Hp.put, hq] at e ⊢; exact l1 _ _ e
    · intro q ob e
      by_cases hq : q = b
      · subst hq
        rcases dj q with r | r
        · rw [hb] at r; cases r
        · rw [r] at e; cases e
      · simp [Hp.put, hq]; exact l2 _ _ e) fun _ => next
/-- Structs or arrays are compared. -/
theorem eqlG {xs ys : Array Value} {b : Bool} (hn : Nat.blt d n = true) (hx : ev s x = some (.agg xs)) (hy : ev s y = some (.agg ys)) (hm : P.eqGuardType P.depth T = false) (h : ∀ w, (Go.Op.equalIn 10000 T (.agg xs) (.agg ys)).run P w = .ok b w)
    (next : At g n ((d, .bool b) :: s) L (wpList P ops Q rest)) : At g n s L (wpList P ops Q (⟨some d, .binOp .eql T x y U, ty, pos, af, none⟩ :: rest)) :=
  op_pure rfl rfl hn (fun a w ha => by
    have h1 := run_eqGuard_agg (P := P) w .eql T x y xs ys hm
    have h2 := run_eql_struct (P := P) w T xs ys
    simp [execOp, ha.ev hx, ha.ev hy, h1, h2, h]) next
theorem eqlGQ {xs ys : Array Value} {b : Bool} (hn : Nat.blt d n = true) (hx : ev s x = some (.agg xs)) (hy : ev s y = some (.agg ys)) (hm : P.eqGuardType P.depth T = false) (h : ∀ w, (Go.Op.equalIn 10000 T (.agg xs) (.agg ys)).run P w = .ok b w)
    (next : AtQ P g n ((d, .bool b) :: s) L ops Q rest) : AtQ P g n s L ops Q (⟨some d, .binOp .eql T x y U, ty, pos, af, none⟩ :: rest) :=
  opQ_pure rfl rfl hn (fun a w ha => by
    have h1 := run_eqGuard_agg (P := P) w .eql T x y xs ys hm
    have h2 := run_eql_struct (P := P) w T xs ys
    simp [execOp, ha.ev hx, ha.ev hy, h1, h2, h]) next
theorem eqlGY {xs ys : Array Value} {b : Bool} (hx : ev s x = some (.agg xs)) (hy : ev s y = some (.agg ys)) (hm : P.eqGuardType P.depth T = false) (h : ∀ w, (Go.Op.equalIn 10000 T (.agg xs) (.agg ys)).run P w = .ok b w) :
    Yl P g n s L ⟨some d, .binOp .eql T x y U, ty, pos, af, none⟩ (.bool b) :=
  opY_pure rfl rfl (fun a w ha => by
    have h1 := run_eqGuard_agg (P := P) w .eql T x y xs ys hm
    have h2 := run_eql_struct (P := P) w T xs ys
    simp [execOp, ha.ev hx, ha.ev hy, h1, h2, h])
theorem gtrS {a b : Str} (hn : Nat.blt d n = true) (hx : ev s x = some (.string a)) (hy : ev s y = some (.string b))
    (next : At g n ((d, .bool (!(slt a b || decide (a = b)))) :: s) L (wpList P ops Q rest)) : At g n s L (wpList P ops Q (⟨some d, .binOp .gtr T x y U, ty, pos, af, none⟩ :: rest)) :=
  op_pure rfl rfl hn (fun c w ha => by
    have e := toList_beq a b
    simp only [execOp, ha.ev hx, ha.ev hy]
    have r : (binOp .gtr T (.string a) (.string b)).run P w = .ok (.bool (!(slt a b || decide (a = b)))) w := by
      rw [← e]; simp [binOp, Op.stringOp, slt]
    generalize (!(slt a b || decide (a = b))) = B at r
    simp [eqGuard, r]) next
theorem gtrSQ {a b : Str} (hn : Nat.blt d n = true) (hx : ev s x = some (.string a)) (hy : ev s y = some (.string b))
    (next : AtQ P g n ((d, .bool (!(slt a b || decide (a = b)))) :: s) L ops Q rest) : AtQ P g n s L ops Q (⟨some d, .binOp .gtr T x y U, ty, pos, af, none⟩ :: rest) :=
  opQ_pure rfl rfl hn (fun c w ha => by
    have e := toList_beq a b
    simp only [execOp, ha.ev hx, ha.ev hy]
    have r : (binOp .gtr T (.string a) (.string b)).run P w = .ok (.bool (!(slt a b || decide (a = b)))) w := by
      rw [← e]; simp [binOp, Op.stringOp, slt]
    generalize (!(slt a b || decide (a = b))) = B at r
    simp [eqGuard, r]) next
theorem gtrSY {a b : Str} (hx : ev s x = some (.string a)) (hy : ev s y = some (.string b)) :
    Yl P g n s L ⟨some d, .binOp .gtr T x y U, ty, pos, af, none⟩ (.bool (!(slt a b || decide (a = b)))) :=
  opY_pure rfl rfl (fun c w ha => by
    have e := toList_beq a b
    simp only [execOp, ha.ev hx, ha.ev hy]
    have r : (binOp .gtr T (.string a) (.string b)).run P w = .ok (.bool (!(slt a b || decide (a = b)))) w := by
      rw [← e]; simp [binOp, Op.stringOp, slt]
    generalize (!(slt a b || decide (a = b))) = B at r
    simp [eqGuard, r])
/-- s[:h] of a slice -/
theorem slLh {e k l c : Nat} {a' : Option Addr} {hi : Operand} {k2 : IntKind} {j : Int} [h : SlT P T e k] (hn : Nat.blt d n = true) (hx : ev s x = some (.slice a' l c)) (h2 : ev s hi = some (.int k2 j)) (hb : 0 ≤ j ∧ j ≤ (c : Int)) (ha' : ∀ ad, a' = some ad → ad.spot = none)
    (next : At g n ((d, .slice a' j.toNat c) :: s) L (wpList P ops Q rest)) : At g n s L (wpList P ops Q (⟨some d, .slice T x none (some hi) none, ty, pos, af, none⟩ :: rest)) :=
  op_pure rfl rfl hn (fun a w ha => by
    have e : (if c = 0 then a' else a'.map (·.add (0 * k))) = a' := by
      split
      · rfl
      · cases a' with
        | none => rfl
        | some ad => simp [Addr.add]
    simp [execOp, Instr.sliceAt, Instr.slice, h.run, h.size, ha.ev hx, ha.ev h2, Instr.sliceBounds, Instr.sliceBound, asIntOf, hb.1, hb.2, Addr.add]) next
theorem slLhQ {e k l c : Nat} {a' : Option Addr} {hi : Operand} {k2 : IntKind} {j : Int} [h : SlT P T e k] (hn : Nat.blt d n = true) (hx : ev s x = some (.slice a' l c)) (h2 : ev s hi = some (.int k2 j)) (hb : 0 ≤ j ∧ j ≤ (c : Int)) (ha' : ∀ ad, a' = some ad → ad.spot = none)
    (next : AtQ P g n ((d, .slice a' j.toNat c) :: s) L ops Q rest) : AtQ P g n s L ops Q (⟨some d, .slice T x none (some hi) none, ty, pos, af, none⟩ :: rest) :=
  opQ_pure rfl rfl hn (fun a w ha => by
    have e : (if c = 0 then a' else a'.map (·.add (0 * k))) = a' := by
      split
      · rfl
      · cases a' with
        | none => rfl
        | some ad => simp [Addr.add]
    simp [execOp, Instr.sliceAt, Instr.slice, h.run, h.size, ha.ev hx, ha.ev h2, Instr.sliceBounds, Instr.sliceBound, asIntOf, hb.1, hb.2, Addr.add]) next
theorem slLhY {e k l c : Nat} {a' : Option Addr} {hi : Operand} {k2 : IntKind} {j : Int} [h : SlT P T e k] (hx : ev s x = some (.slice a' l c)) (h2 : ev s hi = some (.int k2 j)) (hb : 0 ≤ j ∧ j ≤ (c : Int)) (ha' : ∀ ad, a' = some ad → ad.spot = none) :
    Yl P g n s L ⟨some d, .slice T x none (some hi) none, ty, pos, af, none⟩ (.slice a' j.toNat c) :=
  opY_pure rfl rfl (fun a w ha => by
    have e : (if c = 0 then a' else a'.map (·.add (0 * k))) = a' := by
      split
      · rfl
      · cases a' with
        | none => rfl
        | some ad => simp [Addr.add]
    simp [execOp, Instr.sliceAt, Instr.slice, h.run, h.size, ha.ev hx, ha.ev h2, Instr.sliceBounds, Instr.sliceBound, asIntOf, hb.1, hb.2, Addr.add])
theorem neqG {xs ys : Array Value} {b : Bool} (hn : Nat.blt d n = true) (hx : ev s x = some (.agg xs)) (hy : ev s y = some (.agg ys)) (hm : P.eqGuardType P.depth T = false) (h : ∀ w, (Go.Op.equalIn 10000 T (.agg xs) (.agg ys)).run P w = .ok b w)
    (next : At g n ((d, .bool (!b)) :: s) L (wpList P ops Q rest)) : At g n s L (wpList P ops Q (⟨some d, .binOp .neq T x y U, ty, pos, af, none⟩ :: rest)) :=
  op_pure rfl rfl hn (fun a w ha => by
    have h1 := run_eqGuard_agg (P := P) w .neq T x y xs ys hm
    have h2 := run_neq_struct (P := P) w T xs ys
    simp [execOp, ha.ev hx, ha.ev hy, h1, h2, h]) next
theorem neqGQ {xs ys : Array Value} {b : Bool} (hn : Nat.blt d n = true) (hx : ev s x = some (.agg xs)) (hy : ev s y = some (.agg ys)) (hm : P.eqGuardType P.depth T = false) (h : ∀ w, (Go.Op.equalIn 10000 T (.agg xs) (.agg ys)).run P w = .ok b w)
    (next : AtQ P g n ((d, .bool (!b)) :: s) L ops Q rest) : AtQ P g n s L ops Q (⟨some d, .binOp .neq T x y U, ty, pos, af, none⟩ :: rest) :=
  opQ_pure rfl rfl hn (fun a w ha => by
    have h1 := run_eqGuard_agg (P := P) w .neq T x y xs ys hm
    have h2 := run_neq_struct (P := P) w T xs ys
    simp [execOp, ha.ev hx, ha.ev hy, h1, h2, h]) next
theorem neqGY {xs ys : Array Value} {b : Bool} (hx : ev s x = some (.agg xs)) (hy : ev s y = some (.agg ys)) (hm : P.eqGuardType P.depth T = false) (h : ∀ w, (Go.Op.equalIn 10000 T (.agg xs) (.agg ys)).run P w = .ok b w) :
    Yl P g n s L ⟨some d, .binOp .neq T x y U, ty, pos, af, none⟩ (.bool (!b)) :=
  opY_pure rfl rfl (fun a w ha => by
    have h1 := run_eqGuard_agg (P := P) w .neq T x y xs ys hm
    have h2 := run_neq_struct (P := P) w T xs ys
    simp [execOp, ha.ev hx, ha.ev hy, h1, h2, h])
/-- Division and rest of what is not negative. -/
theorem qt {k : IntKind} {i j : Int} (hn : Nat.blt d n = true) (hx : ev s x = some (.int k i)) (hy : ev s y = some (.int k j)) (h0 : 0 ≤ i) (hj : 0 < j) (hf : fits k (i / j))
    (next : At g n ((d, .int k (i / j)) :: s) L (wpList P ops Q rest)) : At g n s L (wpList P ops Q (⟨some d, .binOp .quo T x y U, ty, pos, af, none⟩ :: rest)) :=
  op_pure rfl rfl hn (fun a w ha => by
    have e : i.tdiv j = i / j := Int.tdiv_eq_ediv_of_nonneg h0
    have hne : ¬ j = 0 := by omega
    have hw : k.wrap (i / j) = i / j := hf
    simp [execOp, ha.ev hx, ha.ev hy, eqGuard, binOp, Op.intDiv, hne, e, hw]) next
theorem qtQ {k : IntKind} {i j : Int} (hn : Nat.blt d n = true) (hx : ev s x = some (.int k i)) (hy : ev s y = some (.int k j)) (h0 : 0 ≤ i) (hj : 0 < j) (hf : fits k (i / j))
    (next : AtQ P g n ((d, .int k (i / j)) :: s) L ops Q rest) : AtQ P g n s L ops Q (⟨some d, .binOp .quo T x y U, ty, pos, af, none⟩ :: rest) :=
  opQ_pure rfl rfl hn (fun a w ha => by
    have e : i.tdiv j = i / j := Int.tdiv_eq_ediv_of_nonneg h0
    have hne : ¬ j = 0 := by omega
    have hw : k.wrap (i / j) = i / j := hf
    simp [execOp, ha.ev hx, ha.ev hy, eqGuard, binOp, Op.intDiv, hne, e, hw]) next
theorem qtY {k : IntKind} {i j : Int} (hx : ev s x = some (.int k i)) (hy : ev s y = some (.int k j)) (h0 : 0 ≤ i) (hj : 0 < j) (hf : fits k (i / j)) :
    Yl P g n s L ⟨some d, .binOp .quo T x y U, ty, pos, af, none⟩ (.int k (i / j)) :=
  opY_pure rfl rfl (fun a w ha => by
    have e : i.tdiv j = i / j := Int.tdiv_eq_ediv_of_nonneg h0
    have hne : ¬ j = 0 := by omega
    have hw : k.wrap (i / j) = i / j := hf
    simp [execOp, ha.ev hx, ha.ev hy, eqGuard, binOp, Op.intDiv, hne, e, hw])
theorem rm {k : IntKind} {i j : Int} (hn : Nat.blt d n = true) (hx : ev s x = some (.int k i)) (hy : ev s y = some (.int k j)) (h0 : 0 ≤ i) (hj : 0 < j)
    (next : At g n ((d, .int k (i % j)) :: s) L (wpList P ops Q rest)) : At g n s L (wpList P ops Q (⟨some d, .binOp .rem T x y U, ty, pos, af, none⟩ :: rest)) :=
  op_pure rfl rfl hn (fun a w ha => by
    have e : i.tmod j = i % j := Int.tmod_eq_emod_of_nonneg h0
    have hne : ¬ j = 0 := by omega
    simp [execOp, ha.ev hx, ha.ev hy, eqGuard, binOp, Op.intDiv, hne, e]) next
theorem rmQ {k : IntKind} {i j : Int} (hn : Nat.blt d n = true) (hx : ev s x = some (.int k i)) (hy : ev s y = some (.int k j)) (h0 : 0 ≤ i) (hj : 0 < j)
    (next : AtQ P g n ((d, .int k (i % j)) :: s) L ops Q rest) : AtQ P g n s L ops Q (⟨some d, .binOp .rem T x y U, ty, pos, af, none⟩ :: rest) :=
  opQ_pure rfl rfl hn (fun a w ha => by
    have e : i.tmod j = i % j := Int.tmod_eq_emod_of_nonneg h0
    have hne : ¬ j = 0 := by omega
    simp [execOp, ha.ev hx, ha.ev hy, eqGuard, binOp, Op.intDiv, hne, e]) next
theorem rmY {k : IntKind} {i j : Int} (hx : ev s x = some (.int k i)) (hy : ev s y = some (.int k j)) (h0 : 0 ≤ i) (hj : 0 < j) :
    Yl P g n s L ⟨some d, .binOp .rem T x y U, ty, pos, af, none⟩ (.int k (i % j)) :=
  opY_pure rfl rfl (fun a w ha => by
    have e : i.tmod j = i % j := Int.tmod_eq_emod_of_nonneg h0
    have hne : ¬ j = 0 := by omega
    simp [execOp, ha.ev hx, ha.ev hy, eqGuard, binOp, Op.intDiv, hne, e])
/-- A byte of a string, by its place. -/
theorem ixC {a : Str} {kd : IntKind} {j : Int} {i : Nat} {c : UInt8} [q : StrT P T] (hn : Nat.blt d n = true) (hx : ev s x = some (.string a)) (hy : ev s y = some (.int kd j)) (hj : j = (i : Nat)) (hc : a.data.toList[i]? = some c)
    (next : At g n ((d, .int .u8 (c.toNat : Nat)) :: s) L (wpList P ops Q rest)) : At g n s L (wpList P ops Q (⟨some d, .index T x y, ty, pos, af, none⟩ :: rest)) :=
  op_pure rfl rfl hn (fun w ww ha => by
    subst hj
    have hlt : i < a.data.toList.length := by
      rcases Nat.lt_or_ge i a.data.toList.length with q | q
      · exact q
      · rw [List.getElem?_eq_none q] at hc; cases hc
    have hsz : i < a.size := by rw [Array.length_toList] at hlt; exact hlt
    have hlt' : (i : Int) < (a.size : Int) := by omega
    have e : a[i]? = some c := by
      rw [getElem?_pos a i hsz]
      rw [Array.getElem?_toList, Array.getElem?_eq_getElem hsz] at hc
      exact hc
    simp only [execOp, ha.ev hx, ha.ev hy]
    simp [Instr.index, asIntOf, q.run, hlt', e]) next
theorem ixCQ {a : Str} {kd : IntKind} {j : Int} {i : Nat} {c : UInt8} [q : StrT P T] (hn : Nat.blt d n = true) (hx : ev s x = some (.string a)) (hy : ev s y = some (.int kd j)) (hj : j = (i : Nat)) (hc : a.data.toList[i]? = some c)
    (next : AtQ P g n ((d, .int .u8 (c.toNat : Nat)) :: s) L ops Q rest) : AtQ P g n s L ops Q (⟨some d, .index T x y, ty, pos, af, none⟩ :: rest) :=
  opQ_pure rfl rfl hn (fun w ww ha => by
    subst hj
    have hlt : i < a.data.toList.length := by
      rcases Nat.lt_or_ge i a.data.toList.length with q | q
      · exact q
      · rw [List.getElem?_eq_none q] at hc; cases hc
    have hsz : i < a.size := by rw [Array.length_toList] at hlt; exact hlt
    have hlt' : (i : Int) < (a.size : Int) := by omega
    have e : a[i]? = some c := by
      rw [getElem?_pos a i hsz]
      rw [Array.getElem?_toList, Array.getElem?_eq_getElem hsz] at hc
      exact hc
    simp only [execOp, ha.ev hx, ha.ev hy]
    simp [Instr.index, asIntOf, q.run, hlt', e]) next
theorem ixCY {a : Str} {kd : IntKind} {j : Int} {i : Nat} {c : UInt8} [q : StrT P T] (hx : ev s x = some (.string a)) (hy : ev s y = some (.int kd j)) (hj : j = (i : Nat)) (hc : a.data.toList[i]? = some c) :
    Yl P g n s L ⟨some d, .index T x y, ty, pos, af, none⟩ (.int .u8 (c.toNat : Nat)) :=
  opY_pure rfl rfl (fun w ww ha => by
    subst hj
    have hlt : i < a.data.toList.length := by
      rcases Nat.lt_or_ge i a.data.toList.length with q | q
      · exact q
      · rw [List.getElem?_eq_none q] at hc; cases hc
    have hsz : i < a.size := by rw [Array.length_toList] at hlt; exact hlt
    have hlt' : (i : Int) < (a.size : Int) := by omega
    have e : a[i]? = some c := by
      rw [getElem?_pos a i hsz]
      rw [Array.getElem?_toList, Array.getElem?_eq_getElem hsz] at hc
      exact hc
    simp only [execOp, ha.ev hx, ha.ev hy]
    simp [Instr.index, asIntOf, q.run, hlt', e])
/-- Arithmetic of which nothing need be known. -/
theorem arE {op : BinOp} {k : IntKind} {i j : Int} (hn : Nat.blt d n = true) (hx : ev s x = some (.int k i)) (hy : ev s y = some (.int k j))
    (h : ∃ r, ∀ w, (binOp op T (.int k i) (.int k j)).run P w = .ok (.int k r) w)
    (next : ∀ r, At g n ((d, .int k r) :: s) L (wpList P ops Q rest)) : At g n s L (wpList P ops Q (⟨some d, .binOp op T x y U, ty, pos, af, none⟩ :: rest)) := by
  obtain ⟨r, hr⟩ := h
  exact arW hn hx hy hr (next r)
theorem some_add (k : IntKind) (i j : Int) : ∃ r, ∀ w, (binOp .add T (.int k i) (.int k j)).run P w = .ok (.int k r) w := ⟨k.wrap (i + j), fun w => by simp [binOp, Op.intArith]⟩
theorem some_sub (k : IntKind) (i j : Int) : ∃ r, ∀ w, (binOp .sub T (.int k i) (.int k j)).run P w = .ok (.int k r) w := ⟨k.wrap (i - j), fun w => by simp [binOp, Op.intArith]⟩
theorem some_mul (k : IntKind) (i j : Int) : ∃ r, ∀ w, (binOp .mul T (.int k i) (.int k j)).run P w = .ok (.int k r) w := ⟨k.wrap (i * j), fun w => by simp [binOp, Op.intArith]⟩
theorem some_rem (k : IntKind) (i : Int) {j : Int} (hj : j ≠ 0) : ∃ r, ∀ w, (binOp .rem T (.int k i) (.int k j)).run P w = .ok (.int k r) w := ⟨i.tmod j, fun w => by simp [binOp, Op.intDiv, hj]⟩
theorem some_quo (k : IntKind) (i : Int) {j : Int} (hj : j ≠ 0) : ∃ r, ∀ w, (binOp .quo T (.int k i) (.int k j)).run P w = .ok (.int k r) w := ⟨k.wrap (i.tdiv j), fun w => by simp [binOp, Op.intDiv, hj]⟩
theorem some_xor (k : IntKind) (i j : Int) : ∃ r, ∀ w, (binOp .xor T (.int k i) (.int k j)).run P w = .ok (.int k r) w := ⟨_, fun w => by simp [binOp, Op.intBits]; rfl⟩
theorem some_shl (k : IntKind) (i : Int) {j : Int} (hj : ¬ j < 0) : ∃ r, ∀ w, (binOp .shl T (.int k i) (.int k j)).run P w = .ok (.int k r) w := ⟨_, fun w => by simp [binOp, Op.shift, hj]; rfl⟩
/-- Bools are compared. -/
theorem eqlB {b c : Bool} [i : BoolT P T] (hn : Nat.blt d n = true) (hx : ev s x = some (.bool b)) (hy : ev s y = some (.bool c)) (next : At g n ((d, .bool (b == c)) :: s) L (wpList P ops Q rest)) :
    At g n s L (wpList P ops Q (⟨some d, .binOp .eql T x y U, ty, pos, af, none⟩ :: rest)) :=
  op_pure rfl rfl hn (fun a w ha => by
    have h2 : (Go.Op.equal T (.bool b) (.bool c)).run P w = .ok (b == c) w := run_equalIn_bool' w 9999 T b c i.eq
    simp [execOp, ha.ev hx, ha.ev hy, eqGuard, binOp, h2]) next
theorem eqlBQ {b c : Bool} [i : BoolT P T] (hn : Nat.blt d n = true) (hx : ev s x = some (.bool b)) (hy : ev s y = some (.bool c))
    (next : AtQ P g n ((d, .bool (b == c)) :: s) L ops Q rest) : AtQ P g n s L ops Q (⟨some d, .binOp .eql T x y U, ty, pos, af, none⟩ :: rest) :=
  opQ_pure rfl rfl hn (fun a w ha => by
    have h2 : (Go.Op.equal T (.bool b) (.bool c)).run P w = .ok (b == c) w := run_equalIn_bool' w 9999 T b c i.eq
    simp [execOp, ha.ev hx, ha.ev hy, eqGuard, binOp, h2]) next
theorem eqlBY {b c : Bool} [i : BoolT P T] (hx : ev s x = some (.bool b)) (hy : ev s y = some (.bool c)) :
    Yl P g n s L ⟨some d, .binOp .eql T x y U, ty, pos, af, none⟩ (.bool (b == c)) :=
  opY_pure rfl rfl (fun a w ha => by
    have h2 : (Go.Op.equal T (.bool b) (.bool c)).run P w = .ok (b == c) w := run_equalIn_bool' w 9999 T b c i.eq
    simp [execOp, ha.ev hx, ha.ev hy, eqGuard, binOp, h2])
theorem neqB {b c : Bool} [i : BoolT P T] (hn : Nat.blt d n = true) (hx : ev s x = some (.bool b)) (hy : ev s y = some (.bool c)) (next : At g n ((d, .bool (!(b == c))) :: s) L (wpList P ops Q rest)) :
    At g n s L (wpList P ops Q (⟨some d, .binOp .neq T x y U, ty, pos, af, none⟩ :: rest)) :=
  op_pure rfl rfl hn (fun a w ha => by
    have h2 : (Go.Op.equal T (.bool b) (.bool c)).run P w = .ok (b == c) w := run_equalIn_bool' w 9999 T b c i.eq
    simp [execOp, ha.ev hx, ha.ev hy, eqGuard, binOp, h2]) next
theorem neqBQ {b c : Bool} [i : BoolT P T] (hn : Nat.blt d n = true) (hx : ev s x = some (.bool b)) (hy : ev s y = some (.bool c))
    (next : AtQ P g n ((d, .bool (!(b == c))) :: s) L ops Q rest) : AtQ P g n s L ops Q (⟨some d, .binOp .neq T x y U, ty, pos, af, none⟩ :: rest) :=
  opQ_pure rfl rfl hn (fun a w ha => by
    have h2 : (Go.Op.equal T (.bool b) (.bool c)).run P w = .ok (b == c) w := run_equalIn_bool' w 9999 T b c i.eq
    simp [execOp, ha.ev hx, ha.ev hy, eqGuard, binOp, h2]) next
theorem neqBY {b c : Bool} [i : BoolT P T] (hx : ev s x = some (.bool b)) (hy : ev s y = some (.bool c)) :
    Yl P g n s L ⟨some d, .binOp .neq T x y U, ty, pos, af, none⟩ (.bool (!(b == c))) :=
  opY_pure rfl rfl (fun a w ha => by
    have h2 : (Go.Op.equal T (.bool b) (.bool c)).run P w = .ok (b == c) w := run_equalIn_bool' w 9999 T b c i.eq
    simp [execOp, ha.ev hx, ha.ev hy, eqGuard, binOp, h2])
/-- The place of an element of an array that lies in memory. -/
theorem iaA {m e k b o : Nat} {kd : IntKind} {j : Int} [h : ArrT P T m e k] (hn : Nat.blt d n = true) (hx : ev s x = some (.pointer (some ⟨b, o, none⟩))) (hy : ev s y = some (.int kd j)) (hj : 0 ≤ j ∧ j < (m : Int))
    (next : At g n ((d, .pointer (some ⟨b, o + j.toNat * k, none⟩)) :: s) L (wpList P ops Q rest)) : At g n s L (wpList P ops Q (⟨some d, .indexAddr T x y, ty, pos, af, none⟩ :: rest)) :=
  op_pure rfl rfl hn (fun a w ha => by
    simp only [execOp, ha.ev hx, ha.ev hy]
    simp [Instr.indexAt, Instr.sureAddr, asIntOf, h.run, h.size, hj.1, hj.2, add_off]) next
theorem iaAQ {m e k b o : Nat} {kd : IntKind} {j : Int} [h : ArrT P T m e k] (hn : Nat.blt d n = true) (hx : ev s x = some (.pointer (some ⟨b, o, none⟩))) (hy : ev s y = some (.int kd j)) (hj : 0 ≤ j ∧ j < (m : Int))
    (next : AtQ P g n ((d, .pointer (some ⟨b, o + j.toNat * k, none⟩)) :: s) L ops Q rest) : AtQ P g n s L ops Q (⟨some d, .indexAddr T x y, ty, pos, af, none⟩ :: rest) :=
  opQ_pure rfl rfl hn (fun a w ha => by
    simp only [execOp, ha.ev hx, ha.ev hy]
    simp [Instr.indexAt, Instr.sureAddr, asIntOf, h.run, h.size, hj.1, hj.2, add_off]) next
theorem iaAY {m e k b o : Nat} {kd : IntKind} {j : Int} [h : ArrT P T m e k] (hx : ev s x = some (.pointer (some ⟨b, o, none⟩))) (hy : ev s y = some (.int kd j)) (hj : 0 ≤ j ∧ j < (m : Int)) :
    Yl P g n s L ⟨some d, .indexAddr T x y, ty, pos, af, none⟩ (.pointer (some ⟨b, o + j.toNat * k, none⟩)) :=
  opY_pure rfl rfl (fun a w ha => by
    simp only [execOp, ha.ev hx, ha.ev hy]
    simp [Instr.indexAt, Instr.sureAddr, asIntOf, h.run, h.size, hj.1, hj.2, add_off])
end rules

theorem takeE_app : ∀ {l m r : List Value} {k : Nat}, takeE l k = some r → takeE (l ++ m) k = some r
  | l, m, r, 0, h => by cases l <;> simpa [takeE] using h
  | [], m, r, k + 1, h => by simp [takeE] at h
  | v :: l, m, r, k + 1, h => by
    simp only [takeE, List.cons_append] at h ⊢
    split at h
    · rename_i q e; rw [takeE_app e]; exact h
    · cases h
theorem sub_app : ∀ {l m r : List Value} {o k : Nat}, sub l o k = some r → sub (l ++ m) o k = some r
  | l, m, r, 0, k, h => by
    have h' : takeE l k = some r := by cases l <;> simpa [sub] using h
    have := takeE_app (m := m) h'
    cases e : l ++ m with
    | nil => rw [e] at this; simpa [sub] using this
    | cons a t => rw [e] at this; simpa [sub] using this
  | [], m, r, o + 1, k, h => by simp [sub] at h
  | v :: l, m, r, o + 1, k, h => by
    simp only [sub, List.cons_append] at h ⊢
    exact sub_app h

/-! ### Nodes -/
structure Nd where
  key : Str
  val : Str
  is : Bool
  newer : Option (Nat × Nat)
  elder : Option (Nat × Nat)
def adr (a : Option (Nat × Nat)) : Value := .pointer (a.map fun p => ⟨p.1, p.2, none⟩)
def ndc (n : Nd) : List Value := [.string n.key, .string n.val, .bool n.is, adr n.newer, adr n.elder]
abbrev Nds := Nat × Nat → Option Nd
def Nds.upd (N : Nds) (p : Nat × Nat) (n : Nd) : Nds := fun q => if q = p then some n else N q
theorem Nds.upd_at (N : Nds) (p : Nat × Nat) (n : Nd) : N.upd p n p = some n := by simp [Nds.upd]
/-- The nodes N: those at (cb, 3) inside block cb, the others in blocks of their own. -/
def nds (T U cb : Nat) (pre post : List Value) (N : Nds) : HP := fun h =>
  pre.length = 3 ∧ (∃ n0, N (cb, 3) = some n0 ∧ h cb = some (.cells (pre ++ ndc n0 ++ post).toArray U (0, 0))) ∧
  ∀ p n, N p = some n → p ≠ (cb, 3) → p.2 = 0 ∧ p.1 ≠ cb ∧ h p.1 = some (.cells (ndc n).toArray T (0, 0))
theorem nds.cell {T U cb : Nat} {pre post : List Value} {N : Nds} {h : Hp} (q : nds T U cb pre post N h) {p : Nat × Nat} {n : Nd} (hN : N p = some n) {i : Nat} (hi : i < 5) :
    ∃ cs T' fz, h p.1 = some (.cells cs T' fz) ∧ cs[p.2 + i]? = (ndc n)[i]? := by
  obtain ⟨hl, ⟨n0, h0, hb⟩, hr⟩ := q
  by_cases e : p = (cb, 3)
  · subst e
    rw [h0] at hN; cases hN
    refine ⟨_, _, _, hb, ?_⟩
    simp only [List.getElem?_toArray, List.append_assoc]
    rw [List.getElem?_append_right (by omega), List.getElem?_append_left (by simp [ndc]; omega)]
    congr 1; omega
  · obtain ⟨h2, h3, h4⟩ := hr p n hN e
    refine ⟨_, _, _, h4, ?_⟩
    rw [h2]; simp
theorem nds.head {T U cb : Nat} {pre post : List Value} {N : Nds} {h : Hp} (q : nds T U cb pre post N h) {i : Nat} {v : Value} (hv : pre[i]? = some v) : ∃ cs T' fz, h cb = some (.cells cs T' fz) ∧ cs[i]? = some v := by
  obtain ⟨hl, ⟨n0, h0, hb⟩, hr⟩ := q
  refine ⟨_, _, _, hb, ?_⟩
  have hi : i < pre.length := by
    rcases Nat.lt_or_ge i pre.length with q | q
    · exact q
    · rw [List.getElem?_eq_none q] at hv; cases hv
  simp only [List.getElem?_toArray, List.append_assoc]
  rw [List.getElem?_append_left hi, hv]
theorem nds.tail {T U cb : Nat} {pre post : List Value} {N : Nds} {h : Hp} (q : nds T U cb pre post N h) {i : Nat} {v : Value} (hv : post[i]? = some v) : ∃ cs T' fz, h cb = some (.cells cs T' fz) ∧ cs[8 + i]? = some v := by
  obtain ⟨hl, ⟨n0, h0, hb⟩, hr⟩ := q
  refine ⟨_, _, _, hb, ?_⟩
  simp only [List.getElem?_toArray]
  rw [List.getElem?_append_right (by simp [ndc, hl]), ← hv]
  congr 1; simp [ndc, hl]
theorem nds.set {T U cb : Nat} {pre post : List Value} {N : Nds} {h : Hp} (q : nds T U cb pre post N h) {p : Nat × Nat} {n : Nd} (hN : N p = some n) {i : Nat} {v : Value} (n' : Nd) (hn : ndc n' = (ndc n).set i v) (hi : i < 5) :
    ∃ cs T' fz, h p.1 = some (.cells cs T' fz) ∧ NoFz cs.size fz ∧ p.2 + i < cs.size ∧ nds T U cb pre post (N.upd p n') (h.put p.1 (.cells (cs.setIfInBounds (p.2 + i) v) T' fz)) := by
  obtain ⟨hl, ⟨n0, h0, hb⟩, hr⟩ := q
  have h5 : ∀ m : Nd, (ndc m).length = 5 := fun m => rfl
  by_cases e : p = (cb, 3)
  · subst e
    rw [h0] at hN; cases hN
    refine ⟨_, _, _, hb, NoFz.zero _, by simp [h5, hl]; omega, hl, ⟨n', by simp [Nds.upd], ?_⟩, fun q m hm hq => ?_⟩
    · rw [Hp.put_at]
      simp only [List.setIfInBounds_toArray, List.append_assoc]
      rw [List.set_append_right _ _ (by omega), List.set_append_left _ _ (by rw [h5]; omega), hn]
      rw [show 3 + i - pre.length = i from by omega]
    · simp only [Nds.upd, if_neg hq] at hm
      obtain ⟨a1, a2, a3⟩ := hr q m hm hq
      exact ⟨a1, a2, by simp [Hp.put, a2, a3]⟩
  · obtain ⟨h2, h3, h4⟩ := hr p n hN e
    refine ⟨_, _, _, h4, NoFz.zero _, by simp [h5, h2]; omega, hl, ⟨n0, by simp only [Nds.upd]; rw [if_neg (fun q => e q.symm), h0], ?_⟩, fun q m hm hq => ?_⟩
    · simp only [Hp.put]; rw [if_neg (fun q => h3 q.symm), hb]
    · by_cases e' : q = p
      · subst e'
        simp only [Nds.upd, if_true, Option.some.injEq] at hm
        subst hm
        refine ⟨h2, h3, ?_⟩
        rw [Hp.put_at, h2, hn]; simp
      · simp only [Nds.upd, if_neg e'] at hm
        obtain ⟨a1, a2, a3⟩ := hr q m hm hq
        refine ⟨a1, a2, ?_⟩
        have : q.1 ≠ p.1 := fun r => e' (by rw [← h2] at a1; exact Prod.ext r a1)
        simp [Hp.put, this, a3]
/-- The header's last cells. -/
theorem nds.setPost {T U cb : Nat} {pre post : List Value} {N : Nds} {h : Hp} (q : nds T U cb pre post N h) {i : Nat} {v : Value} (hi : i < post.length) :
    ∃ cs T' fz, h cb = some (.cells cs T' fz) ∧ NoFz cs.size fz ∧ 8 + i < cs.size ∧ nds T U cb pre (post.set i v) N (h.put cb (.cells (cs.setIfInBounds (8 + i) v) T' fz)) := by
  obtain ⟨hl, ⟨n0, h0, hb⟩, hr⟩ := q
  refine ⟨_, _, _, hb, NoFz.zero _, by simp [ndc, hl]; omega, hl, ⟨n0, h0, ?_⟩, fun q m hm hq => ?_⟩
  · rw [Hp.put_at]
    simp only [List.setIfInBounds_toArray]
    rw [List.set_append_right _ _ (by simp [ndc, hl])]
    simp [ndc, hl]
  · obtain ⟨a1, a2, a3⟩ := hr q m hm hq
    exact ⟨a1, a2, by simp [Hp.put, a2, a3]⟩
/-- A new node. -/
theorem nds.more {T U cb b : Nat} {pre post : List Value} {N : Nds} {n : Nd} {L : List HP} {h : Hp} (q : Sats (blk b T (ndc n) :: nds T U cb pre post N :: L) h) : Sats (nds T U cb pre post (N.upd (b, 0) n) :: L) h ∧ N (b, 0) = none ∧ b ≠ cb := by
  obtain ⟨h1, h2, d, l1, l2, a, k1, k2, d2, m1, m2, ⟨hl, ⟨n0, h0, hb⟩, hr⟩, s⟩ := q
  have hne : b ≠ cb := by
    rintro rfl
    rcases d b with r | r
    · rw [show h1 b = _ from a] at r; cases r
    · rw [m1 _ _ hb] at r; cases r
  have hnew : N (b, 0) = none := by
    cases e : N (b, 0) with
    | none => rfl
    | some m =>
      have hq : (b, 0) ≠ (cb, 3) := fun q => by injection q with q1 q2; cases q2
      have := (hr _ m e hq).2.2
      rcases d b with r | r
      · rw [show h1 b = _ from a] at r; cases r
      · rw [m1 _ _ this] at r; cases r
  have hdj : Hp.disj h1 k1 := Hp.disj_le d (Hp.le_refl _) m1
  refine ⟨⟨Hp.join h1 k1, k2, ?_, Hp.join_le l1 (Hp.le_trans m1 l2), Hp.le_trans m2 l2, ⟨hl, ⟨n0, ?_, Hp.le_join_right hdj _ _ hb⟩, fun q m hm hq => ?_⟩, s⟩, hnew, hne⟩
  · exact Hp.disj_symm (Hp.disj_join_right (Hp.disj_symm (Hp.disj_le d (Hp.le_refl _) m2)) (Hp.disj_symm d2))
  · have : (cb, 3) ≠ (b, 0) := fun q => by injection q with q1 q2; cases q2
    simp [Nds.upd, this, h0]
  · by_cases e : q = (b, 0)
    · subst e
      simp only [Nds.upd, if_true, Option.some.injEq] at hm
      subst hm
      exact ⟨rfl, hne, Hp.le_join_left _ _ a⟩
    · simp only [Nds.upd, if_neg e] at hm
      obtain ⟨a1, a2, a3⟩ := hr q m hm hq
      exact ⟨a1, a2, Hp.le_join_right hdj _ _ a3⟩
theorem nds.new {T U cb : Nat} {pre post : List Value} {n0 : Nd} {h : Hp} (hl : pre.length = 3) (q : blk cb U (pre ++ ndc n0 ++ post) h) : nds T U cb pre post (fun p => if p = (cb, 3) then some n0 else none) h :=
  ⟨hl, ⟨n0, by simp, q⟩, fun p n hp hq => by simp [hq] at hp⟩

section rules2
variable {P : Program} {g : World} {n : Nat} {s : Env} {L : List HP} {Q : Exit → Act → World → Prop} {ops : Array Oper} {rest : List Oper}
variable {d : Nat} {x y z : Operand} {ty T U : TypeId} {pos : String} {af : Array Edge} {v v' u : Value}
variable {K : Act → World → Prop}
theorem ldN {b o TN UN cb : Nat} {pre post : List Value} {N : Nds} {R : List HP} (A : HP) (hA : A = nds TN UN cb pre post N) (p : Nat × Nat) (i : Nat) {m : Nd} [t : Take A L R] [sc : Sc P T] (hn : Nat.blt d n = true) (hx : ev s x = some (.pointer (some ⟨b, o, none⟩)))
    (hb : b = p.1) (ho : o = p.2 + i) (hN : N p = some m) (hi : i < 5) (hv : (ndc m)[i]? = some v) (next : At g n ((d, v) :: s) L (wpList P ops Q rest)) : At g n s L (wpList P ops Q (⟨some d, .load T x, ty, pos, af, none⟩ :: rest)) := by
  subst hb; subst ho; subst hA
  exact ldC (nds TN UN cb pre post N) hn hx (fun h q => by rw [← hv]; exact q.cell hN hi) next
theorem ldNQ {b o TN UN cb : Nat} {pre post : List Value} {N : Nds} {R : List HP} (A : HP) (hA : A = nds TN UN cb pre post N) (p : Nat × Nat) (i : Nat) {m : Nd} [t : Take A L R] [sc : Sc P T] (hn : Nat.blt d n = true) (hx : ev s x = some (.pointer (some ⟨b, o, none⟩)))
    (hb : b = p.1) (ho : o = p.2 + i) (hN : N p = some m) (hi : i < 5) (hv : (ndc m)[i]? = some v) (next : AtQ P g n ((d, v) :: s) L ops Q rest) : AtQ P g n s L ops Q (⟨some d, .load T x, ty, pos, af, none⟩ :: rest) := by
  subst hb; subst ho; subst hA
  exact ldCQ (nds TN UN cb pre post N) hn hx (fun h q => by rw [← hv]; exact q.cell hN hi) next
theorem ldNY {b o TN UN cb : Nat} {pre post : List Value} {N : Nds} {R : List HP} (A : HP) (hA : A = nds TN UN cb pre post N) (p : Nat × Nat) (i : Nat) {m : Nd} [t : Take A L R] [sc : Sc P T] (hx : ev s x = some (.pointer (some ⟨b, o, none⟩)))
    (hb : b = p.1) (ho : o = p.2 + i) (hN : N p = some m) (hi : i < 5) (hv : (ndc m)[i]? = some v) : Yl P g n s L ⟨some d, .load T x, ty, pos, af, none⟩ v := by
  subst hb; subst ho; subst hA
  exact ldCY (nds TN UN cb pre post N) hx (fun h q => by rw [← hv]; exact q.cell hN hi)
theorem stN {b o TN UN cb : Nat} {pre post : List Value} {N : Nds} {R : List HP} (A : HP) (hA : A = nds TN UN cb pre post N) (p : Nat × Nat) (i : Nat) {m : Nd} (m' : Nd) [t : Take A L R] [sc : Sc P T] (hx : ev s x = some (.pointer (some ⟨b, o, none⟩))) (hy : ev s y = some v) (h1 : v.oneCell' = true)
    (hb : b = p.1) (ho : o = p.2 + i) (hN : N p = some m) (hi : i < 5) (hm : ndc m' = (ndc m).set i v) (next : At g n s (nds TN UN cb pre post (N.upd p m') :: R) (wpList P ops Q rest)) : At g n s L (wpList P ops Q (⟨none, .store T x y, ty, pos, af, none⟩ :: rest)) := by
  subst hb; subst ho; subst hA
  exact stC (nds TN UN cb pre post N) (nds TN UN cb pre post (N.upd p m')) hx hy h1 (fun h q => q.set hN m' hm hi) next
end rules2
end Go.Sl
/-! ### Pointers that lead to nodes -/
namespace Go.Sl
/-- Every pointer of a node, but of that at x, leads to a node. -/
def Nds.Ok (N : Nds) (x : Option (Nat × Nat)) : Prop := ∀ p n, N p = some n → some p ≠ x → ∃ a c, n.newer = some a ∧ n.elder = some c ∧ (∃ m, N a = some m) ∧ ∃ m, N c = some m
def Nd.kvi (n : Nd) : Str × Str × Bool := (n.key, n.val, n.is)
def Nds.Same (N N' : Nds) : Prop := ∀ p, (N' p).map Nd.kvi = (N p).map Nd.kvi
theorem Nds.Same.refl (N : Nds) : N.Same N := fun _ => rfl
theorem Nds.Same.trans {N M K : Nds} (a : N.Same M) (b : M.Same K) : N.Same K := fun p => (b p).trans (a p)
theorem Nds.same_upd {N : Nds} {p : Nat × Nat} {n n' : Nd} (h : N p = some n) (e : n'.kvi = n.kvi) : N.Same (N.upd p n') := fun q => by
  by_cases hq : q = p
  · subst hq; simp [Nds.upd, h, e]
  · simp [Nds.upd, hq]
theorem Nds.Same.has {N M : Nds} (s : N.Same M) {p : Nat × Nat} {n : Nd} (h : N p = some n) : ∃ m, M p = some m ∧ m.kvi = n.kvi := by
  have := s p
  rw [h] at this
  cases e : M p with
  | none => rw [e] at this; cases this
  | some m => rw [e] at this; simp at this; exact ⟨m, rfl, this⟩
theorem Nds.Same.had {N M : Nds} (s : N.Same M) {p : Nat × Nat} {n : Nd} (h : M p = some n) : ∃ m, N p = some m ∧ n.kvi = m.kvi := by
  have := s p
  rw [h] at this
  cases e : N p with
  | none => rw [e] at this; cases this
  | some m => rw [e] at this; simp at this; exact ⟨m, rfl, this⟩
theorem Nds.upd_ne {N : Nds} {p q : Nat × Nat} {n : Nd} (h : q ≠ p) : N.upd p n q = N q := by simp [Nds.upd, h]
theorem Nds.upd_some {N : Nds} {p q : Nat × Nat} {n : Nd} (h : ∃ m, N q = some m) : ∃ m, N.upd p n q = some m := by
  by_cases e : q = p
  · exact ⟨n, by simp [Nds.upd, e]⟩
  · simpa [Nds.upd, e] using h
/-- A node is put in place of one, with pointers that lead to nodes. -/
theorem Nds.Ok.upd {N : Nds} {x y : Option (Nat × Nat)} (h : N.Ok x) {p : Nat × Nat} {n' : Nd} (hxy : ∀ q, some q = x → q ≠ p → some q = y)
    (hp : some p ≠ y → ∃ a c, n'.newer = some a ∧ n'.elder = some c ∧ (∃ m, N a = some m) ∧ ∃ m, N c = some m) : (N.upd p n').Ok y := fun q m hm hq => by
  by_cases e : q = p
  · subst e
    simp [Nds.upd] at hm; subst hm
    obtain ⟨a, c, h1, h2, h3, h4⟩ := hp hq
    exact ⟨a, c, h1, h2, Nds.upd_some h3, Nds.upd_some h4⟩
  · simp [Nds.upd, e] at hm
    obtain ⟨a, c, h1, h2, h3, h4⟩ := h q m hm (fun r => hq (hxy q r e))
    exact ⟨a, c, h1, h2, Nds.upd_some h3, Nds.upd_some h4⟩
theorem Nds.Ok.at {N : Nds} {x : Option (Nat × Nat)} (h : N.Ok x) {p : Nat × Nat} {n : Nd} (hp : N p = some n) (hx : some p ≠ x) : ∃ a c na nc, n.newer = some a ∧ n.elder = some c ∧ N a = some na ∧ N c = some nc := by
  obtain ⟨a, c, h1, h2, ⟨na, h3⟩, nc, h4⟩ := h p n hp hx
  exact ⟨a, c, na, nc, h1, h2, h3, h4⟩
theorem Nds.Ok.weak {N : Nds} {x y : Option (Nat × Nat)} (h : N.Ok x) (hxy : ∀ q, some q = x → some q = y) : N.Ok y := fun p n hp hq => h p n hp (fun e => hq (hxy p e))
end Go.Sl
