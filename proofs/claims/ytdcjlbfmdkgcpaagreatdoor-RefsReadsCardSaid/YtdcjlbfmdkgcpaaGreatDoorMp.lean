/- Maps: what their operations do to a list of pairs, and rules for them. No program in sight. -/
import Derived.Test.YtdcjlbfmdkgcpaaGreatDoorSl
set_option linter.unusedSimpArgs false
set_option linter.unusedSectionVars false
set_option linter.unusedVariables false
namespace Go.Sl
open Go.RowKit

/-! ### Lists of pairs -/
section lists
variable {K V : Type} [DecidableEq K]
def mget : List (K × V) → K → Option V
  | [], _ => none
  | (k', v) :: l, k => if k' = k then some v else mget l k
def mset : List (K × V) → K → V → List (K × V)
  | [], k, v => [(k, v)]
  | (k', v') :: l, k, v => if k' = k then (k, v) :: l else (k', v') :: mset l k v
def mdel : List (K × V) → K → List (K × V)
  | [], _ => []
  | (k', v') :: l, k => if k' = k then l else (k', v') :: mdel l k
def keysOf (l : List (K × V)) : List K := l.map (·.1)
theorem mem_keys_mget {l : List (K × V)} {k : K} : k ∈ keysOf l ↔ ∃ v, mget l k = some v := by
  induction l with
  | nil => simp [keysOf, mget]
  | cons p l ih =>
    obtain ⟨k', v'⟩ := p
    simp only [keysOf, List.map_cons, List.mem_cons, mget] at ih ⊢
    by_cases e : k' = k
    · simp [e]
    · simp only [if_neg e]
      rw [← ih]
      constructor
      · rintro (h | h)
        · exact absurd h.symm e
        · exact h
      · exact .inr
theorem mget_none {l : List (K × V)} {k : K} : mget l k = none ↔ k ∉ keysOf l := by
  rw [mem_keys_mget]
  cases h : mget l k <;> simp
theorem keys_mset {l : List (K × V)} {k : K} {v : V} : keysOf (mset l k v) = if k ∈ keysOf l then keysOf l else keysOf l ++ [k] := by
  induction l with
  | nil => simp [keysOf, mset]
  | cons p l ih =>
    obtain ⟨k', v'⟩ := p
    simp only [mset, keysOf, List.map_cons, List.mem_cons] at ih ⊢
    by_cases e : k' = k
    · simp [e]
    · simp only [if_neg e, List.map_cons, ih]
      by_cases h : k ∈ l.map (·.1)
      · simp [h]
      · have e' : ¬ k = k' := fun q => e q.symm
        simp [h, e']
theorem mget_mset {l : List (K × V)} {k j : K} {v : V} : mget (mset l k v) j = if k = j then some v else mget l j := by
  induction l with
  | nil => simp [mset, mget]
  | cons p l ih =>
    obtain ⟨k', v'⟩ := p
    simp only [mset]
    by_cases e : k' = k
    · subst e; simp only [if_true, mget]; by_cases q : k' = j <;> simp [q]
    · simp only [if_neg e, mget, ih]
      by_cases q : k' = j
      · subst q; have e' : ¬ k = k' := fun q => e q.symm
        simp [e']
      · simp [q]
theorem keys_mdel_sub {l : List (K × V)} {k j : K} (h : j ∈ keysOf (mdel l k)) : j ∈ keysOf l := by
  induction l with
  | nil => simp [mdel] at h; exact h
  | cons p l ih =>
    obtain ⟨k', v'⟩ := p
    simp only [mdel] at h
    by_cases e : k' = k
    · rw [if_pos e] at h; exact List.mem_cons_of_mem _ h
    · rw [if_neg e] at h
      simp only [keysOf, List.map_cons, List.mem_cons] at h ⊢
      rcases h with h | h
      · exact .inl h
      · exact .inr (ih h)
theorem nodup_mdel {l : List (K × V)} {k : K} (h : (keysOf l).Nodup) : (keysOf (mdel l k)).Nodup := by
  induction l with
  | nil => simpa [mdel] using h
  | cons p l ih =>
    obtain ⟨k', v'⟩ := p
    simp only [keysOf, List.map_cons, List.nodup_cons] at h
    simp only [mdel]
    by_cases e : k' = k
    · rw [if_pos e]; exact h.2
    · rw [if_neg e]
      simp only [keysOf, List.map_cons, List.nodup_cons]
      exact ⟨fun q => h.1 (keys_mdel_sub q), ih h.2⟩
theorem nodup_mset {l : List (K × V)} {k : K} {v : V} (h : (keysOf l).Nodup) : (keysOf (mset l k v)).Nodup := by
  rw [keys_mset]
  split
  · exact h
  · rename_i q
    rw [List.nodup_append]
    refine ⟨h, by simp, fun a ha b hb => ?_⟩
    simp at hb; subst hb
    exact fun e => q (e ▸ ha)
theorem mget_mdel {l : List (K × V)} {k j : K} (h : (keysOf l).Nodup) : mget (mdel l k) j = if k = j then none else mget l j := by
  induction l with
  | nil => simp [mdel, mget]
  | cons p l ih =>
    obtain ⟨k', v'⟩ := p
    simp only [keysOf, List.map_cons, List.nodup_cons] at h
    simp only [mdel]
    by_cases e : k' = k
    · subst e
      rw [if_pos rfl]
      by_cases q : k' = j
      · subst q; rw [if_pos rfl]; exact mget_none.2 h.1
      · simp [mget, q]
    · rw [if_neg e]
      simp only [mget, ih h.2]
      by_cases q : k' = j
      · subst q; have e' : ¬ k = k' := fun q => e q.symm
        simp [e']
      · simp [q]
theorem mget_mem {l : List (K × V)} {k : K} {v : V} (h : mget l k = some v) : (k, v) ∈ l := by
  induction l with
  | nil => cases h
  | cons p l ih =>
    obtain ⟨k', v'⟩ := p
    simp only [mget] at h
    by_cases e : k' = k
    · subst e; simp at h; subst h; exact List.mem_cons_self
    · rw [if_neg e] at h; exact List.mem_cons_of_mem _ (ih h)
theorem mem_mget {l : List (K × V)} {k : K} {v : V} (n : (keysOf l).Nodup) (h : (k, v) ∈ l) : mget l k = some v := by
  induction l with
  | nil => cases h
  | cons p l ih =>
    obtain ⟨k', v'⟩ := p
    simp only [keysOf, List.map_cons, List.nodup_cons] at n
    simp only [mget]
    rcases List.mem_cons.1 h with e | h
    · cases e; simp
    · by_cases e : k' = k
      · subst e; exact absurd (List.mem_map_of_mem h) n.1
      · rw [if_neg e]; exact ih n.2 h
def kidx : List K → K → Option Nat
  | [], _ => none
  | k' :: l, k => if k' = k then some 0 else (kidx l k).map (· + 1)
end lists

/-! ### Keys -/
class KeyT (P : Program) (T : TypeId) (K : Type) [DecidableEq K] (ek : K → Value) : Prop where
  find : ∀ (k : K) (es : List MapEntry) (ks : List K) (w : World), es.map (·.key) = ks.map ek →
    (Instr.findKey T (ek k) es).run P w = .ok ((kidx ks k).bind fun i => es[i]?.map fun e => (i, e.val)) w
  check : ∀ e k w, (Instr.checkKey e 10000 T (ek k)).run P w = .ok () w
  bits : ∀ k, Instr.sameBits 10000 (ek k) (ek k) = true
theorem str_beq (a b : Str) : (a == b) = decide (a = b) := by rw [beq_toListBytes, toList_beq]
theorem findNow_string {k : Str} : ∀ {es : List MapEntry} {ks : List Str} {i : Nat}, es.map (·.key) = ks.map Value.string →
    Instr.findNow .string (.string k) es i = some ((kidx ks k).bind fun j => es[j]?.map fun e => (i + j, e.val))
  | [], [], i, _ => by simp [Instr.findNow, kidx]
  | [], _ :: _, _, h => by simp at h
  | _ :: _, [], _, h => by simp at h
  | e :: es, k' :: ks, i, h => by
    simp only [List.map_cons, List.cons.injEq] at h
    simp only [Instr.findNow, h.1, Instr.sameNow, kidx, str_beq]
    by_cases q : k' = k
    · subst q; simp
    · have q' : ¬ k = k' := fun e : k = k' => q e.symm
      simp only [q', if_neg q, decide_false]
      simp only [findNow_string h.2]
      cases kidx ks k with
      | none => simp
      | some j => simp [Nat.add_assoc, Nat.add_comm 1 j]
theorem findNow_int {kd : IntKind} {k : Int} : ∀ {es : List MapEntry} {ks : List Int} {i : Nat}, es.map (·.key) = ks.map (Value.int kd) →
    Instr.findNow (.int kd) (.int kd k) es i = some ((kidx ks k).bind fun j => es[j]?.map fun e => (i + j, e.val))
  | [], [], i, _ => by simp [Instr.findNow, kidx]
  | [], _ :: _, _, h => by simp at h
  | _ :: _, [], _, h => by simp at h
  | e :: es, k' :: ks, i, h => by
    simp only [List.map_cons, List.cons.injEq] at h
    simp only [Instr.findNow, h.1, Instr.sameNow, kidx]
    by_cases q : k' = k
    · subst q; simp
    · have q' : (k == k') = false := by simpa using fun e : k = k' => q e.symm
      simp only [q', if_neg q, if_true]
      simp only [findNow_int h.2]
      cases kidx ks k with
      | none => simp
      | some j => simp [Nat.add_assoc, Nat.add_comm 1 j]
theorem KeyT.str {P : Program} {T : TypeId} (h : ∀ w, (underlying T).run P w = .ok .string w) : KeyT P T Str Value.string where
  find k es ks w he := by
    simp only [Instr.findKey, Sem.run_bind, h, Result.andThen_ok, findNow_string he, Nat.zero_add]; rfl
  check e k w := by rw [show (10000 : Nat) = 9999 + 1 from rfl, Instr.checkKey]; simp [h]
  bits k := by simp [Instr.sameBits, str_beq]
theorem KeyT.int {P : Program} {T : TypeId} {kd : IntKind} (h : ∀ w, (underlying T).run P w = .ok (.int kd) w) : KeyT P T Int (Value.int kd) where
  find k es ks w he := by
    simp only [Instr.findKey, Sem.run_bind, h, Result.andThen_ok, findNow_int he, Nat.zero_add]; rfl
  check e k w := by rw [show (10000 : Nat) = 9999 + 1 from rfl, Instr.checkKey]; simp [h]
  bits k := by simp [Instr.sameBits]

/-! ### The map as an assertion -/
structure MapIs {K V : Type} (ek : K → Value) (evl : V → Value) (l : List (K × V)) (es : Array MapEntry) (clock : Nat) : Prop where
  keys : es.toList.map (·.key) = l.map fun p => ek p.1
  vals : es.toList.map (·.val) = l.map fun p => evl p.2
  nodup : (keysOf l).Nodup
  born : (es.toList.map (·.born)).Nodup
  lt : ∀ e ∈ es.toList, e.born < clock
def mp {K V : Type} (ek : K → Value) (evl : V → Value) (r : Nat) (l : List (K × V)) : HP := fun h => ∃ es clock, h r = some (.map es clock) ∧ MapIs ek evl l es clock
class HasM (r : Nat) (K V : outParam Type) (ek : outParam (K → Value)) (evl : outParam (V → Value)) (l : outParam (List (K × V))) (L : List HP) (f : outParam (List (K × V) → List HP)) : Prop where
  fwd : ∀ h, Sats L h → ∃ R, Sats (mp ek evl r l :: R) h ∧ ∀ l' k, Sats (mp ek evl r l' :: R) k → Sats (f l') k
instance (priority := high) HasM.here (r : Nat) (K V : Type) (ek : K → Value) (evl : V → Value) (l : List (K × V)) (L : List HP) : HasM r K V ek evl l (mp ek evl r l :: L) (fun l' => mp ek evl r l' :: L) :=
  ⟨fun _ s => ⟨L, s, fun _ _ s => s⟩⟩
instance (priority := low) HasM.there (r : Nat) (K V : Type) (ek : K → Value) (evl : V → Value) (l : List (K × V)) (A : HP) (L : List HP) (f : List (K × V) → List HP) [i : HasM r K V ek evl l L f] : HasM r K V ek evl l (A :: L) (fun l' => A :: f l') :=
  ⟨fun h s => by
    obtain ⟨h1, h2, d, l1, l2, a, s⟩ := s
    obtain ⟨R, s1, s2⟩ := i.fwd _ s
    exact ⟨A :: R, Sats.swap ⟨h1, h2, d, l1, l2, a, s1⟩, fun cs' k q => Sats.under (s2 cs') (Sats.swap q)⟩⟩
theorem HasM.read {r : Nat} {K V : Type} {ek : K → Value} {evl : V → Value} {l : List (K × V)} {L : List HP} {f : List (K × V) → List HP} (i : HasM r K V ek evl l L f) {g w : World} (s : Sat g w L) : ∃ es clock, hpOf w r = some (.map es clock) ∧ MapIs ek evl l es clock := by
  obtain ⟨R, s1, _⟩ := i.fwd _ s.mem
  obtain ⟨h1, h2, d, l1, l2, ⟨es, clock, a, b⟩, s⟩ := s1
  exact ⟨es, clock, l1 _ _ a, b⟩
/-- A block that an assertion speaks of is another. -/
theorem Sats.rewrite {A : HP} {r : Nat} {o' : Obj} {L : List HP} {h : Hp} (B : HP) (s : Sats (A :: L) h) (own : ∀ k, A k → ∃ o, k r = some o) (hB : ∀ k, A k → B (k.put r o')) : Sats (B :: L) (h.put r o') := by
  obtain ⟨h1, h2, d, l1, l2, a, s⟩ := s
  obtain ⟨o, ho⟩ := own _ a
  refine ⟨h1.put r o', h2, ?_, ?_, ?_, hB _ a, s⟩
  · intro x
    by_cases e : x = r
    · subst e; right
      rcases d x with q | q
      · rw [ho] at q; cases q
      · exact q
    · rcases d x with q | q
      · left; simp [Hp.put, e, q]
      · exact .inr q
  · intro x q e
    by_cases hx : x = r
    · subst hx; simp [Hp.put] at e ⊢; exact e
    · simp [Hp.put, hx] at e ⊢; exact l1 _ _ e
  · intro x q e
    by_cases hx : x = r
    · subst hx
      rcases d x with q' | q'
      · rw [ho] at q'; cases q'
      · rw [q'] at e; cases e
    · simp [Hp.put, hx]; exact l2 _ _ e
theorem turned_setObj {P : Program} {w : World} {r : Nat} {o o' : Obj} (h : hpOf w r = some o) (hn : ∀ c e f, o ≠ .cells c e f) : ∃ w', (setObj r o').run P w = .ok () w' ∧ Turned w w' r o' := by
  have h' : w.heap[r]? = some o := h
  have hr : (setObj r o').run P w = .ok () { w with heap := w.heap.setIfInBounds r o' } := by
    simp only [setObj, Sem.run, h']
  refine ⟨_, hr, rfl, rfl, ⟨rfl, Nat.le_refl _⟩, by simp, ?_⟩
  have hlt : r < w.heap.size := by
    rcases Nat.lt_or_ge r w.heap.size with q | q
    · exact q
    · rw [Array.getElem?_eq_none q] at h'; cases h'
  funext x
  simp only [hpOf, Hp.put, Array.getElem?_setIfInBounds]
  by_cases e : r = x
  · subst e; simp [hlt]
  · rw [if_neg e, if_neg (fun q : x = r => e q.symm)]
theorem run_getObj_map {P : Program} {w : World} {r : Nat} {es : Array MapEntry} {clock : Nat} (h : hpOf w r = some (.map es clock)) : (getObj r).run P w = .ok (.map es clock) w := by
  have h' : w.heap[r]? = some (.map es clock) := h
  simp only [getObj, Sem.run, h']
theorem HasM.write {r : Nat} {K V : Type} {ek : K → Value} {evl : V → Value} {l l' : List (K × V)} {L : List HP} {f : List (K × V) → List HP} (i : HasM r K V ek evl l L f) {g w w' : World} {es : Array MapEntry} {clock : Nat} (s : Sat g w L)
    (t : Turned w w' r (.map es clock)) (hm : MapIs ek evl l' es clock) : Sat g w' (f l') := by
  obtain ⟨R, s1, s2⟩ := i.fwd _ s.mem
  refine ⟨t.os.trans s.os, t.tape.trans s.tape, t.output.trans s.output, by rw [t.size]; exact s.size, s2 _ _ ?_⟩
  rw [t.mem]
  exact Sats.rewrite (mp ek evl r l') s1 (fun k ⟨es, c, a, _⟩ => ⟨_, a⟩) (fun k _ => ⟨es, clock, Hp.put_at _ _ _, hm⟩)

section
variable {K V : Type} {ek : K → Value} {evl : V → Value} {l : List (K × V)} {es : Array MapEntry} {clock : Nat}
theorem kidx_mget [DecidableEq K] {k : K} : ∀ {l : List (K × V)}, (kidx (keysOf l) k).bind (fun i => (l[i]?).map (·.2)) = mget l k
  | [] => by simp [keysOf, kidx, mget]
  | (k', v) :: l => by
    simp only [keysOf, List.map_cons, kidx, mget]
    by_cases e : k' = k
    · simp [e]
    · simp only [if_neg e]
      rw [← kidx_mget (l := l)]
      cases h : kidx (keysOf l) k with
      | none => simp [keysOf] at h; simp [h]
      | some j => simp [keysOf] at h; simp [h]
theorem kidx_lt [DecidableEq K] {k : K} : ∀ {ks : List K} {i : Nat}, kidx ks k = some i → i < ks.length ∧ ks[i]? = some k
  | [], i, h => by cases h
  | k' :: ks, i, h => by
    simp only [kidx] at h
    by_cases e : k' = k
    · subst e; simp at h; subst h; simp
    · rw [if_neg e] at h
      cases q : kidx ks k with
      | none => rw [q] at h; cases h
      | some j =>
        rw [q] at h; simp at h; subst h
        have := kidx_lt q
        simpa using this
theorem MapIs.len (m : MapIs ek evl l es clock) : es.size = l.length := by
  have := congrArg List.length m.keys; simpa using this
theorem MapIs.keys' (m : MapIs ek evl l es clock) : es.toList.map (·.key) = (keysOf l).map ek := by rw [m.keys]; simp [keysOf]
theorem MapIs.val_at (m : MapIs ek evl l es clock) (i : Nat) : (es.toList[i]?).map (·.val) = (l[i]?).map fun p => evl p.2 := by
  have := congrArg (fun x => x[i]?) m.vals
  simpa using this
theorem MapIs.found [DecidableEq K] (m : MapIs ek evl l es clock) (k : K) : ((kidx (keysOf l) k).bind fun i => es.toList[i]?.map fun e => (i, e.val)).map (·.2) = (mget l k).map evl := by
  rw [← kidx_mget]
  cases kidx (keysOf l) k with
  | none => rfl
  | some i =>
    have := m.val_at i
    simp only [Option.bind_some, Option.map_map]
    rw [show ((fun x : Nat × Value => x.2) ∘ fun e : MapEntry => (i, e.val)) = (·.val) from rfl, this]
    rfl
end

section rules
variable {P : Program} {g : World} {n : Nat} {s : Env} {L : List HP} {Q : Exit → Act → World → Prop} {ops : Array Oper} {rest : List Oper}
variable {d : Nat} {x y z : Operand} {ty T U : TypeId} {pos : String} {af : Array Edge} {v v' u : Value}
variable {K V : Type} [DecidableEq K] {ek : K → Value} {evl : V → Value} {l : List (K × V)} {f : List (K × V) → List HP} {r kt vt : Nat}

theorem run_lookup {w : World} {k : K} {zv : Value} {ok : Bool} [m : MapT P T kt vt] [kl : KeyT P kt K ek] [zz : Zv P vt zv] [i : HasM r K V ek evl l L f] (z0 : V) (hz : zv = evl z0) (s : Sat g w L) :
    (Instr.lookup T (.map (some r)) (ek k) ok).run P w = .ok (if ok then .tuple [evl ((mget l k).getD z0), .bool (mget l k).isSome].toArray else evl ((mget l k).getD z0)) w := by
  obtain ⟨es, clock, he, hm⟩ := i.read s
  have hf := kl.find k es.toList (keysOf l) w hm.keys'
  have hv := hm.found k
  simp only [Instr.lookup, Sem.run_bind, m.run, Result.andThen_ok, run_getObj_map he, Sem.run_pure, kl.check, hf]
  cases q : ((kidx (keysOf l) k).bind fun i => es.toList[i]?.map fun e => (i, e.val)) with
  | none =>
    rw [q] at hv
    have : mget l k = none := by cases h : mget l k with | none => rfl | some _ => rw [h] at hv; cases hv
    simp [this, zz.run, hz]
  | some iv =>
    obtain ⟨j, vv⟩ := iv
    rw [q] at hv
    cases h : mget l k with
    | none => rw [h] at hv; cases hv
    | some v0 =>
      rw [h] at hv; simp at hv; subst hv
      simp
theorem lk {k : K} {zv : Value} [m : MapT P T kt vt] [kl : KeyT P kt K ek] [zz : Zv P vt zv] [i : HasM r K V ek evl l L f] (z0 : V) (hz : zv = evl z0) (hn : Nat.blt d n = true) (hx : ev s x = some (.map (some r))) (hy : ev s y = some (ek k))
    (next : At g n ((d, evl ((mget l k).getD z0)) :: s) L (wpList P ops Q rest)) : At g n s L (wpList P ops Q (⟨some d, .lookup T x y false, ty, pos, af, none⟩ :: rest)) :=
  op_rd rfl rfl hn (fun a w ha hw => by simp [execOp, ha.ev hx, ha.ev hy, run_lookup (i := i) (kl := kl) (m := m) (zz := zz) z0 hz hw]) next
theorem lkQ {k : K} {zv : Value} [m : MapT P T kt vt] [kl : KeyT P kt K ek] [zz : Zv P vt zv] [i : HasM r K V ek evl l L f] (z0 : V) (hz : zv = evl z0) (hn : Nat.blt d n = true) (hx : ev s x = some (.map (some r))) (hy : ev s y = some (ek k))
    (next : AtQ P g n ((d, evl ((mget l k).getD z0)) :: s) L ops Q rest) : AtQ P g n s L ops Q (⟨some d, .lookup T x y false, ty, pos, af, none⟩ :: rest) :=
  opQ_rd rfl rfl hn (fun a w ha hw => by simp [execOp, ha.ev hx, ha.ev hy, run_lookup (i := i) (kl := kl) (m := m) (zz := zz) z0 hz hw]) next
theorem lkY {k : K} {zv : Value} [m : MapT P T kt vt] [kl : KeyT P kt K ek] [zz : Zv P vt zv] [i : HasM r K V ek evl l L f] (z0 : V) (hz : zv = evl z0) (hx : ev s x = some (.map (some r))) (hy : ev s y = some (ek k)) :
    Yl P g n s L ⟨some d, .lookup T x y false, ty, pos, af, none⟩ (evl ((mget l k).getD z0)) :=
  opY_rd rfl rfl (fun a w ha hw => by simp [execOp, ha.ev hx, ha.ev hy, run_lookup (i := i) (kl := kl) (m := m) (zz := zz) z0 hz hw])
theorem lkok {k : K} {zv : Value} [m : MapT P T kt vt] [kl : KeyT P kt K ek] [zz : Zv P vt zv] [i : HasM r K V ek evl l L f] (z0 : V) (hz : zv = evl z0) (hn : Nat.blt d n = true) (hx : ev s x = some (.map (some r))) (hy : ev s y = some (ek k))
    (next : At g n ((d, .tuple [evl ((mget l k).getD z0), .bool (mget l k).isSome].toArray) :: s) L (wpList P ops Q rest)) : At g n s L (wpList P ops Q (⟨some d, .lookup T x y true, ty, pos, af, none⟩ :: rest)) :=
  op_rd rfl rfl hn (fun a w ha hw => by simp [execOp, ha.ev hx, ha.ev hy, run_lookup (i := i) (kl := kl) (m := m) (zz := zz) z0 hz hw]) next
theorem lkokQ {k : K} {zv : Value} [m : MapT P T kt vt] [kl : KeyT P kt K ek] [zz : Zv P vt zv] [i : HasM r K V ek evl l L f] (z0 : V) (hz : zv = evl z0) (hn : Nat.blt d n = true) (hx : ev s x = some (.map (some r))) (hy : ev s y = some (ek k))
    (next : AtQ P g n ((d, .tuple [evl ((mget l k).getD z0), .bool (mget l k).isSome].toArray) :: s) L ops Q rest) : AtQ P g n s L ops Q (⟨some d, .lookup T x y true, ty, pos, af, none⟩ :: rest) :=
  opQ_rd rfl rfl hn (fun a w ha hw => by simp [execOp, ha.ev hx, ha.ev hy, run_lookup (i := i) (kl := kl) (m := m) (zz := zz) z0 hz hw]) next
theorem lkokY {k : K} {zv : Value} [m : MapT P T kt vt] [kl : KeyT P kt K ek] [zz : Zv P vt zv] [i : HasM r K V ek evl l L f] (z0 : V) (hz : zv = evl z0) (hx : ev s x = some (.map (some r))) (hy : ev s y = some (ek k)) :
    Yl P g n s L ⟨some d, .lookup T x y true, ty, pos, af, none⟩ (.tuple [evl ((mget l k).getD z0), .bool (mget l k).isSome].toArray) :=
  opY_rd rfl rfl (fun a w ha hw => by simp [execOp, ha.ev hx, ha.ev hy, run_lookup (i := i) (kl := kl) (m := m) (zz := zz) z0 hz hw])
omit [DecidableEq K] in
theorem lnM [m : MapT P T kt vt] [i : HasM r K V ek evl l L f] (hn : Nat.blt d n = true) (hx : ev s x = some (.map (some r))) (next : At g n ((d, .int .i64 (l.length : Nat)) :: s) L (wpList P ops Q rest)) :
    At g n s L (wpList P ops Q (⟨some d, .call ⟨.builtin .len, #[x], #[T]⟩, ty, pos, af, none⟩ :: rest)) :=
  op_rd rfl rfl hn (fun a w ha hw => by
    obtain ⟨es, clock, he, hm⟩ := i.read hw
    simp [execOp, resolve, invoke, builtin, Builtin.len_, ha.ev hx, m.run, goInt, run_getObj_map he, hm.len]) next

omit [DecidableEq K] in
theorem lnMQ [m : MapT P T kt vt] [i : HasM r K V ek evl l L f] (hn : Nat.blt d n = true) (hx : ev s x = some (.map (some r)))
    (next : AtQ P g n ((d, .int .i64 (l.length : Nat)) :: s) L ops Q rest) : AtQ P g n s L ops Q (⟨some d, .call ⟨.builtin .len, #[x], #[T]⟩, ty, pos, af, none⟩ :: rest) :=
  opQ_rd rfl rfl hn (fun a w ha hw => by
    obtain ⟨es, clock, he, hm⟩ := i.read hw
    simp [execOp, resolve, invoke, builtin, Builtin.len_, ha.ev hx, m.run, goInt, run_getObj_map he, hm.len]) next
omit [DecidableEq K] in
theorem lnMY [m : MapT P T kt vt] [i : HasM r K V ek evl l L f] (hx : ev s x = some (.map (some r))) :
    Yl P g n s L ⟨some d, .call ⟨.builtin .len, #[x], #[T]⟩, ty, pos, af, none⟩ (.int .i64 (l.length : Nat)) :=
  opY_rd rfl rfl (fun a w ha hw => by
    obtain ⟨es, clock, he, hm⟩ := i.read hw
    simp [execOp, resolve, invoke, builtin, Builtin.len_, ha.ev hx, m.run, goInt, run_getObj_map he, hm.len])
theorem map_set_eq {α β : Type} (h : α → β) : ∀ (l : List α) (i : Nat) (a : α), (l.set i a).map h = (l.map h).set i (h a)
  | [], i, a => by simp
  | b :: l, 0, a => by simp
  | b :: l, i + 1, a => by simp
theorem mset_at {k : K} {v : V} : ∀ {l : List (K × V)} {i : Nat}, kidx (keysOf l) k = some i → mset l k v = l.set i (k, v)
  | [], i, h => by cases h
  | (k', v') :: l, i, h => by
    simp only [keysOf, List.map_cons, kidx] at h
    simp only [mset]
    by_cases e : k' = k
    · simp [e] at h; subst h; simp [e]
    · rw [if_neg e] at h ⊢
      cases q : kidx (keysOf l) k with
      | none => simp [keysOf] at q; simp [q] at h
      | some j =>
        have q' := q
        simp [keysOf] at q
        simp [q] at h; subst h
        rw [mset_at q']; rfl
theorem mset_new {k : K} {v : V} : ∀ {l : List (K × V)}, kidx (keysOf l) k = none → mset l k v = l ++ [(k, v)]
  | [], h => rfl
  | (k', v') :: l, h => by
    simp only [keysOf, List.map_cons, kidx] at h
    simp only [mset]
    by_cases e : k' = k
    · simp [e] at h
    · rw [if_neg e] at h ⊢
      cases q : kidx (keysOf l) k with
      | none => rw [mset_new q]; rfl
      | some j => simp [keysOf] at q; simp [q] at h
theorem mdel_at {k : K} : ∀ {l : List (K × V)} {i : Nat}, kidx (keysOf l) k = some i → mdel l k = l.eraseIdx i
  | [], i, h => by cases h
  | (k', v') :: l, i, h => by
    simp only [keysOf, List.map_cons, kidx] at h
    simp only [mdel]
    by_cases e : k' = k
    · simp [e] at h; subst h; simp [e]
    · rw [if_neg e] at h ⊢
      cases q : kidx (keysOf l) k with
      | none => simp [keysOf] at q; simp [q] at h
      | some j =>
        have q' := q
        simp [keysOf] at q
        simp [q] at h; subst h
        rw [mdel_at q']; rfl
theorem mdel_none {k : K} : ∀ {l : List (K × V)}, kidx (keysOf l) k = none → mdel l k = l
  | [], h => rfl
  | (k', v') :: l, h => by
    simp only [keysOf, List.map_cons, kidx] at h
    simp only [mdel]
    by_cases e : k' = k
    · simp [e] at h
    · rw [if_neg e] at h ⊢
      cases q : kidx (keysOf l) k with
      | none => rw [mdel_none q]
      | some j => simp [keysOf] at q; simp [q] at h

theorem MapIs.set {es : Array MapEntry} {clock i : Nat} {k : K} {v : V} (m : MapIs ek evl l es clock) (h : kidx (keysOf l) k = some i) :
    MapIs ek evl (mset l k v) (es.modify i fun e => { e with key := ek k, val := evl v }) clock := by
  have hlt := (kidx_lt h).1
  simp [keysOf] at hlt
  have hes : i < es.size := by rw [m.len]; exact hlt
  have hl : (es.modify i fun e => { e with key := ek k, val := evl v }).toList = es.toList.set i { es[i] with key := ek k, val := evl v } := by
    apply List.ext_getElem?
    intro j
    simp only [Array.getElem?_toList, Array.getElem?_modify, List.getElem?_set, Array.length_toList]
    by_cases e : i = j
    · subst e; simp [hes]
    · simp [e]
  refine ⟨?_, ?_, nodup_mset m.nodup, ?_, ?_⟩
  · rw [hl, map_set_eq, m.keys, mset_at h, map_set_eq]
  · rw [hl, map_set_eq, m.vals, mset_at h, map_set_eq]
  · rw [hl, map_set_eq]
    have : (es.toList.map (·.born)).set i es[i].born = es.toList.map (·.born) := by
      apply List.ext_getElem?
      intro j
      rw [List.getElem?_set]
      by_cases e : i = j
      · subst e; simp [hes]
      · simp [e]
    rw [this]; exact m.born
  · intro e he
    rw [hl] at he
    rcases List.mem_or_eq_of_mem_set he with q | q
    · exact m.lt e q
    · subst q; exact m.lt es[i] (by simp)
theorem MapIs.push {es : Array MapEntry} {clock : Nat} {k : K} {v : V} (m : MapIs ek evl l es clock) (h : kidx (keysOf l) k = none) :
    MapIs ek evl (mset l k v) (es.push { key := ek k, val := evl v, born := clock }) (clock + 1) := by
  refine ⟨?_, ?_, nodup_mset m.nodup, ?_, ?_⟩
  · simp [mset_new h, ← m.keys]
  · simp [mset_new h, ← m.vals]
  · simp only [Array.toList_push, List.map_append, List.map_cons, List.map_nil]
    rw [List.nodup_append]
    refine ⟨m.born, by simp, fun a ha b hb => ?_⟩
    simp at hb; subst hb
    obtain ⟨e, he, rfl⟩ := List.mem_map.1 ha
    exact Nat.ne_of_lt (m.lt e he)
  · intro e he
    simp only [Array.toList_push, List.mem_append, List.mem_singleton] at he
    rcases he with he | rfl
    · exact Nat.lt_succ_of_lt (m.lt e he)
    · exact Nat.lt_succ_self _
theorem MapIs.del {es : Array MapEntry} {clock i : Nat} {k : K} (m : MapIs ek evl l es clock) (h : kidx (keysOf l) k = some i) : MapIs ek evl (mdel l k) (es.eraseIdxIfInBounds i) clock := by
  have hlt := (kidx_lt h).1
  simp [keysOf] at hlt
  have hes : i < es.size := by rw [m.len]; exact hlt
  have hl : (es.eraseIdxIfInBounds i).toList = es.toList.eraseIdx i := by simp [Array.eraseIdxIfInBounds, hes]
  have me : ∀ {α β : Type} (h : α → β) (l : List α) (i : Nat), (l.eraseIdx i).map h = (l.map h).eraseIdx i := by
    intro α β h l i
    induction l generalizing i with
    | nil => simp
    | cons a l ih => cases i <;> simp [ih]
  refine ⟨?_, ?_, nodup_mdel m.nodup, ?_, ?_⟩
  · rw [hl, me, m.keys, mdel_at h, me]
  · rw [hl, me, m.vals, mdel_at h, me]
  · rw [hl, me]; exact m.born.sublist (List.eraseIdx_sublist _ _)
  · intro e he
    rw [hl] at he
    exact m.lt e (List.mem_of_mem_eraseIdx he)

/-- A store into a map. -/
theorem mu {k : K} {v : V} [m : MapT P T kt vt] [kl : KeyT P kt K ek] [i : HasM r K V ek evl l L f] (hx : ev s x = some (.map (some r))) (hy : ev s y = some (ek k)) (hz : ev s z = some (evl v))
    (next : At g n s (f (mset l k v)) (wpList P ops Q rest)) : At g n s L (wpList P ops Q (⟨none, .mapUpdate T x y z, ty, pos, af, none⟩ :: rest)) :=
  op_none (α := Unit) .skip (.inr rfl) (fun _ => f (mset l k v)) rfl rfl (fun a w ha hw => by
    obtain ⟨es, clock, he, hm⟩ := i.read hw
    have hf := kl.find k es.toList (keysOf l) w hm.keys'
    cases q : kidx (keysOf l) k with
    | none =>
      rw [q] at hf
      obtain ⟨w', hr, tw⟩ := turned_setObj (P := P) (o' := .map (es.push { key := ek k, val := evl v, born := clock }) (clock + 1)) he (by intro _ _ _ h; cases h)
      refine ⟨(), w', ?_, i.write hw tw (hm.push q)⟩
      simp [execOp, ha.ev hx, ha.ev hy, ha.ev hz, Instr.mapUpdate, m.run, run_getObj_map he, kl.check, hf, hr]
    | some j =>
      rw [q] at hf
      have hlt := (kidx_lt q).1
      simp [keysOf] at hlt
      have hes : j < es.size := by rw [hm.len]; exact hlt
      have hkey : (es[j]).key = ek k := by
        have h2 := (kidx_lt q).2
        have := congrArg (fun x => x[j]?) hm.keys'
        simp [hes] at this
        rw [h2] at this; simpa using this
      obtain ⟨w', hr, tw⟩ := turned_setObj (P := P) (o' := .map (es.modify j fun e => { e with key := ek k, val := evl v }) clock) he (by intro _ _ _ h; cases h)
      refine ⟨(), w', ?_, i.write hw tw (hm.set q)⟩
      have hst : (Instr.keyThatStays (ek k) (ek k)).run P w = .ok (ek k) w := by simp [Instr.keyThatStays, kl.bits]
      simp [execOp, ha.ev hx, ha.ev hy, ha.ev hz, Instr.mapUpdate, m.run, run_getObj_map he, kl.check, hf, hes, hkey, hst, hr]) fun _ => next
/-- delete -/
theorem dl {k : K} {kt' : Nat} [m : MapT P T kt vt] [kl : KeyT P kt K ek] [i : HasM r K V ek evl l L f] (hx : ev s x = some (.map (some r))) (hy : ev s y = some (ek k))
    (next : At g n s (f (mdel l k)) (wpList P ops Q rest)) : At g n s L (wpList P ops Q (⟨none, .call ⟨.builtin .delete, #[x, y], #[T, kt']⟩, ty, pos, af, none⟩ :: rest)) :=
  op_none (α := Unit) (.value (.tuple #[])) (.inl ⟨_, rfl⟩) (fun _ => f (mdel l k)) rfl rfl (fun a w ha hw => by
    obtain ⟨es, clock, he, hm⟩ := i.read hw
    have hf := kl.find k es.toList (keysOf l) w hm.keys'
    cases q : kidx (keysOf l) k with
    | none =>
      rw [q] at hf
      obtain ⟨w', hr, tw⟩ := turned_setObj (P := P) (o' := .map es clock) he (by intro _ _ _ h; cases h)
      refine ⟨(), w', ?_, i.write hw tw (by rw [mdel_none q]; exact hm)⟩
      simp [execOp, resolve, invoke, builtin, Builtin.delete_, ha.ev hx, ha.ev hy, m.run, run_getObj_map he, kl.check, hf, hr]
    | some j =>
      rw [q] at hf
      have hlt := (kidx_lt q).1
      simp [keysOf] at hlt
      have hes : j < es.size := by rw [hm.len]; exact hlt
      obtain ⟨w', hr, tw⟩ := turned_setObj (P := P) (o' := .map (es.eraseIdxIfInBounds j) clock) he (by intro _ _ _ h; cases h)
      refine ⟨(), w', ?_, i.write hw tw (hm.del q)⟩
      simp [execOp, resolve, invoke, builtin, Builtin.delete_, ha.ev hx, ha.ev hy, m.run, run_getObj_map he, kl.check, hf, hes, hr]) fun _ => next
/-- make(map[..]..) without a size -/
theorem mk0 (K V : Type) (ek : K → Value) (evl : V → Value) (hn : Nat.blt d n = true) (next : ∀ r, At g n ((d, .map (some r)) :: s) (mp ek evl r [] :: L) (wpList P ops Q rest)) :
    At g n s L (wpList P ops Q (⟨some d, .makeMap T none, ty, pos, af, none⟩ :: rest)) :=
  op_any (fun r => .map (some r)) (fun r => mp ek evl r [] :: L) rfl rfl hn (fun a w ha hw => ⟨w.heap.size, w.alloc (.map #[] 0), by simp [execOp, Instr.makeMap],
    (hw.alloc _).imp fun h q => q.headMono fun k e => ⟨#[], 0, e, by simp, by simp, by simp [keysOf], by simp, by simp⟩⟩) next

/-- A map that is being ranged over, its iterator beside it: 'done' has been handed out, in this order. -/
def mpi (ek : K → Value) (evl : V → Value) (r it : Nat) (l done : List (K × V)) : HP := fun h => r ≠ it ∧ ∃ es clock seen, h r = some (.map es clock) ∧ h it = some (.mapIter (some r) clock seen clock) ∧ MapIs ek evl l es clock ∧
  ∃ dn rest : List (MapEntry × (K × V)), (dn ++ rest).Perm (es.toList.zip l) ∧ seen.toList = dn.map (·.1.born) ∧ done = dn.map (·.2)
class HasI (it : Nat) (K V : outParam Type) (ek : outParam (K → Value)) (evl : outParam (V → Value)) (r : outParam Nat) (l done : outParam (List (K × V))) (L : List HP) (f : outParam (List (K × V) → List HP)) : Prop where
  fwd : ∀ h, Sats L h → ∃ R, Sats (mpi ek evl r it l done :: R) h ∧ ∀ l' k, Sats (mpi ek evl r it l l' :: R) k → Sats (f l') k
instance (priority := high) HasI.here (it r : Nat) (K V : Type) (ek : K → Value) (evl : V → Value) (l done : List (K × V)) (L : List HP) : HasI it K V ek evl r l done (mpi ek evl r it l done :: L) (fun l' => mpi ek evl r it l l' :: L) :=
  ⟨fun _ s => ⟨L, s, fun _ _ s => s⟩⟩
instance (priority := low) HasI.there (it r : Nat) (K V : Type) (ek : K → Value) (evl : V → Value) (l done : List (K × V)) (A : HP) (L : List HP) (f : List (K × V) → List HP) [i : HasI it K V ek evl r l done L f] : HasI it K V ek evl r l done (A :: L) (fun l' => A :: f l') :=
  ⟨fun h s => by
    obtain ⟨h1, h2, d, l1, l2, a, s⟩ := s
    obtain ⟨R, s1, s2⟩ := i.fwd _ s
    exact ⟨A :: R, Sats.swap ⟨h1, h2, d, l1, l2, a, s1⟩, fun cs' k q => Sats.under (s2 cs') (Sats.swap q)⟩⟩
omit [DecidableEq K] in
theorem mpi_done {it : Nat} {done : List (K × V)} {h : Hp} (q : mpi ek evl r it l done h) : mp ek evl r l h := by
  obtain ⟨_, es, clock, _, a, _, b, _⟩ := q
  exact ⟨es, clock, a, b⟩
omit [DecidableEq K] in
theorem MapIs.zip1 {es : Array MapEntry} {clock : Nat} (m : MapIs ek evl l es clock) : (es.toList.zip l).map (·.1) = es.toList := List.map_fst_zip (by rw [← m.len]; simp)
omit [DecidableEq K] in
theorem MapIs.zip2 {es : Array MapEntry} {clock : Nat} (m : MapIs ek evl l es clock) : (es.toList.zip l).map (·.2) = l := List.map_snd_zip (by rw [← m.len]; simp)
omit [DecidableEq K] in
theorem MapIs.zipped {es : Array MapEntry} {clock : Nat} (m : MapIs ek evl l es clock) {p : MapEntry × (K × V)} (h : p ∈ es.toList.zip l) : p.1.key = ek p.2.1 ∧ p.1.val = evl p.2.2 ∧ p.1.born < clock ∧ p.1 ∈ es.toList ∧ p.2 ∈ l := by
  obtain ⟨j, hj, rfl⟩ := List.mem_iff_getElem.1 h
  simp only [List.getElem_zip]
  have h1 := congrArg (fun x => x[j]?) m.keys
  have h2 := congrArg (fun x => x[j]?) m.vals
  have hj' : j < es.toList.length ∧ j < l.length := by simpa [List.length_zip, Nat.lt_min] using hj
  simp only [List.getElem?_map, List.getElem?_eq_getElem hj'.1, List.getElem?_eq_getElem hj'.2, Option.map_some, Option.some.injEq] at h1 h2
  exact ⟨h1, h2, m.lt _ (List.getElem_mem _), List.getElem_mem _, List.getElem_mem _⟩
omit [DecidableEq K] in
/-- 'range' over a map. -/
theorem rgm [m : MapT P T kt vt] [i : HasM r K V ek evl l L f] {R : List HP} (hn : Nat.blt d n = true) (hx : ev s x = some (.map (some r))) (hR : ∀ h, Sats L h → Sats (mp ek evl r l :: R) h)
    (next : ∀ it, At g n ((d, .pointer (some ⟨it, 0, none⟩)) :: s) (mpi ek evl r it l [] :: R) (wpList P ops Q rest)) :
    At g n s L (wpList P ops Q (⟨some d, .range T x, ty, pos, af, none⟩ :: rest)) :=
  op_any (fun it => .pointer (some ⟨it, 0, none⟩)) (fun it => mpi ek evl r it l [] :: R) rfl rfl hn (fun a w ha hw => by
    obtain ⟨es, clock, he, hm⟩ := i.read hw
    refine ⟨w.heap.size, w.alloc (.mapIter (some r) clock #[] clock), by simp [execOp, Instr.range, ha.ev hx, m.run, run_getObj_map he], ?_⟩
    have hs := (hw.imp hR).alloc (.mapIter (some r) clock #[] clock)
    refine ⟨hs.os, hs.tape, hs.output, hs.size, ?_⟩
    obtain ⟨h1, h2, d1, l1, l2, a1, k1, k2, d2, l3, l4, ⟨es', clock', a2, hm'⟩, s2⟩ := hs.mem
    have e1 := l2 _ _ (l3 _ _ a2)
    have hne : r ≠ w.heap.size := by
      intro e
      rcases d1 r with q | q
      · rw [e] at q; rw [show h1 w.heap.size = _ from a1] at q; cases q
      · rw [l3 _ _ a2] at q; cases q
    have he' : hpOf (w.alloc (.mapIter (some r) clock #[] clock)) r = some (.map es clock) := by
      have : hpOf w r = some (.map es clock) := he
      simp only [hpOf, World.alloc, Array.getElem?_push] at this ⊢
      rw [if_neg hne]; exact this
    rw [he'] at e1
    cases e1
    refine ⟨Hp.join k1 h1, k2, ?_, Hp.join_le (Hp.le_trans l3 l2) l1, Hp.le_trans l4 l2, ⟨hne, es, clock, #[], Hp.le_join_left _ _ a2, Hp.le_join_right (Hp.disj_symm (Hp.disj_le d1 (Hp.le_refl _) l3)) _ _ a1, hm, [], es.toList.zip l, by simp, by simp, by simp⟩, s2⟩
    exact Hp.disj_symm (Hp.disj_join_right (Hp.disj_symm d2) (Hp.disj_symm (Hp.disj_le d1 (Hp.le_refl _) l4)))) next
theorem run_choose_lt {w : World} {q : Question} {m : Nat} (hq : q = .mapNext m) (hm : 0 < m) : ∃ k w', k < m ∧ (choose q).run P w = .ok k w' ∧ w'.heap = w.heap ∧ w'.os = w.os ∧ w'.tape = w.tape ∧ Out w w' := by
  subst hq
  rw [run_choose]
  split
  · exact ⟨0, w, hm, rfl, rfl, rfl, rfl, Out.same _⟩
  · exact ⟨_, _, Nat.mod_lt _ hm, rfl, rfl, rfl, rfl, ⟨rfl, Nat.le_succ _⟩⟩
/-- The next pair of a map that is ranged over, or its end. -/
theorem nxm {it : Nat} {done : List (K × V)} [i : HasI it K V ek evl r l done L f] (hn : Nat.blt d n = true) (hx : ev s x = some (.pointer (some ⟨it, 0, none⟩)))
    (stop : done.Perm l → At g n ((d, .tuple [.bool false].toArray) :: s) L (wpList P ops Q rest))
    (next : ∀ k v rst, (done ++ (k, v) :: rst).Perm l → At g n ((d, .tuple [.bool true, ek k, evl v].toArray) :: s) (f (done ++ [(k, v)])) (wpList P ops Q rest)) :
    At g n s L (wpList P ops Q (⟨some d, .next x false, ty, pos, af, none⟩ :: rest)) := by
  intro a w ha hw
  obtain ⟨R, s1, s2⟩ := i.fwd _ hw.mem
  obtain ⟨h1, h2, dj, l1, l2, ⟨hne, es, clock, seen, hr, hit, hm, dn, rst, hp, hseen, hdone⟩, sR⟩ := s1
  have er : hpOf w r = some (.map es clock) := l1 _ _ hr
  have eit : hpOf w it = some (.mapIter (some r) clock seen clock) := l1 _ _ hit
  have hgi : (getObj it).run P w = .ok (.mapIter (some r) clock seen clock) w := by
    have h' : w.heap[it]? = some (.mapIter (some r) clock seen clock) := eit
    simp only [getObj, Sem.run, h']
  -- nothing new, and some old entry is left, if any entry is there
  have hall : (!seen.isEmpty && !es.isEmpty && es.all (fun e => decide (e.born ≥ clock))) = false := by
    by_cases e0 : es.isEmpty = true
    · simp [e0]
    · have hne' : es.toList ≠ [] := by simpa using e0
      obtain ⟨e, he⟩ := List.exists_mem_of_ne_nil _ hne'
      have hlt := hm.lt e he
      have : es.all (fun e => decide (e.born ≥ clock)) = false := by
        rw [Bool.eq_false_iff]
        intro q
        rw [Array.all_eq_true'] at q
        have := q e (by simpa using he)
        simp at this; omega
      simp [this]
  have hsplit : ∀ l1 : Array MapEntry, (∀ e ∈ l1.toList, e.born < clock) → (l1.filter (·.born < clock)) = l1 ∧ (l1.filter (·.born ≥ clock)) = #[] := by
    intro l1 h
    constructor
    · rw [Array.filter_eq_self]; intro e he; simpa using h e (by simpa using he)
    · rw [Array.filter_eq_empty_iff]; intro e he; have := h e (by simpa using he); simp; omega
  obtain ⟨lf, hlf⟩ : ∃ lf : Array MapEntry, lf = es.filter fun e => !seen.contains e.born := ⟨_, rfl⟩
  have hleftlt : ∀ e ∈ lf.toList, e.born < clock := by
    intro e he
    rw [hlf] at he
    simp at he
    exact hm.lt e (by simpa using he.1)
  obtain ⟨ho, hnw⟩ := hsplit _ hleftlt
  have hcand : ((if lf.isEmpty then #[none] else #[]) ++ (lf ++ #[]).map some : Array (Option MapEntry)).size ≠ 0 := by
    by_cases q : lf.isEmpty = true
    · simp [q]
    · have : lf.size ≠ 0 := by simpa using q
      rw [if_neg q]; simpa using this
  obtain ⟨c, w1, hc, hrun, hh, hos, htp, hout⟩ := run_choose_lt (P := P) (w := w) (q := .mapNext ((if lf.isEmpty then #[none] else #[]) ++ (lf ++ #[]).map some : Array (Option MapEntry)).size) rfl (Nat.pos_of_ne_zero hcand)
  have ew1 : hpOf w1 = hpOf w := by funext b; simp [hpOf, hh]
  have hsat1 : Sat g w1 L := ⟨hos.trans hw.os, htp.trans hw.tape, hout.trans hw.output, by rw [hh]; exact hw.size, by rw [ew1]; exact hw.mem⟩
  refine wpList_plain rfl fun K' hK => ?_
  unfold Oper.wp
  by_cases hemp : lf.isEmpty = true
  · -- the end
    have hrest : rst = [] := by
      cases rst with
      | nil => rfl
      | cons p rst =>
        exfalso
        have hmem : p ∈ es.toList.zip l := hp.mem_iff.1 (by simp)
        have hz := hm.zipped hmem
        have hnd : ((dn ++ p :: rst).map (·.1.born)).Nodup := by
          have h3 := hp.map (·.1.born)
          rw [h3.nodup_iff]
          have : (es.toList.zip l).map (fun q => q.1.born) = es.toList.map (·.born) := by
            conv => rhs; rw [← hm.zip1]
            simp
          rw [this]; exact hm.born
        have hnot : p.1.born ∉ seen.toList := by
          rw [hseen]
          intro q
          rw [List.map_append, List.nodup_append] at hnd
          exact hnd.2.2 _ q p.1.born (by simp) rfl
        have hin : p.1 ∈ lf.toList := by
          rw [hlf]
          simp only [Array.toList_filter, List.mem_filter]
          refine ⟨hz.2.2.2.1, ?_⟩
          simp; simpa using hnot
        have : lf.toList = [] := by simpa using hemp
        rw [this] at hin; cases hin
    subst hrest
    have hperm : done.Perm l := by
      rw [hdone, ← hm.zip2]
      simpa using hp.map (·.2)
    have hc0 : c = 0 := by
      have : lf = #[] := by simpa using hemp
      rw [this] at hc; simp at hc; exact hc
    have hrun2 : (execOp a.eval ⟨some d, .next x false, ty, pos, af, none⟩).run P w = .ok (.value (.tuple #[.bool false])) w1 := by
      have hE : lf = #[] := by simpa using hemp
      simp only [execOp, ha.ev hx, Instr.next, Sem.run_bind, hgi, Result.andThen_ok, run_getObj_map er, Sem.run_pure]
      rw [hall, ← hlf]
      simp only [Bool.false_eq_true, if_false, Sem.run_bind, Sem.run_pure, Result.andThen_ok]
      rw [ho, hnw, hrun]
      subst hc0
      simp [hE]
    rw [hrun2]
    exact hK _ _ (stop hperm _ _ (ha.put hn _) hsat1)
  · -- one more
    have hsz : c < lf.size := by rw [if_neg hemp] at hc; simpa using hc
    have hin : lf[c] ∈ lf.toList := by simp
    generalize hedef : lf[c] = e at hin
    have hin' := hin
    rw [hlf] at hin'
    simp only [Array.toList_filter, List.mem_filter] at hin'
    obtain ⟨he1, he2⟩ := hin'
    have hnot : e.born ∉ seen.toList := by simp at he2; simpa using he2
    obtain ⟨p, hp1, hp2⟩ : ∃ p ∈ es.toList.zip l, p.1 = e := by
      have : e ∈ (es.toList.zip l).map (·.1) := by rw [hm.zip1]; exact he1
      obtain ⟨p, h3, h4⟩ := List.mem_map.1 this
      exact ⟨p, h3, h4⟩
    have hz := hm.zipped hp1
    have hprest : p ∈ rst := by
      rcases List.mem_append.1 (hp.mem_iff.2 hp1) with q | q
      · exfalso; apply hnot; rw [hseen, ← hp2]; exact List.mem_map_of_mem q
      · exact q
    obtain ⟨r1, r2, rfl⟩ := List.append_of_mem hprest
    obtain ⟨w2, hset, tw⟩ := turned_setObj (P := P) (w := w1) (r := it) (o := .mapIter (some r) clock seen clock) (o' := .mapIter (some r) clock (seen.push e.born) clock) (by rw [ew1]; exact eit) (by intro _ _ _ h; cases h)
    have hrun2 : (execOp a.eval ⟨some d, .next x false, ty, pos, af, none⟩).run P w = .ok (.value (.tuple #[.bool true, e.key, e.val])) w2 := by
      simp only [execOp, ha.ev hx, Instr.next, Sem.run_bind, hgi, Result.andThen_ok, run_getObj_map er, Sem.run_pure]
      rw [hall, ← hlf]
      simp only [Bool.false_eq_true, if_false, Sem.run_bind, Sem.run_pure, Result.andThen_ok]
      rw [ho, hnw, hrun]
      simp only [Result.andThen_ok, if_neg hemp, Array.append_empty, Array.empty_append, Array.getElem?_map, Array.getElem?_eq_getElem hsz, hedef, Option.map_some, Sem.run_bind, hset, Sem.run_pure]
    rw [hrun2]
    have hkv : e.key = ek p.2.1 ∧ e.val = evl p.2.2 := by rw [← hp2]; exact ⟨hz.1, hz.2.1⟩
    refine hK _ _ ?_
    rw [hkv.1, hkv.2]
    have hpermNew : ((dn ++ [p]) ++ (r1 ++ r2)).Perm (es.toList.zip l) := by
      refine List.Perm.trans ?_ hp
      rw [List.append_assoc]
      exact List.Perm.append_left dn (by simpa using (List.perm_middle (a := p) (l₁ := r1) (l₂ := r2)).symm)
    refine next p.2.1 p.2.2 ((r1 ++ r2).map (·.2)) ?_ _ _ (ha.put hn _) ⟨tw.os.trans hsat1.os, tw.tape.trans hsat1.tape, tw.output.trans hsat1.output, by rw [tw.size]; exact hsat1.size, ?_⟩
    · have h3 := hpermNew.map (·.2)
      rw [hm.zip2] at h3
      simpa [hdone] using h3
    · obtain ⟨R1, t1, t2⟩ := i.fwd _ hsat1.mem
      rw [tw.mem]
      apply s2
      have e1 : hpOf w1 = hpOf w := by funext b; simp [hpOf, hh]
      rw [e1]
      refine ⟨h1.put it (.mapIter (some r) clock (seen.push e.born) clock), h2, ?_, ?_, ?_, ?_, sR⟩
      · intro b
        by_cases q : b = it
        · subst q; right
          rcases dj b with q | q
          · rw [hit] at q; cases q
          · exact q
        · rcases dj b with q' | q'
          · left; simp [Hp.put, q, q']
          · exact .inr q'
      · intro b o q
        by_cases hb : b = it
        · subst hb; simp [Hp.put] at q ⊢; exact q
        · simp [Hp.put, hb] at q ⊢; exact l1 _ _ q
      · intro b o q
        by_cases hb : b = it
        · subst hb
          rcases dj b with q' | q'
          · rw [hit] at q'; cases q'
          · rw [q'] at q; cases q
        · simp [Hp.put, hb]; exact l2 _ _ q
      · refine ⟨hne, es, clock, seen.push e.born, by simp [Hp.put, hne, hr], Hp.put_at _ _ _, hm, dn ++ [p], r1 ++ r2, hpermNew, ?_, ?_⟩
        · simp [hseen, hp2]
        · simp [hdone]
/-- The pair at which an iteration stands. -/
theorem entM {it : Nat} {ds : List (K × V)} {k : K} {v : V} [i : HasI it K V ek evl r l (ds ++ [(k, v)]) L f] (hn : Nat.blt d n = true) (hx : ev s x = some (.pointer (some ⟨it, 0, none⟩)))
    (next : At g n ((d, .tuple [ek k, evl v].toArray) :: s) L (wpList P ops Q rest)) : At g n s L (wpList P ops Q (⟨some d, .entry x, ty, pos, af, none⟩ :: rest)) :=
  op_rd rfl rfl hn (fun a w ha hw => by
    obtain ⟨R, s1, _⟩ := i.fwd _ hw.mem
    obtain ⟨h1, h2, dj, l1, l2, ⟨hne, es, clock, seen, hr, hit, hm, dn, rst, hp, hseen, hdone⟩, sR⟩ := s1
    have er : hpOf w r = some (.map es clock) := l1 _ _ hr
    have eit : w.heap[it]? = some (.mapIter (some r) clock seen clock) := l1 _ _ hit
    have hgi : (getObj it).run P w = .ok (.mapIter (some r) clock seen clock) w := by simp only [getObj, Sem.run, eit]
    have hdn : dn ≠ [] := fun e => by rw [e] at hdone; simp at hdone
    obtain ⟨dn', p, rfl⟩ : ∃ dn' p, dn = dn' ++ [p] := ⟨dn.dropLast, dn.getLast hdn, (List.dropLast_concat_getLast hdn).symm⟩
    rw [List.map_append, List.map_cons, List.map_nil] at hdone
    have hpv : p.2 = (k, v) := by
      have := (List.append_inj' hdone rfl).2
      simp at this; exact this.symm
    have hback : seen.back? = some p.1.born := by
      rw [Array.back?_eq_getElem?, ← Array.getElem?_toList, hseen]
      simp [← Array.length_toList, hseen]
    have hmem : p ∈ es.toList.zip l := hp.mem_iff.1 (by simp)
    have hz := hm.zipped hmem
    have hfind : es.find? (fun e => e.born == p.1.born) = some p.1 := by
      rw [← Array.find?_toList]
      have key : ∀ (l : List MapEntry), (l.map (·.born)).Nodup → p.1 ∈ l → l.find? (fun e => e.born == p.1.born) = some p.1 := by
        intro l
        induction l with
        | nil => intro _ h; cases h
        | cons e l ih =>
          intro hn h
          simp only [List.map_cons, List.nodup_cons] at hn
          rw [List.find?_cons]
          rcases List.mem_cons.1 h with q | q
          · subst q; simp
          · have hne : (e.born == p.1.born) = false := beq_eq_false_iff_ne.2 fun e' => hn.1 (by rw [e']; exact List.mem_map_of_mem q)
            rw [hne]; exact ih hn.2 q
      exact key _ hm.born hz.2.2.2.1
    have h1 : p.1.key = ek k := by rw [hz.1, hpv]
    have h2 : p.1.val = evl v := by rw [hz.2.1, hpv]
    simp only [execOp, ha.ev hx, Instr.entry, Sem.run_bind, hgi, Result.andThen_ok, hback, run_getObj_map er]
    simp [hfind, h1, h2]) next
theorem entMQ {it : Nat} {ds : List (K × V)} {k : K} {v : V} [i : HasI it K V ek evl r l (ds ++ [(k, v)]) L f] (hn : Nat.blt d n = true) (hx : ev s x = some (.pointer (some ⟨it, 0, none⟩)))
    (next : AtQ P g n ((d, .tuple [ek k, evl v].toArray) :: s) L ops Q rest) : AtQ P g n s L ops Q (⟨some d, .entry x, ty, pos, af, none⟩ :: rest) :=
  opQ_rd rfl rfl hn (fun a w ha hw => by
    obtain ⟨R, s1, _⟩ := i.fwd _ hw.mem
    obtain ⟨h1, h2, dj, l1, l2, ⟨hne, es, clock, seen, hr, hit, hm, dn, rst, hp, hseen, hdone⟩, sR⟩ := s1
    have er : hpOf w r = some (.map es clock) := l1 _ _ hr
    have eit : w.heap[it]? = some (.mapIter (some r) clock seen clock) := l1 _ _ hit
    have hgi : (getObj it).run P w = .ok (.mapIter (some r) clock seen clock) w := by simp only [getObj, Sem.run, eit]
    have hdn : dn ≠ [] := fun e => by rw [e] at hdone; simp at hdone
    obtain ⟨dn', p, rfl⟩ : ∃ dn' p, dn = dn' ++ [p] := ⟨dn.dropLast, dn.getLast hdn, (List.dropLast_concat_getLast hdn).symm⟩
    rw [List.map_append, List.map_cons, List.map_nil] at hdone
    have hpv : p.2 = (k, v) := by
      have := (List.append_inj' hdone rfl).2
      simp at this; exact this.symm
    have hback : seen.back? = some p.1.born := by
      rw [Array.back?_eq_getElem?, ← Array.getElem?_toList, hseen]
      simp [← Array.length_toList, hseen]
    have hmem : p ∈ es.toList.zip l := hp.mem_iff.1 (by simp)
    have hz := hm.zipped hmem
    have hfind : es.find? (fun e => e.born == p.1.born) = some p.1 := by
      rw [← Array.find?_toList]
      have key : ∀ (l : List MapEntry), (l.map (·.born)).Nodup → p.1 ∈ l → l.find? (fun e => e.born == p.1.born) = some p.1 := by
        intro l
        induction l with
        | nil => intro _ h; cases h
        | cons e l ih =>
          intro hn h
          simp only [List.map_cons, List.nodup_cons] at hn
          rw [List.find?_cons]
          rcases List.mem_cons.1 h with q | q
          · subst q; simp
          · have hne : (e.born == p.1.born) = false := beq_eq_false_iff_ne.2 fun e' => hn.1 (by rw [e']; exact List.mem_map_of_mem q)
            rw [hne]; exact ih hn.2 q
      exact key _ hm.born hz.2.2.2.1
    have h1 : p.1.key = ek k := by rw [hz.1, hpv]
    have h2 : p.1.val = evl v := by rw [hz.2.1, hpv]
    simp only [execOp, ha.ev hx, Instr.entry, Sem.run_bind, hgi, Result.andThen_ok, hback, run_getObj_map er]
    simp [hfind, h1, h2]) next
theorem entMY {it : Nat} {ds : List (K × V)} {k : K} {v : V} [i : HasI it K V ek evl r l (ds ++ [(k, v)]) L f] (hx : ev s x = some (.pointer (some ⟨it, 0, none⟩))) :
    Yl P g n s L ⟨some d, .entry x, ty, pos, af, none⟩ (.tuple [ek k, evl v].toArray) :=
  opY_rd rfl rfl (fun a w ha hw => by
    obtain ⟨R, s1, _⟩ := i.fwd _ hw.mem
    obtain ⟨h1, h2, dj, l1, l2, ⟨hne, es, clock, seen, hr, hit, hm, dn, rst, hp, hseen, hdone⟩, sR⟩ := s1
    have er : hpOf w r = some (.map es clock) := l1 _ _ hr
    have eit : w.heap[it]? = some (.mapIter (some r) clock seen clock) := l1 _ _ hit
    have hgi : (getObj it).run P w = .ok (.mapIter (some r) clock seen clock) w := by simp only [getObj, Sem.run, eit]
    have hdn : dn ≠ [] := fun e => by rw [e] at hdone; simp at hdone
    obtain ⟨dn', p, rfl⟩ : ∃ dn' p, dn = dn' ++ [p] := ⟨dn.dropLast, dn.getLast hdn, (List.dropLast_concat_getLast hdn).symm⟩
    rw [List.map_append, List.map_cons, List.map_nil] at hdone
    have hpv : p.2 = (k, v) := by
      have := (List.append_inj' hdone rfl).2
      simp at this; exact this.symm
    have hback : seen.back? = some p.1.born := by
      rw [Array.back?_eq_getElem?, ← Array.getElem?_toList, hseen]
      simp [← Array.length_toList, hseen]
    have hmem : p ∈ es.toList.zip l := hp.mem_iff.1 (by simp)
    have hz := hm.zipped hmem
    have hfind : es.find? (fun e => e.born == p.1.born) = some p.1 := by
      rw [← Array.find?_toList]
      have key : ∀ (l : List MapEntry), (l.map (·.born)).Nodup → p.1 ∈ l → l.find? (fun e => e.born == p.1.born) = some p.1 := by
        intro l
        induction l with
        | nil => intro _ h; cases h
        | cons e l ih =>
          intro hn h
          simp only [List.map_cons, List.nodup_cons] at hn
          rw [List.find?_cons]
          rcases List.mem_cons.1 h with q | q
          · subst q; simp
          · have hne : (e.born == p.1.born) = false := beq_eq_false_iff_ne.2 fun e' => hn.1 (by rw [e']; exact List.mem_map_of_mem q)
            rw [hne]; exact ih hn.2 q
      exact key _ hm.born hz.2.2.2.1
    have h1 : p.1.key = ek k := by rw [hz.1, hpv]
    have h2 : p.1.val = evl v := by rw [hz.2.1, hpv]
    simp only [execOp, ha.ev hx, Instr.entry, Sem.run_bind, hgi, Result.andThen_ok, hback, run_getObj_map er]
    simp [hfind, h1, h2])
end rules
end Go.Sl
