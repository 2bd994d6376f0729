/- Separation logic over the model's worlds, and rules that take a symbolic state (slots, memory) through a function's code. No program in sight. -/
import Derived.WalkKit
import Derived.Deep.QuietTactic
namespace Go.Sl
open Go.RowKit

/-! ### Partial heaps, assertions, lists of assertions -/
abbrev Hp := Nat → Option Obj
abbrev HP := Hp → Prop
def Hp.disj (h k : Hp) : Prop := ∀ b, h b = none ∨ k b = none
def Hp.join (h k : Hp) : Hp := fun b => match h b with | some o => some o | none => k b
def Hp.le (h k : Hp) : Prop := ∀ b o, h b = some o → k b = some o

theorem Hp.le_refl (h : Hp) : Hp.le h h := fun _ _ e => e
theorem Hp.le_trans {h k l : Hp} (a : Hp.le h k) (b : Hp.le k l) : Hp.le h l := fun x o e => b x o (a x o e)

/-- The assertions of the list hold of parts of the heap that have no block in common; what is left over does not matter. -/
def Sats : List HP → Hp → Prop
  | [], _ => True
  | A :: L, h => ∃ h1 h2, Hp.disj h1 h2 ∧ Hp.le h1 h ∧ Hp.le h2 h ∧ A h1 ∧ Sats L h2

theorem Sats.mono {L : List HP} {h k : Hp} (le : Hp.le h k) (s : Sats L h) : Sats L k := by
  cases L with
  | nil => trivial
  | cons A L =>
    obtain ⟨h1, h2, d, l1, l2, a, s⟩ := s
    exact ⟨h1, h2, d, Hp.le_trans l1 le, Hp.le_trans l2 le, a, s⟩

theorem Hp.disj_symm {h k : Hp} (d : Hp.disj h k) : Hp.disj k h := fun b => (d b).symm
theorem Hp.disj_le {h h' k k' : Hp} (d : Hp.disj h k) (a : Hp.le h' h) (b : Hp.le k' k) : Hp.disj h' k' := by
  intro x
  rcases d x with e | e
  · left; cases q : h' x with
    | none => rfl
    | some o => rw [a x o q] at e; cases e
  · right; cases q : k' x with
    | none => rfl
    | some o => rw [b x o q] at e; cases e

theorem Hp.le_join_left {h k : Hp} : Hp.le h (Hp.join h k) := fun b o e => by simp [Hp.join, e]
theorem Hp.le_join_right {h k : Hp} (d : Hp.disj h k) : Hp.le k (Hp.join h k) := fun b o e => by
  rcases d b with q | q
  · simp [Hp.join, q, e]
  · rw [q] at e; cases e
theorem Hp.join_le {h k l : Hp} (a : Hp.le h l) (b : Hp.le k l) : Hp.le (Hp.join h k) l := fun x o e => by
  unfold Hp.join at e
  split at e
  · rename_i o' q; cases e; exact a x _ q
  · exact b x o e
theorem Hp.disj_join_right {h k l : Hp} (a : Hp.disj h k) (b : Hp.disj h l) : Hp.disj h (Hp.join k l) := fun x => by
  rcases a x with q | q
  · exact .inl q
  · rcases b x with r | r
    · exact .inl r
    · right; simp [Hp.join, q, r]

theorem Sats.swap {A B : HP} {L : List HP} {h : Hp} (s : Sats (A :: B :: L) h) : Sats (B :: A :: L) h := by
  obtain ⟨h1, h2, d, l1, l2, a, k1, k2, e, m1, m2, b, s⟩ := s
  refine ⟨k1, Hp.join h1 k2, ?_, Hp.le_trans m1 l2, Hp.join_le l1 (Hp.le_trans m2 l2), b, h1, k2, ?_, Hp.le_join_left, Hp.le_join_right ?_, a, s⟩
  · exact Hp.disj_join_right (Hp.disj_le (Hp.disj_symm d) m1 (Hp.le_refl _)) e
  · exact Hp.disj_le d (Hp.le_refl _) m2
  · exact Hp.disj_le d (Hp.le_refl _) m2

theorem Sats.tail {A : HP} {L : List HP} {h : Hp} (s : Sats (A :: L) h) : Sats L h := by
  obtain ⟨h1, h2, d, l1, l2, a, s⟩ := s
  exact s.mono l2
theorem Sats.headMono {A A' : HP} {L : List HP} {h : Hp} (i : ∀ h, A h → A' h) (s : Sats (A :: L) h) : Sats (A' :: L) h := by
  obtain ⟨h1, h2, d, l1, l2, a, s⟩ := s
  exact ⟨h1, h2, d, l1, l2, i _ a, s⟩
theorem Sats.under {A : HP} {L L' : List HP} {h : Hp} (i : ∀ h, Sats L h → Sats L' h) (s : Sats (A :: L) h) : Sats (A :: L') h := by
  obtain ⟨h1, h2, d, l1, l2, a, s⟩ := s
  exact ⟨h1, h2, d, l1, l2, a, i _ s⟩
theorem Sats.app {L M : List HP} : ∀ {h : Hp}, Sats (L ++ M) h ↔ ∃ h1 h2, Hp.disj h1 h2 ∧ Hp.le h1 h ∧ Hp.le h2 h ∧ Sats L h1 ∧ Sats M h2 := by
  induction L with
  | nil =>
    intro h
    constructor
    · intro s; exact ⟨fun _ => none, h, fun _ => .inl rfl, fun _ _ e => (by cases e), Hp.le_refl _, trivial, s⟩
    · rintro ⟨h1, h2, d, l1, l2, _, s⟩; exact Sats.mono l2 s
  | cons A L ih =>
    intro h
    constructor
    · rintro ⟨h1, h2, d, l1, l2, a, s⟩
      obtain ⟨k1, k2, e, m1, m2, s1, s2⟩ := ih.1 s
      refine ⟨Hp.join h1 k1, k2, ?_, Hp.join_le l1 (Hp.le_trans m1 l2), Hp.le_trans m2 l2, ⟨h1, k1, Hp.disj_le d (Hp.le_refl _) m1, Hp.le_join_left, Hp.le_join_right (Hp.disj_le d (Hp.le_refl _) m1), a, s1⟩, s2⟩
      exact Hp.disj_symm (Hp.disj_join_right (Hp.disj_le (Hp.disj_symm d) m2 (Hp.le_refl _)) (Hp.disj_symm e))
    · rintro ⟨h1, h2, d, l1, l2, ⟨k1, k2, e, m1, m2, a, s1⟩, s2⟩
      refine ⟨k1, Hp.join k2 h2, ?_, Hp.le_trans m1 l1, Hp.join_le (Hp.le_trans m2 l1) l2, a, ih.2 ⟨k2, h2, Hp.disj_le d m2 (Hp.le_refl _), Hp.le_join_left, Hp.le_join_right (Hp.disj_le d m2 (Hp.le_refl _)), s1, s2⟩⟩
      exact Hp.disj_join_right e (Hp.disj_le d m1 (Hp.le_refl _))
/-- An assertion that is a list of assertions. -/
theorem Sats.flat {L M : List HP} {h : Hp} (s : Sats (Sats L :: M) h) : Sats (L ++ M) h := by
  obtain ⟨h1, h2, d, l1, l2, a, s⟩ := s
  exact Sats.app.2 ⟨h1, h2, d, l1, l2, a, s⟩
theorem Sats.pack {L M : List HP} {h : Hp} (s : Sats (L ++ M) h) : Sats (Sats L :: M) h := by
  obtain ⟨h1, h2, d, l1, l2, a, s⟩ := Sats.app.1 s
  exact ⟨h1, h2, d, l1, l2, a, s⟩

/-! ### Taking one assertion, or several, out of a list: found by the instances -/
class Take (A : HP) (L : List HP) (R : outParam (List HP)) : Prop where
  fwd : ∀ h, Sats L h → Sats (A :: R) h
  bwd : ∀ h, Sats (A :: R) h → Sats L h
instance (priority := high) Take.here (A : HP) (L : List HP) : Take A (A :: L) L := ⟨fun _ s => s, fun _ s => s⟩
instance (priority := low) Take.there (A B : HP) (L R : List HP) [t : Take A L R] : Take A (B :: L) (B :: R) :=
  ⟨fun _ s => Sats.swap (Sats.under t.fwd s), fun _ s => Sats.under t.bwd (Sats.swap s)⟩
class Pick (L H : List HP) (R : outParam (List HP)) : Prop where
  pick : ∀ h, Sats H h → Sats (L ++ R) h
  back : ∀ h, Sats (L ++ R) h → Sats H h
instance Pick.nil (H : List HP) : Pick [] H H := ⟨fun _ s => s, fun _ s => s⟩
instance Pick.cons (A : HP) (L H H' R : List HP) [t : Take A H H'] [p : Pick L H' R] : Pick (A :: L) H R :=
  ⟨fun h s => Sats.under p.pick (t.fwd h s), fun h s => t.bwd h (Sats.under p.back s)⟩
instance Pick.app (A : HP) (L M H R : List HP) [p : Pick (A :: (L ++ M)) H R] : Pick ((A :: L) ++ M) H R := p
instance Pick.app0 (M H R : List HP) [p : Pick M H R] : Pick ([] ++ M) H R := p

/-! ### One block -/
/-- Block b is o. -/
def pt (b : Nat) (o : Obj) : HP := fun h => h b = some o
def Hp.put (h : Hp) (b : Nat) (o : Obj) : Hp := fun x => if x = b then some o else h x

theorem Sats.read {b : Nat} {o : Obj} {L : List HP} {h : Hp} (s : Sats (pt b o :: L) h) : h b = some o := by
  obtain ⟨h1, h2, d, l1, l2, a, s⟩ := s
  exact l1 _ _ a
theorem Sats.write {b : Nat} {o o' : Obj} {L : List HP} {h : Hp} (s : Sats (pt b o :: L) h) : Sats (pt b o' :: L) (h.put b o') := by
  obtain ⟨h1, h2, d, l1, l2, a, s⟩ := s
  refine ⟨fun x => if x = b then some o' else none, h2, ?_, ?_, ?_, by simp [pt], s⟩
  · intro x
    by_cases e : x = b
    · subst e; right
      rcases d x with q | q
      · rw [show h1 x = some o from a] at q; cases q
      · exact q
    · left; simp [e]
  · intro x q e
    by_cases hx : x = b
    · simp [hx] at e; subst e; simp [Hp.put, hx]
    · simp [hx] at e
  · intro x q e
    by_cases hx : x = b
    · subst hx
      rcases d x with r | r
      · rw [show h1 x = some o from a] at r; cases r
      · rw [r] at e; cases e
    · simp [Hp.put, hx]; exact l2 _ _ e
theorem Sats.fresh {b : Nat} {o : Obj} {L : List HP} {h : Hp} (s : Sats L h) (f : h b = none) : Sats (pt b o :: L) (h.put b o) := by
  refine ⟨fun x => if x = b then some o else none, h, ?_, ?_, ?_, by simp [pt], s⟩
  · intro x
    by_cases e : x = b
    · subst e; exact .inr f
    · left; simp [e]
  · intro x q e
    by_cases hx : x = b
    · simp [hx] at e; subst e; simp [Hp.put, hx]
    · simp [hx] at e
  · intro x q e
    by_cases hx : x = b
    · subst hx; rw [f] at e; cases e
    · simp [Hp.put, hx]; exact e
theorem Sats.apart {b c : Nat} {o q : Obj} {L : List HP} {h : Hp} (s : Sats (pt b o :: pt c q :: L) h) : b ≠ c := by
  obtain ⟨h1, h2, d, l1, l2, a, k1, k2, e, m1, m2, a2, s⟩ := s
  rintro rfl
  rcases d b with r | r
  · rw [show h1 b = some o from a] at r; cases r
  · rw [m1 _ _ a2] at r; cases r

/-- A block of cells: a variable, a struct's fields, an array. -/
def blk (b T : Nat) (cs : List Value) : HP := pt b (.cells cs.toArray T (0, 0))

/-! ### Worlds -/
def hpOf (w : World) : Hp := fun b => w.heap[b]?
/-- The same output; no fewer draws. -/
structure Out (g w : World) : Prop where
  out : w.output = g.output
  drawn : g.drawn ≤ w.drawn
theorem Out.same (w : World) : Out w w := ⟨rfl, Nat.le_refl _⟩
theorem Out.trans {a b c : World} (h : Out b c) (k : Out a b) : Out a c := ⟨h.out.trans k.out, Nat.le_trans k.drawn h.drawn⟩
/-- The world holds what the list says, and has, beside memory, what the world g has. -/
structure Sat (g w : World) (L : List HP) : Prop where
  os : w.os = g.os
  tape : w.tape = g.tape
  output : Out g w
  size : g.heap.size ≤ w.heap.size
  mem : Sats L (hpOf w)

theorem Sat.imp {g w : World} {L L' : List HP} (s : Sat g w L) (i : ∀ h, Sats L h → Sats L' h) : Sat g w L' := ⟨s.os, s.tape, s.output, s.size, i _ s.mem⟩
theorem Sat.drew {g w : World} {L : List HP} (s : Sat g w L) : Sat g w.drew L := ⟨s.os, s.tape, ⟨s.output.out, Nat.le_succ_of_le s.output.drawn⟩, s.size, s.mem⟩

/-- All that was there when the call began, unchanged. -/
def base (g : World) : HP := fun h => ∀ b, b < g.heap.size → h b = g.heap[b]?
theorem Sat.below {g w : World} {L : List HP} (s : Sat g w (base g :: L)) : Below g.heap.size g w := by
  obtain ⟨h1, h2, d, l1, l2, a, _⟩ := s.mem
  refine ⟨s.os, s.tape, s.output.out, s.size, fun k hk => ?_⟩
  have e := a k hk
  rw [Array.getElem?_eq_getElem hk] at e ⊢
  exact l1 _ _ e
theorem Sat.begin (w : World) : Sat w w [base w] :=
  ⟨rfl, rfl, Out.same _, Nat.le_refl _, hpOf w, fun _ => none, fun _ => .inr rfl, Hp.le_refl _, fun _ _ e => (by cases e), fun _ _ => rfl, trivial⟩

/-! ### Slots -/
abbrev Env := List (Nat × Value)
def look : Env → Nat → Option Value
  | [], _ => none
  | (k, v) :: s, t => bif Nat.beq k t then some v else look s t
structure EnvOk (n : Nat) (s : Env) (a : Act) : Prop where
  size : a.tmps.size = n
  defers : a.defers = []
  has : ∀ t v, look s t = some v → a.tmps.getD t undef = v
def ev (s : Env) : Operand → Option Value
  | .tmp t => look s t
  | .const v => some v
  | .func f => some (.func (.func f) #[] #[])
  | .global g => some (.pointer (some ⟨g, 0, none⟩))
theorem EnvOk.ev {n : Nat} {s : Env} {a : Act} (e : EnvOk n s a) {x : Operand} {v : Value} (h : Sl.ev s x = some v) : a.eval x = v := by
  cases x <;> simp only [Sl.ev] at h
  · exact e.has _ _ h
  all_goals (injection h)
theorem EnvOk.put {n : Nat} {s : Env} {a : Act} (e : EnvOk n s a) {d : Nat} (hd : Nat.blt d n = true) (v : Value) : EnvOk n ((d, v) :: s) (a.put (some d) v) := by
  have hd' : d < n := by simpa [Nat.blt_eq] using hd
  refine ⟨by simp [Act.put, e.size], e.defers, fun t u h => ?_⟩
  simp only [look] at h
  by_cases q : d = t
  · subst q
    simp at h
    subst h
    simp [Act.put, e.size, hd']
  · have : Nat.beq d t = false := by cases hb : Nat.beq d t with | false => rfl | true => exact absurd (Nat.eq_of_beq_eq_true hb) q
    simp [this] at h
    rw [← e.has t u h]
    simp [Act.put, q]
theorem EnvOk.get {n : Nat} {s : Env} {a : Act} (e : EnvOk n s a) {t : Nat} {v : Value} (h : look s t = some v) : a.tmps[t]?.getD undef = v := by
  rw [← Array.getD_eq_getD_getElem?]; exact e.has t v h
def EnvSub (s : Env) : Env → Prop
  | [] => True
  | (t, v) :: r => look s t = some v ∧ EnvSub s r
theorem EnvSub.look {s : Env} : ∀ {r : Env}, EnvSub s r → ∀ t v, look r t = some v → look s t = some v
  | [], _, _, _, h => by cases h
  | (k, u) :: r, ⟨h1, h2⟩, t, v, h => by
    simp only [Sl.look] at h
    by_cases q : Nat.beq k t = true
    · rw [q] at h; simp at h; subst h
      obtain rfl : k = t := Nat.eq_of_beq_eq_true q
      exact h1
    · have : Nat.beq k t = false := by cases hb : Nat.beq k t with | false => rfl | true => exact absurd hb q
      rw [this] at h; exact EnvSub.look h2 t v h
theorem EnvOk.sub {n : Nat} {s r : Env} {a : Act} (e : EnvOk n s a) (h : EnvSub s r) : EnvOk n r a := ⟨e.size, e.defers, fun t v q => e.has t v (h.look t v q)⟩

/-! ### States on the way: whatever act and world fit the slots and the memory, K holds of them -/
def At (g : World) (n : Nat) (s : Env) (L : List HP) (K : Act → World → Prop) : Prop := ∀ a w, EnvOk n s a → Sat g w L → K a w

section rules
variable {P : Program} {g : World} {n : Nat} {s : Env} {L : List HP} {Q : Exit → Act → World → Prop} {ops : Array Oper} {rest : List Oper}

/-- One operation: it answers a value, and the memory behind it is known. -/
theorem op_any {α : Type} {o : Oper} {d : Nat} (v : α → Value) (L' : α → List HP) (hg : o.guard = none) (hd : o.dst = some d) (hn : Nat.blt d n = true)
    (run : ∀ a w, EnvOk n s a → Sat g w L → ∃ x w', (execOp a.eval o).run P w = .ok (.value (v x)) w' ∧ Sat g w' (L' x))
    (next : ∀ x, At g n ((d, v x) :: s) (L' x) (wpList P ops Q rest)) : At g n s L (wpList P ops Q (o :: rest)) := by
  intro a w ha hw
  obtain ⟨x, w', hr, hs⟩ := run a w ha hw
  refine wpList_plain hg fun K hK => ?_
  unfold Oper.wp
  rw [hr]
  refine hK _ _ ?_
  rw [hd]
  exact next x _ _ (ha.put hn _) hs
/-- Likewise, where nothing is written to a slot. -/
theorem op_none {α : Type} {o : Oper} (r : Next) (hrn : (∃ v, r = .value v) ∨ r = .skip) (L' : α → List HP) (hg : o.guard = none) (hd : o.dst = none)
    (run : ∀ a w, EnvOk n s a → Sat g w L → ∃ x w', (execOp a.eval o).run P w = .ok r w' ∧ Sat g w' (L' x))
    (next : ∀ x, At g n s (L' x) (wpList P ops Q rest)) : At g n s L (wpList P ops Q (o :: rest)) := by
  intro a w ha hw
  obtain ⟨x, w', hr, hs⟩ := run a w ha hw
  refine wpList_plain hg fun K hK => ?_
  unfold Oper.wp
  rw [hr]
  rcases hrn with ⟨v, rfl⟩ | rfl
  all_goals
    refine hK _ _ ?_
    rw [hd]
    exact next x _ _ ha hs
theorem op_rd {o : Oper} {d : Nat} {v : Value} (hg : o.guard = none) (hd : o.dst = some d) (hn : Nat.blt d n = true)
    (run : ∀ a w, EnvOk n s a → Sat g w L → (execOp a.eval o).run P w = .ok (.value v) w)
    (next : At g n ((d, v) :: s) L (wpList P ops Q rest)) : At g n s L (wpList P ops Q (o :: rest)) :=
  op_any (α := Unit) (fun _ => v) (fun _ => L) hg hd hn (fun a w ha hw => ⟨(), w, run a w ha hw, hw⟩) fun _ => next
theorem op_pure {o : Oper} {d : Nat} {v : Value} (hg : o.guard = none) (hd : o.dst = some d) (hn : Nat.blt d n = true)
    (run : ∀ a w, EnvOk n s a → (execOp a.eval o).run P w = .ok (.value v) w)
    (next : At g n ((d, v) :: s) L (wpList P ops Q rest)) : At g n s L (wpList P ops Q (o :: rest)) :=
  op_any (α := Unit) (fun _ => v) (fun _ => L) hg hd hn (fun a w ha hw => ⟨(), w, run a w ha, hw⟩) fun _ => next

/-- Likewise in a region that draws its order and only reads. -/
def AtQ (P : Program) (g : World) (n : Nat) (s : Env) (L : List HP) (ops : Array Oper) (Q : Exit → Act → World → Prop) (rest : List Oper) : Prop :=
  ∀ a, EnvOk n s a → wpQuiet P ops (fun w => Sat g w L) (fun a' => ∀ w', Sat g w' L → Q .normal a' w') rest a
theorem opQ_rd {o : Oper} {d : Nat} {v : Value} (hg : o.guard = none) (hd : o.dst = some d) (hn : Nat.blt d n = true)
    (run : ∀ a w, EnvOk n s a → Sat g w L → (execOp a.eval o).run P w = .ok (.value v) w)
    (next : AtQ P g n ((d, v) :: s) L ops Q rest) : AtQ P g n s L ops Q (o :: rest) := by
  intro a ha
  unfold wpQuiet
  rw [if_pos (by simp [Region.wanted, hg])]
  refine ⟨v, fun w hw => ?_, ?_⟩
  · unfold Oper.quietAt; rw [run a w ha hw]; exact ⟨rfl, rfl⟩
  · rw [hd]; exact next _ (ha.put hn _)
theorem opQ_pure {o : Oper} {d : Nat} {v : Value} (hg : o.guard = none) (hd : o.dst = some d) (hn : Nat.blt d n = true)
    (run : ∀ a w, EnvOk n s a → (execOp a.eval o).run P w = .ok (.value v) w)
    (next : AtQ P g n ((d, v) :: s) L ops Q rest) : AtQ P g n s L ops Q (o :: rest) := opQ_rd hg hd hn (fun a w ha _ => run a w ha) next
/-- In every state that fits the operation answers v, and nothing changes. -/
def Yl (P : Program) (g : World) (n : Nat) (s : Env) (L : List HP) (o : Oper) (v : Value) : Prop := ∀ a w, EnvOk n s a → Sat g w L → (execOp a.eval o).run P w = .ok (.value v) w
theorem opY_rd {o : Oper} {d : Nat} {v : Value} (_hg : o.guard = none) (_hd : o.dst = some d) (run : ∀ a w, EnvOk n s a → Sat g w L → (execOp a.eval o).run P w = .ok (.value v) w) : Yl P g n s L o v := run
theorem opY_pure {o : Oper} {d : Nat} {v : Value} (_hg : o.guard = none) (_hd : o.dst = some d) (run : ∀ a w, EnvOk n s a → (execOp a.eval o).run P w = .ok (.value v) w) : Yl P g n s L o v := fun a w ha _ => run a w ha
variable {d : Nat} {x y z : Operand} {ty T U : TypeId} {pos : String} {af : Array Edge} {v v' u : Value}

theorem mv (hn : Nat.blt d n = true) (hx : ev s x = some v) (next : At g n ((d, v) :: s) L (wpList P ops Q rest)) :
    At g n s L (wpList P ops Q (⟨some d, .move x, ty, pos, af, none⟩ :: rest)) :=
  op_pure rfl rfl hn (fun a w ha => by simp [execOp, ha.ev hx]) next
theorem mvQ (hn : Nat.blt d n = true) (hx : ev s x = some v)
    (next : AtQ P g n ((d, v) :: s) L ops Q rest) : AtQ P g n s L ops Q (⟨some d, .move x, ty, pos, af, none⟩ :: rest) :=
  opQ_pure rfl rfl hn (fun a w ha => by simp [execOp, ha.ev hx]) next
theorem mvY (hx : ev s x = some v) :
    Yl P g n s L ⟨some d, .move x, ty, pos, af, none⟩ (v) :=
  opY_pure rfl rfl (fun a w ha => by simp [execOp, ha.ev hx])
theorem asg (hn : Nat.blt d n = true) (hx : ev s x = some v) (next : At g n ((d, v) :: s) L (wpList P ops Q rest)) :
    At g n s L (wpList P ops Q (⟨some d, .assign x, ty, pos, af, none⟩ :: rest)) :=
  op_pure rfl rfl hn (fun a w ha => by simp [execOp, ha.ev hx]) next
theorem asgQ (hn : Nat.blt d n = true) (hx : ev s x = some v)
    (next : AtQ P g n ((d, v) :: s) L ops Q rest) : AtQ P g n s L ops Q (⟨some d, .assign x, ty, pos, af, none⟩ :: rest) :=
  opQ_pure rfl rfl hn (fun a w ha => by simp [execOp, ha.ev hx]) next
theorem asgY (hx : ev s x = some v) :
    Yl P g n s L ⟨some d, .assign x, ty, pos, af, none⟩ (v) :=
  opY_pure rfl rfl (fun a w ha => by simp [execOp, ha.ev hx])
theorem nc {a : Addr} (hn : Nat.blt d n = true) (hx : ev s x = some (.pointer (some a))) (next : At g n ((d, .pointer (some a)) :: s) L (wpList P ops Q rest)) :
    At g n s L (wpList P ops Q (⟨some d, .nilCheck x, ty, pos, af, none⟩ :: rest)) :=
  op_pure rfl rfl hn (fun a w ha => by simp [execOp, ha.ev hx]) next
theorem ncQ {a : Addr} (hn : Nat.blt d n = true) (hx : ev s x = some (.pointer (some a)))
    (next : AtQ P g n ((d, .pointer (some a)) :: s) L ops Q rest) : AtQ P g n s L ops Q (⟨some d, .nilCheck x, ty, pos, af, none⟩ :: rest) :=
  opQ_pure rfl rfl hn (fun a w ha => by simp [execOp, ha.ev hx]) next
theorem ncY {a : Addr} (hx : ev s x = some (.pointer (some a))) :
    Yl P g n s L ⟨some d, .nilCheck x, ty, pos, af, none⟩ (.pointer (some a)) :=
  opY_pure rfl rfl (fun a w ha => by simp [execOp, ha.ev hx])
theorem xt {vs : List Value} {i : Nat} (hn : Nat.blt d n = true) (hx : ev s x = some (.tuple vs.toArray)) (hi : vs[i]? = some v) (next : At g n ((d, v) :: s) L (wpList P ops Q rest)) :
    At g n s L (wpList P ops Q (⟨some d, .extract x i, ty, pos, af, none⟩ :: rest)) :=
  op_pure rfl rfl hn (fun a w ha => by simp [execOp, ha.ev hx, Instr.extract, hi]) next
theorem xtQ {vs : List Value} {i : Nat} (hn : Nat.blt d n = true) (hx : ev s x = some (.tuple vs.toArray)) (hi : vs[i]? = some v)
    (next : AtQ P g n ((d, v) :: s) L ops Q rest) : AtQ P g n s L ops Q (⟨some d, .extract x i, ty, pos, af, none⟩ :: rest) :=
  opQ_pure rfl rfl hn (fun a w ha => by simp [execOp, ha.ev hx, Instr.extract, hi]) next
theorem xtY {vs : List Value} {i : Nat} (hx : ev s x = some (.tuple vs.toArray)) (hi : vs[i]? = some v) :
    Yl P g n s L ⟨some d, .extract x i, ty, pos, af, none⟩ (v) :=
  opY_pure rfl rfl (fun a w ha => by simp [execOp, ha.ev hx, Instr.extract, hi])
end rules

/-! ### Lists of cells -/
def nth : List Value → Nat → Option Value
  | [], _ => none
  | v :: _, 0 => some v
  | _ :: l, i + 1 => nth l i
def takeE : List Value → Nat → Option (List Value)
  | _, 0 => some []
  | [], _ + 1 => none
  | v :: l, k + 1 => match takeE l k with
    | some r => some (v :: r)
    | none => none
def sub : List Value → Nat → Nat → Option (List Value)
  | l, 0, k => takeE l k
  | [], _ + 1, _ => none
  | _ :: l, i + 1, k => sub l i k
def setN : List Value → Nat → Value → Option (List Value)
  | [], _, _ => none
  | _ :: l, 0, v => some (v :: l)
  | u :: l, i + 1, v => match setN l i v with
    | some r => some (u :: r)
    | none => none
def setR : List Value → Nat → List Value → Option (List Value)
  | l, _, [] => some l
  | l, i, v :: vs => match setN l i v with
    | some r => setR r (i + 1) vs
    | none => none
theorem nth_eq : ∀ (l : List Value) (i : Nat), nth l i = l[i]?
  | [], _ => by simp [nth]
  | _ :: _, 0 => by simp [nth]
  | _ :: l, i + 1 => by simp [nth, nth_eq l i]
theorem takeE_eq : ∀ {l r : List Value} {k : Nat}, takeE l k = some r → r.length = k ∧ ∀ i, i < k → l[i]? = r[i]?
  | l, r, 0, h => by
    cases l <;> simp [takeE] at h <;> subst h <;> exact ⟨rfl, fun i hi => absurd hi (Nat.not_lt_zero i)⟩
  | [], r, k + 1, h => by simp [takeE] at h
  | v :: l, r, k + 1, h => by
    simp only [takeE] at h
    split at h
    · rename_i q e
      cases h
      obtain ⟨h1, h2⟩ := takeE_eq e
      refine ⟨by simp [h1], fun i hi => ?_⟩
      cases i with
      | zero => rfl
      | succ i => simpa using h2 i (by omega)
    · cases h
theorem sub_eq : ∀ {l r : List Value} {o k : Nat}, sub l o k = some r → r.length = k ∧ ∀ i, i < k → l[o + i]? = r[i]?
  | l, r, 0, k, h => by
    have h' : takeE l k = some r := by cases l <;> simpa [sub] using h
    simpa using takeE_eq h'
  | [], r, o + 1, k, h => by simp [sub] at h
  | v :: l, r, o + 1, k, h => by
    simp only [sub] at h
    obtain ⟨h1, h2⟩ := sub_eq h
    refine ⟨h1, fun i hi => ?_⟩
    rw [← h2 i hi, show o + 1 + i = (o + i) + 1 from by omega]; rfl
theorem takeE_all : ∀ {l : List Value} {k : Nat}, l.length = k → takeE l k = some l
  | [], 0, _ => rfl
  | [], k + 1, h => by simp at h
  | v :: l, 0, h => by simp at h
  | v :: l, k + 1, h => by simp only [takeE]; rw [takeE_all (l := l) (k := k) (by simpa using h)]
theorem sub_all {l : List Value} {k : Nat} (h : l.length = k) : sub l 0 k = some l := by
  have := takeE_all h
  cases l <;> simpa [sub] using this
theorem setN_eq : ∀ {l r : List Value} {i : Nat} {v : Value}, setN l i v = some r → i < l.length ∧ r = l.set i v
  | [], r, i, v, h => by simp [setN] at h
  | u :: l, r, 0, v, h => by simp [setN] at h; subst h; simp
  | u :: l, r, i + 1, v, h => by
    simp only [setN] at h
    split at h
    · rename_i q e
      cases h
      obtain ⟨h1, rfl⟩ := setN_eq e
      exact ⟨by simp; omega, rfl⟩
    · cases h

/-! ### Reading and writing one block's cells -/
theorem cell_of {w : World} {b T : Nat} {cs : Array Value} {fz : Nat × Nat} (h : hpOf w b = some (.cells cs T fz)) (i : Nat) : w.cell? ⟨b, i, none⟩ = cs[i]? := by
  have h' : w.heap[b]? = some (.cells cs T fz) := h
  simp [World.cell?, h']
/-- Marks that bar no cell of a block of n cells. -/
def NoFz (n : Nat) (fz : Nat × Nat) : Prop := ∀ i, i < n → (decide (fz.1 ≤ i) && decide (i < fz.2)) = false
theorem NoFz.zero (n : Nat) : NoFz n (0, 0) := fun i _ => by simp
theorem NoFz.past (n m : Nat) : NoFz n (n, m) := fun i h => by simp; omega
theorem frozenG {w : World} {b T i : Nat} {cs : Array Value} {fz : Nat × Nat} (h : hpOf w b = some (.cells cs T fz)) (hf : NoFz cs.size fz) (hi : i < cs.size) : w.frozen? ⟨b, i, none⟩ = false := by
  have h' : w.heap[b]? = some (.cells cs T fz) := h
  have := hf i hi
  simp only [World.frozen?, h']
  simpa using this
theorem frozen_of {w : World} {b T : Nat} {cs : Array Value} (h : hpOf w b = some (.cells cs T (0, 0))) (i : Nat) : w.frozen? ⟨b, i, none⟩ = false := by
  have h' : w.heap[b]? = some (.cells cs T (0, 0)) := h
  simp [World.frozen?, h']
theorem add_off (b o i : Nat) : (⟨b, o, none⟩ : Addr).add i = ⟨b, o + i, none⟩ := by
  unfold Addr.add
  split
  · rename_i e; subst e; rfl
  · rfl
theorem run_loadCellsFrom {P : Program} {w : World} {a : Addr} : ∀ (k i : Nat) (vs : List Value) (acc : Array Value), vs.length = k → (∀ j, j < k → w.cell? (a.add (i + j)) = vs[j]?) →
    (loadCellsFrom a i k acc).run P w = .ok (acc ++ vs.toArray) w
  | 0, i, vs, acc, hl, _ => by
    obtain rfl : vs = [] := List.eq_nil_of_length_eq_zero hl
    simp [loadCellsFrom]
  | k + 1, i, [], acc, hl, _ => by simp at hl
  | k + 1, i, v :: vs, acc, hl, h => by
    have h0 := h 0 (by omega)
    simp only [Nat.add_zero, List.getElem?_cons_zero] at h0
    simp only [loadCellsFrom, Sem.run_bind, run_load, h0, Result.andThen_ok]
    rw [run_loadCellsFrom k (i + 1) vs (acc.push v) (by simpa using hl) (fun j hj => by
      have := h (j + 1) (by omega)
      rw [show i + 1 + j = i + (j + 1) from by omega, this]; rfl)]
    simp
theorem run_loadCells {P : Program} {w : World} {b o T : Nat} {cs : List Value} {fz : Nat × Nat} {vs : List Value} {k : Nat} (h : hpOf w b = some (.cells cs.toArray T fz)) (hv : sub cs o k = some vs) :
    (loadCells ⟨b, o, none⟩ k).run P w = .ok vs.toArray w := by
  obtain ⟨h1, h2⟩ := sub_eq hv
  rw [loadCells, run_loadCellsFrom k 0 vs #[] h1 (fun j hj => by rw [add_off, cell_of h, ← h2 j hj]; simp)]
  simp

/-- The world w' is w with block b turned into o. -/
structure Turned (w w' : World) (b : Nat) (o : Obj) : Prop where
  os : w'.os = w.os
  tape : w'.tape = w.tape
  output : Out w w'
  size : w'.heap.size = w.heap.size
  mem : hpOf w' = (hpOf w).put b o
theorem Hp.put_put (h : Hp) (b : Nat) (o p : Obj) : (h.put b o).put b p = h.put b p := by funext x; by_cases e : x = b <;> simp [Hp.put, e]
theorem Hp.put_self {h : Hp} {b : Nat} {o : Obj} (e : h b = some o) : h.put b o = h := by
  funext x; by_cases q : x = b
  · subst q; simp [Hp.put, e]
  · simp [Hp.put, q]
theorem Hp.put_at (h : Hp) (b : Nat) (o : Obj) : (h.put b o) b = some o := by simp [Hp.put]
theorem turned_setCell {w : World} {b i T : Nat} {cs : Array Value} {fz : Nat × Nat} {v : Value} (h : hpOf w b = some (.cells cs T fz)) :
    Turned w (w.setCell ⟨b, i, none⟩ v) b (.cells (cs.setIfInBounds i v) T fz) := by
  have h' : w.heap[b]? = some (.cells cs T fz) := h
  refine ⟨rfl, rfl, ⟨rfl, Nat.le_refl _⟩, by simp, ?_⟩
  funext x
  simp only [hpOf, World.setCell, Array.getElem?_modify, Hp.put]
  by_cases e : b = x
  · subst e; simp [h']
  · rw [if_neg e, if_neg (fun q : x = b => e q.symm)]
theorem run_storeCellsG {P : Program} {b T o : Nat} {fz : Nat × Nat} : ∀ (vs : List Value) (i : Nat) (w : World) (cs r : List Value), hpOf w b = some (.cells cs.toArray T fz) → NoFz cs.length fz → setR cs (o + i) vs = some r → (∀ v ∈ vs, v.oneCell' = true) →
    ∃ w', (storeCells ⟨b, o, none⟩ vs i).run P w = .ok () w' ∧ Turned w w' b (.cells r.toArray T fz)
  | [], i, w, cs, r, h, hf, hr, _ => by
    simp [setR] at hr
    subst hr
    exact ⟨w, by simp [storeCells], rfl, rfl, Out.same _, rfl, (Hp.put_self h).symm⟩
  | v :: vs, i, w, cs, r, h, hf, hr, ho => by
    simp only [setR] at hr
    split at hr
    · rename_i q e
      obtain ⟨hlt, rfl⟩ := setN_eq e
      have hc : w.cell? ⟨b, o + i, none⟩ = some cs[o + i] := by rw [cell_of h]; simp [hlt]
      have tw := turned_setCell (i := o + i) (v := v) h
      have h1 : hpOf (w.setCell ⟨b, o + i, none⟩ v) b = some (.cells (cs.set (o + i) v).toArray T fz) := by
        rw [tw.mem, Hp.put_at]; simp
      obtain ⟨w', hrun, t'⟩ := run_storeCellsG vs (i + 1) (w.setCell ⟨b, o + i, none⟩ v) (cs.set (o + i) v) r h1 (by simpa using hf) hr (fun u hu => ho u (List.mem_cons_of_mem _ hu))
      refine ⟨w', ?_, t'.os.trans tw.os, t'.tape.trans tw.tape, t'.output.trans tw.output, t'.size.trans tw.size, ?_⟩
      · rw [storeCells, Sem.run_bind, add_off, run_store P w _ _ _ (ho v List.mem_cons_self), hc, frozenG h (by simpa using hf) (by simpa using hlt)]
        simpa using hrun
      · rw [t'.mem, tw.mem, Hp.put_put]
    · cases hr
theorem run_storeCells {P : Program} {b T o : Nat} (vs : List Value) (i : Nat) (w : World) (cs r : List Value) (h : hpOf w b = some (.cells cs.toArray T (0, 0))) (hr : setR cs (o + i) vs = some r) (ho : ∀ v ∈ vs, v.oneCell' = true) :
    ∃ w', (storeCells ⟨b, o, none⟩ vs i).run P w = .ok () w' ∧ Turned w w' b (.cells r.toArray T (0, 0)) := run_storeCellsG vs i w cs r h (NoFz.zero _) hr ho
theorem Turned.sat {g w w' : World} {b : Nat} {o o' : Obj} {L : List HP} (t : Turned w w' b o') (s : Sat g w (pt b o :: L)) : Sat g w' (pt b o' :: L) :=
  ⟨t.os.trans s.os, t.tape.trans s.tape, t.output.trans s.output, by rw [t.size]; exact s.size, by rw [t.mem]; exact s.mem.write⟩
theorem Sat.alloc {g w : World} {L : List HP} (s : Sat g w L) (o : Obj) : Sat g (w.alloc o) (pt w.heap.size o :: L) := by
  refine ⟨s.os, s.tape, ⟨s.output.out, s.output.drawn⟩, by simp; exact Nat.le_succ_of_le s.size, ?_⟩
  have e : hpOf (w.alloc o) = (hpOf w).put w.heap.size o := by
    funext x
    simp only [hpOf, World.alloc, Array.getElem?_push, Hp.put]
  rw [e]
  exact s.mem.fresh (by simp [hpOf])

/-- A block of cells somewhere in the list. -/
class HasB (b : Nat) (T : outParam Nat) (cs : outParam (List Value)) (L : List HP) (f : outParam (List Value → List HP)) : Prop where
  fwd : ∀ h, Sats L h → ∃ R, Sats (blk b T cs :: R) h ∧ ∀ cs' k, Sats (blk b T cs' :: R) k → Sats (f cs') k
instance (priority := high) HasB.here (b T : Nat) (cs : List Value) (L : List HP) : HasB b T cs (blk b T cs :: L) (fun cs' => blk b T cs' :: L) :=
  ⟨fun _ s => ⟨L, s, fun _ _ s => s⟩⟩
instance (priority := low) HasB.there (b T : Nat) (cs : List Value) (A : HP) (L : List HP) (f : List Value → List HP) [i : HasB b T cs L f] : HasB b T cs (A :: L) (fun cs' => A :: f cs') :=
  ⟨fun h s => by
    obtain ⟨h1, h2, d, l1, l2, a, s⟩ := s
    obtain ⟨R, s1, s2⟩ := i.fwd _ s
    exact ⟨A :: R, Sats.swap ⟨h1, h2, d, l1, l2, a, s1⟩, fun cs' k q => Sats.under (s2 cs') (Sats.swap q)⟩⟩
theorem HasB.read {b T : Nat} {cs : List Value} {L : List HP} {f : List Value → List HP} (i : HasB b T cs L f) {g w : World} (s : Sat g w L) : hpOf w b = some (.cells cs.toArray T (0, 0)) := by
  obtain ⟨R, s1, _⟩ := i.fwd _ s.mem
  exact s1.read
theorem HasB.write {b T : Nat} {cs cs' : List Value} {L : List HP} {f : List Value → List HP} (i : HasB b T cs L f) {g w w' : World} (s : Sat g w L) (t : Turned w w' b (.cells cs'.toArray T (0, 0))) : Sat g w' (f cs') := by
  obtain ⟨R, s1, s2⟩ := i.fwd _ s.mem
  have := t.sat (L := R) (o := .cells cs.toArray T (0, 0)) ⟨s.os, s.tape, s.output, s.size, s1⟩
  exact ⟨this.os, this.tape, this.output, this.size, s2 _ _ this.mem⟩

/-! ### Facts of a program's types, found by the instances -/
class Sc (P : Program) (T : TypeId) : Prop where
  agg : ∀ w, (isAgg T).run P w = .ok false w
  size : ∀ w, (sizeOf T).run P w = .ok 1 w
class Ag (P : Program) (T : TypeId) (k : outParam Nat) : Prop where
  agg : ∀ w, (isAgg T).run P w = .ok true w
  size : ∀ w, (sizeOf T).run P w = .ok k w
class Zv (P : Program) (T : TypeId) (v : outParam Value) : Prop where
  run : ∀ w, (zeroValue T).run P w = .ok v w
class Ul (P : Program) (T : TypeId) (d : outParam TypeDesc) : Prop where
  run : ∀ w, (underlying T).run P w = .ok d w
class Sz (P : Program) (T : TypeId) (k : outParam Nat) : Prop where
  run : ∀ w, (sizeOf T).run P w = .ok k w
class Fa (P : Program) (T : TypeId) (f : Nat) (k : outParam Nat) : Prop where
  run : ∀ b o w, (Instr.fieldAt T (.pointer (some ⟨b, o, none⟩)) f).run P w = .ok (.pointer (some ⟨b, o + k, none⟩)) w
/-- A field of a struct, from the facts that the loaded program bears. -/
theorem Fa.mk' {P : Program} {T f k U m : Nat} {fields : Array Field} {fd : Field} (hu : ∀ w, (underlying T).run P w = .ok (.struct fields) w) (hf : fields[f]? = some fd) (hk : fd.offset = k) (hU : fd.type = U)
    (hs : ∀ w, (sizeOf U).run P w = .ok m w) (hm : m ≠ 0) : Fa P T f k :=
  ⟨fun b o w => by simp [Instr.fieldAt, hu, hf, Instr.sureAddr, fieldPlace, hU, hs, hm, hk, add_off]⟩
class Ca (P : Program) (f : FuncId) : Prop where
  run : ∀ args w, (callFunc f args).run P w = .ok (.enter f args) w
class SlT (P : Program) (T : TypeId) (e k : outParam Nat) : Prop where
  run : ∀ w, (underlying T).run P w = .ok (.slice e) w
  size : ∀ w, (sizeOf e).run P w = .ok k w
class StrT (P : Program) (T : TypeId) : Prop where
  run : ∀ w, (underlying T).run P w = .ok .string w
class MapT (P : Program) (T : TypeId) (k e : outParam Nat) : Prop where
  run : ∀ w, (underlying T).run P w = .ok (.map k e) w
class ByT (P : Program) (T : TypeId) (n : outParam Nat) : Prop where
  run : ∀ w, ∃ i, (typeInfo T).run P w = .ok i w ∧ i.bytes = n
def bodyOf (fn : Func) : Code := match fn.body with | some c => c | none => .skip

/-! ### Rules for operations -/
section rules2
variable {P : Program} {g : World} {n : Nat} {s : Env} {L : List HP} {Q : Exit → Act → World → Prop} {ops : Array Oper} {rest : List Oper}
variable {d : Nat} {x y z : Operand} {ty T U : TypeId} {pos : String} {af : Array Edge} {v v' u : Value}

theorem fa {b o f k : Nat} [i : Fa P T f k] (hn : Nat.blt d n = true) (hx : ev s x = some (.pointer (some ⟨b, o, none⟩))) (next : At g n ((d, .pointer (some ⟨b, o + k, none⟩)) :: s) L (wpList P ops Q rest)) :
    At g n s L (wpList P ops Q (⟨some d, .fieldAddr T x f, ty, pos, af, none⟩ :: rest)) :=
  op_pure rfl rfl hn (fun a w ha => by simp [execOp, ha.ev hx, i.run]) next

theorem faQ {b o f k : Nat} [i : Fa P T f k] (hn : Nat.blt d n = true) (hx : ev s x = some (.pointer (some ⟨b, o, none⟩)))
    (next : AtQ P g n ((d, .pointer (some ⟨b, o + k, none⟩)) :: s) L ops Q rest) : AtQ P g n s L ops Q (⟨some d, .fieldAddr T x f, ty, pos, af, none⟩ :: rest) :=
  opQ_pure rfl rfl hn (fun a w ha => by simp [execOp, ha.ev hx, i.run]) next
theorem faY {b o f k : Nat} [i : Fa P T f k] (hx : ev s x = some (.pointer (some ⟨b, o, none⟩))) :
    Yl P g n s L ⟨some d, .fieldAddr T x f, ty, pos, af, none⟩ (.pointer (some ⟨b, o + k, none⟩)) :=
  opY_pure rfl rfl (fun a w ha => by simp [execOp, ha.ev hx, i.run])
/-- A load of one cell. -/
theorem ld {b o B : Nat} {cs : List Value} {f : List Value → List HP} [t : Sc P T] [i : HasB b B cs L f] (hn : Nat.blt d n = true) (hx : ev s x = some (.pointer (some ⟨b, o, none⟩))) (hv : nth cs o = some v)
    (next : At g n ((d, v) :: s) L (wpList P ops Q rest)) : At g n s L (wpList P ops Q (⟨some d, .load T x, ty, pos, af, none⟩ :: rest)) :=
  op_rd rfl rfl hn (fun a w ha hw => by
    have hc : w.cell? ⟨b, o, none⟩ = some v := by rw [cell_of (i.read hw), ← hv, nth_eq]; simp
    simp [execOp, ha.ev hx, Instr.loadAt, Instr.sureAddr, loadVar, t.agg, hc]) next
theorem ldQ {b o B : Nat} {cs : List Value} {f : List Value → List HP} [t : Sc P T] [i : HasB b B cs L f] (hn : Nat.blt d n = true) (hx : ev s x = some (.pointer (some ⟨b, o, none⟩))) (hv : nth cs o = some v)
    (next : AtQ P g n ((d, v) :: s) L ops Q rest) : AtQ P g n s L ops Q (⟨some d, .load T x, ty, pos, af, none⟩ :: rest) :=
  opQ_rd rfl rfl hn (fun a w ha hw => by
    have hc : w.cell? ⟨b, o, none⟩ = some v := by rw [cell_of (i.read hw), ← hv, nth_eq]; simp
    simp [execOp, ha.ev hx, Instr.loadAt, Instr.sureAddr, loadVar, t.agg, hc]) next
theorem ldY {b o B : Nat} {cs : List Value} {f : List Value → List HP} [t : Sc P T] [i : HasB b B cs L f] (hx : ev s x = some (.pointer (some ⟨b, o, none⟩))) (hv : nth cs o = some v) :
    Yl P g n s L ⟨some d, .load T x, ty, pos, af, none⟩ (v) :=
  opY_rd rfl rfl (fun a w ha hw => by
    have hc : w.cell? ⟨b, o, none⟩ = some v := by rw [cell_of (i.read hw), ← hv, nth_eq]; simp
    simp [execOp, ha.ev hx, Instr.loadAt, Instr.sureAddr, loadVar, t.agg, hc])
/-- A load of a struct or an array. -/
theorem lda {b o B k : Nat} {cs vs : List Value} {f : List Value → List HP} [t : Ag P T k] [i : HasB b B cs L f] (hn : Nat.blt d n = true) (hx : ev s x = some (.pointer (some ⟨b, o, none⟩))) (hv : sub cs o k = some vs)
    (next : At g n ((d, .agg vs.toArray) :: s) L (wpList P ops Q rest)) : At g n s L (wpList P ops Q (⟨some d, .load T x, ty, pos, af, none⟩ :: rest)) :=
  op_rd rfl rfl hn (fun a w ha hw => by
    have hc := run_loadCells (P := P) (i.read hw) hv
    simp [execOp, ha.ev hx, Instr.loadAt, Instr.sureAddr, loadVar, t.agg, t.size, hc]) next
theorem ldaQ {b o B k : Nat} {cs vs : List Value} {f : List Value → List HP} [t : Ag P T k] [i : HasB b B cs L f] (hn : Nat.blt d n = true) (hx : ev s x = some (.pointer (some ⟨b, o, none⟩))) (hv : sub cs o k = some vs)
    (next : AtQ P g n ((d, .agg vs.toArray) :: s) L ops Q rest) : AtQ P g n s L ops Q (⟨some d, .load T x, ty, pos, af, none⟩ :: rest) :=
  opQ_rd rfl rfl hn (fun a w ha hw => by
    have hc := run_loadCells (P := P) (i.read hw) hv
    simp [execOp, ha.ev hx, Instr.loadAt, Instr.sureAddr, loadVar, t.agg, t.size, hc]) next
theorem ldaY {b o B k : Nat} {cs vs : List Value} {f : List Value → List HP} [t : Ag P T k] [i : HasB b B cs L f] (hx : ev s x = some (.pointer (some ⟨b, o, none⟩))) (hv : sub cs o k = some vs) :
    Yl P g n s L ⟨some d, .load T x, ty, pos, af, none⟩ (.agg vs.toArray) :=
  opY_rd rfl rfl (fun a w ha hw => by
    have hc := run_loadCells (P := P) (i.read hw) hv
    simp [execOp, ha.ev hx, Instr.loadAt, Instr.sureAddr, loadVar, t.agg, t.size, hc])
theorem setR_one {cs cs' : List Value} {o : Nat} (h : setN cs o v = some cs') : setR cs o [v] = some cs' := by simp [setR, h]
/-- A store of one cell. -/
theorem st {b o B : Nat} {cs cs' : List Value} {f : List Value → List HP} [t : Sc P T] [i : HasB b B cs L f] (hx : ev s x = some (.pointer (some ⟨b, o, none⟩))) (hy : ev s y = some v) (h1 : v.oneCell' = true) (hv : setN cs o v = some cs')
    (next : At g n s (f cs') (wpList P ops Q rest)) : At g n s L (wpList P ops Q (⟨none, .store T x y, ty, pos, af, none⟩ :: rest)) :=
  op_none (α := Unit) .skip (.inr rfl) (fun _ => f cs') rfl rfl (fun a w ha hw => by
    have hcs : v.cells = #[v] := by cases v <;> first | rfl | (simp [Value.oneCell'] at h1)
    obtain ⟨w', hr, tw⟩ := run_storeCells (P := P) (o := o) [v] 0 w cs cs' (i.read hw) (setR_one hv) (by simpa using h1)
    exact ⟨(), w', by simp [execOp, ha.ev hx, ha.ev hy, Instr.storeAt, Instr.sureAddr, storeVar, hcs, t.size, hr], i.write hw tw⟩) fun _ => next
/-- A store of a struct or an array. -/
theorem sta {b o B k : Nat} {cs cs' vs : List Value} {f : List Value → List HP} [t : Ag P T k] [i : HasB b B cs L f] (hx : ev s x = some (.pointer (some ⟨b, o, none⟩))) (hy : ev s y = some (.agg vs.toArray)) (hk : vs.length = k) (h1 : ∀ v ∈ vs, v.oneCell' = true)
    (hv : setR cs o vs = some cs') (next : At g n s (f cs') (wpList P ops Q rest)) : At g n s L (wpList P ops Q (⟨none, .store T x y, ty, pos, af, none⟩ :: rest)) :=
  op_none (α := Unit) .skip (.inr rfl) (fun _ => f cs') rfl rfl (fun a w ha hw => by
    obtain ⟨w', hr, tw⟩ := run_storeCells (P := P) (o := o) vs 0 w cs cs' (i.read hw) hv h1
    exact ⟨(), w', by simp [execOp, ha.ev hx, ha.ev hy, Instr.storeAt, Instr.sureAddr, storeVar, Value.cells, t.size, hk, hr], i.write hw tw⟩) fun _ => next
/-- A new variable of its zero value. -/
theorem al {zs : List Value} [z : Zv P T (.agg zs.toArray)] (hn : Nat.blt d n = true)
    (next : ∀ b, At g n ((d, .pointer (some ⟨b, 0, none⟩)) :: s) (blk b T zs :: L) (wpList P ops Q rest)) : At g n s L (wpList P ops Q (⟨some d, .alloc T, ty, pos, af, none⟩ :: rest)) :=
  op_any (fun b => .pointer (some ⟨b, 0, none⟩)) (fun b => blk b T zs :: L) rfl rfl hn (fun a w _ hw => ⟨w.heap.size, w.alloc (.cells zs.toArray T),
    by simp [execOp, Instr.alloc, z.run, newVar, newRow, Value.cells], hw.alloc _⟩) next
theorem al1 {zv : Value} [z : Zv P T zv] (h1 : zv.oneCell' = true) (hn : Nat.blt d n = true)
    (next : ∀ b, At g n ((d, .pointer (some ⟨b, 0, none⟩)) :: s) (blk b T [zv] :: L) (wpList P ops Q rest)) : At g n s L (wpList P ops Q (⟨some d, .alloc T, ty, pos, af, none⟩ :: rest)) :=
  op_any (fun b => .pointer (some ⟨b, 0, none⟩)) (fun b => blk b T [zv] :: L) rfl rfl hn (fun a w _ hw => ⟨w.heap.size, w.alloc (.cells #[zv] T), by
    have hcs : zv.cells = #[zv] := by cases zv <;> first | rfl | (simp [Value.oneCell'] at h1)
    simp [execOp, Instr.alloc, z.run, newVar, newRow, hcs], hw.alloc _⟩) next
/-- A new variable of a value. -/
theorem bx1 (hn : Nat.blt d n = true) (hx : ev s x = some v) (h1 : v.oneCell' = true)
    (next : ∀ b, At g n ((d, .pointer (some ⟨b, 0, none⟩)) :: s) (blk b T [v] :: L) (wpList P ops Q rest)) : At g n s L (wpList P ops Q (⟨some d, .box T x, ty, pos, af, none⟩ :: rest)) :=
  op_any (fun b => .pointer (some ⟨b, 0, none⟩)) (fun b => blk b T [v] :: L) rfl rfl hn (fun a w ha hw => ⟨w.heap.size, w.alloc (.cells #[v] T), by
    have hcs : v.cells = #[v] := by cases v <;> first | rfl | (simp [Value.oneCell'] at h1)
    simp [execOp, Instr.box, ha.ev hx, newVar, newRow, hcs], hw.alloc _⟩) next
theorem bxa {vs : List Value} (hn : Nat.blt d n = true) (hx : ev s x = some (.agg vs.toArray))
    (next : ∀ b, At g n ((d, .pointer (some ⟨b, 0, none⟩)) :: s) (blk b T vs :: L) (wpList P ops Q rest)) : At g n s L (wpList P ops Q (⟨some d, .box T x, ty, pos, af, none⟩ :: rest)) :=
  op_any (fun b => .pointer (some ⟨b, 0, none⟩)) (fun b => blk b T vs :: L) rfl rfl hn (fun a w ha hw => ⟨w.heap.size, w.alloc (.cells vs.toArray T),
    by simp [execOp, Instr.box, ha.ev hx, newVar, newRow, Value.cells], hw.alloc _⟩) next

/-! Numbers -/
def fits (k : IntKind) (m : Int) : Prop := k.wrap m = m
theorem fits_i64 {m : Int} (h : -9223372036854775808 ≤ m ∧ m ≤ 9223372036854775807) : fits .i64 m := IntWalk.i64_in m h
theorem fits_u8 {m : Int} (h : 0 ≤ m ∧ m ≤ 255) : fits .u8 m := IntWalk.u8_in m h
theorem fits_u64 {m : Int} (h : 0 ≤ m ∧ m ≤ 18446744073709551615) : fits .u64 m := by unfold fits; rw [IntKind.wrap_u64]; omega
theorem fits_u32 {m : Int} (h : 0 ≤ m ∧ m ≤ 4294967295) : fits .u32 m := by unfold fits; rw [IntKind.wrap_u32]; omega
theorem fits_i32 {m : Int} (h : -2147483648 ≤ m ∧ m ≤ 2147483647) : fits .i32 m := by unfold fits; rw [IntKind.wrap_i32]; omega
theorem add {k : IntKind} {i j : Int} (hn : Nat.blt d n = true) (hx : ev s x = some (.int k i)) (hy : ev s y = some (.int k j)) (h : fits k (i + j))
    (next : At g n ((d, .int k (i + j)) :: s) L (wpList P ops Q rest)) : At g n s L (wpList P ops Q (⟨some d, .binOp .add T x y U, ty, pos, af, none⟩ :: rest)) :=
  op_pure rfl rfl hn (fun a w ha => by simp [execOp, ha.ev hx, ha.ev hy, eqGuard, binOp, Op.intArith]; exact h) next

theorem addQ {k : IntKind} {i j : Int} (hn : Nat.blt d n = true) (hx : ev s x = some (.int k i)) (hy : ev s y = some (.int k j)) (h : fits k (i + j))
    (next : AtQ P g n ((d, .int k (i + j)) :: s) L ops Q rest) : AtQ P g n s L ops Q (⟨some d, .binOp .add T x y U, ty, pos, af, none⟩ :: rest) :=
  opQ_pure rfl rfl hn (fun a w ha => by simp [execOp, ha.ev hx, ha.ev hy, eqGuard, binOp, Op.intArith]; exact h) next
theorem addY {k : IntKind} {i j : Int} (hx : ev s x = some (.int k i)) (hy : ev s y = some (.int k j)) (h : fits k (i + j)) :
    Yl P g n s L ⟨some d, .binOp .add T x y U, ty, pos, af, none⟩ (.int k (i + j)) :=
  opY_pure rfl rfl (fun a w ha => by simp [execOp, ha.ev hx, ha.ev hy, eqGuard, binOp, Op.intArith]; exact h)
theorem sb {k : IntKind} {i j : Int} (hn : Nat.blt d n = true) (hx : ev s x = some (.int k i)) (hy : ev s y = some (.int k j)) (h : fits k (i - j))
    (next : At g n ((d, .int k (i - j)) :: s) L (wpList P ops Q rest)) : At g n s L (wpList P ops Q (⟨some d, .binOp .sub T x y U, ty, pos, af, none⟩ :: rest)) :=
  op_pure rfl rfl hn (fun a w ha => by simp [execOp, ha.ev hx, ha.ev hy, eqGuard, binOp, Op.intArith]; exact h) next
theorem sbQ {k : IntKind} {i j : Int} (hn : Nat.blt d n = true) (hx : ev s x = some (.int k i)) (hy : ev s y = some (.int k j)) (h : fits k (i - j))
    (next : AtQ P g n ((d, .int k (i - j)) :: s) L ops Q rest) : AtQ P g n s L ops Q (⟨some d, .binOp .sub T x y U, ty, pos, af, none⟩ :: rest) :=
  opQ_pure rfl rfl hn (fun a w ha => by simp [execOp, ha.ev hx, ha.ev hy, eqGuard, binOp, Op.intArith]; exact h) next
theorem sbY {k : IntKind} {i j : Int} (hx : ev s x = some (.int k i)) (hy : ev s y = some (.int k j)) (h : fits k (i - j)) :
    Yl P g n s L ⟨some d, .binOp .sub T x y U, ty, pos, af, none⟩ (.int k (i - j)) :=
  opY_pure rfl rfl (fun a w ha => by simp [execOp, ha.ev hx, ha.ev hy, eqGuard, binOp, Op.intArith]; exact h)
theorem ml {k : IntKind} {i j : Int} (hn : Nat.blt d n = true) (hx : ev s x = some (.int k i)) (hy : ev s y = some (.int k j)) (h : fits k (i * j))
    (next : At g n ((d, .int k (i * j)) :: s) L (wpList P ops Q rest)) : At g n s L (wpList P ops Q (⟨some d, .binOp .mul T x y U, ty, pos, af, none⟩ :: rest)) :=
  op_pure rfl rfl hn (fun a w ha => by simp [execOp, ha.ev hx, ha.ev hy, eqGuard, binOp, Op.intArith]; exact h) next
theorem mlQ {k : IntKind} {i j : Int} (hn : Nat.blt d n = true) (hx : ev s x = some (.int k i)) (hy : ev s y = some (.int k j)) (h : fits k (i * j))
    (next : AtQ P g n ((d, .int k (i * j)) :: s) L ops Q rest) : AtQ P g n s L ops Q (⟨some d, .binOp .mul T x y U, ty, pos, af, none⟩ :: rest) :=
  opQ_pure rfl rfl hn (fun a w ha => by simp [execOp, ha.ev hx, ha.ev hy, eqGuard, binOp, Op.intArith]; exact h) next
theorem mlY {k : IntKind} {i j : Int} (hx : ev s x = some (.int k i)) (hy : ev s y = some (.int k j)) (h : fits k (i * j)) :
    Yl P g n s L ⟨some d, .binOp .mul T x y U, ty, pos, af, none⟩ (.int k (i * j)) :=
  opY_pure rfl rfl (fun a w ha => by simp [execOp, ha.ev hx, ha.ev hy, eqGuard, binOp, Op.intArith]; exact h)
/-- Arithmetic that may wrap. -/
theorem arW {op : BinOp} {k : IntKind} {i j r : Int} (hn : Nat.blt d n = true) (hx : ev s x = some (.int k i)) (hy : ev s y = some (.int k j))
    (h : ∀ w, (binOp op T (.int k i) (.int k j)).run P w = .ok (.int k r) w)
    (next : At g n ((d, .int k r) :: s) L (wpList P ops Q rest)) : At g n s L (wpList P ops Q (⟨some d, .binOp op T x y U, ty, pos, af, none⟩ :: rest)) :=
  op_pure rfl rfl hn (fun a w ha => by simp [execOp, ha.ev hx, ha.ev hy, eqGuard, h]) next
theorem arWQ {op : BinOp} {k : IntKind} {i j r : Int} (hn : Nat.blt d n = true) (hx : ev s x = some (.int k i)) (hy : ev s y = some (.int k j))
    (h : ∀ w, (binOp op T (.int k i) (.int k j)).run P w = .ok (.int k r) w)
    (next : AtQ P g n ((d, .int k r) :: s) L ops Q rest) : AtQ P g n s L ops Q (⟨some d, .binOp op T x y U, ty, pos, af, none⟩ :: rest) :=
  opQ_pure rfl rfl hn (fun a w ha => by simp [execOp, ha.ev hx, ha.ev hy, eqGuard, h]) next
theorem arWY {op : BinOp} {k : IntKind} {i j r : Int} (hx : ev s x = some (.int k i)) (hy : ev s y = some (.int k j))
    (h : ∀ w, (binOp op T (.int k i) (.int k j)).run P w = .ok (.int k r) w) :
    Yl P g n s L ⟨some d, .binOp op T x y U, ty, pos, af, none⟩ (.int k r) :=
  opY_pure rfl rfl (fun a w ha => by simp [execOp, ha.ev hx, ha.ev hy, eqGuard, h])
theorem lss {k : IntKind} {i j : Int} (hn : Nat.blt d n = true) (hx : ev s x = some (.int k i)) (hy : ev s y = some (.int k j))
    (next : At g n ((d, .bool (decide (i < j))) :: s) L (wpList P ops Q rest)) : At g n s L (wpList P ops Q (⟨some d, .binOp .lss T x y U, ty, pos, af, none⟩ :: rest)) :=
  op_pure rfl rfl hn (fun a w ha => by simp [execOp, ha.ev hx, ha.ev hy, eqGuard, binOp, Op.intCmp]) next
theorem lssQ {k : IntKind} {i j : Int} (hn : Nat.blt d n = true) (hx : ev s x = some (.int k i)) (hy : ev s y = some (.int k j))
    (next : AtQ P g n ((d, .bool (decide (i < j))) :: s) L ops Q rest) : AtQ P g n s L ops Q (⟨some d, .binOp .lss T x y U, ty, pos, af, none⟩ :: rest) :=
  opQ_pure rfl rfl hn (fun a w ha => by simp [execOp, ha.ev hx, ha.ev hy, eqGuard, binOp, Op.intCmp]) next
theorem lssY {k : IntKind} {i j : Int} (hx : ev s x = some (.int k i)) (hy : ev s y = some (.int k j)) :
    Yl P g n s L ⟨some d, .binOp .lss T x y U, ty, pos, af, none⟩ (.bool (decide (i < j))) :=
  opY_pure rfl rfl (fun a w ha => by simp [execOp, ha.ev hx, ha.ev hy, eqGuard, binOp, Op.intCmp])
theorem leq {k : IntKind} {i j : Int} (hn : Nat.blt d n = true) (hx : ev s x = some (.int k i)) (hy : ev s y = some (.int k j))
    (next : At g n ((d, .bool (decide (i ≤ j))) :: s) L (wpList P ops Q rest)) : At g n s L (wpList P ops Q (⟨some d, .binOp .leq T x y U, ty, pos, af, none⟩ :: rest)) :=
  op_pure rfl rfl hn (fun a w ha => by simp [execOp, ha.ev hx, ha.ev hy, eqGuard, binOp, Op.intCmp]) next
theorem leqQ {k : IntKind} {i j : Int} (hn : Nat.blt d n = true) (hx : ev s x = some (.int k i)) (hy : ev s y = some (.int k j))
    (next : AtQ P g n ((d, .bool (decide (i ≤ j))) :: s) L ops Q rest) : AtQ P g n s L ops Q (⟨some d, .binOp .leq T x y U, ty, pos, af, none⟩ :: rest) :=
  opQ_pure rfl rfl hn (fun a w ha => by simp [execOp, ha.ev hx, ha.ev hy, eqGuard, binOp, Op.intCmp]) next
theorem leqY {k : IntKind} {i j : Int} (hx : ev s x = some (.int k i)) (hy : ev s y = some (.int k j)) :
    Yl P g n s L ⟨some d, .binOp .leq T x y U, ty, pos, af, none⟩ (.bool (decide (i ≤ j))) :=
  opY_pure rfl rfl (fun a w ha => by simp [execOp, ha.ev hx, ha.ev hy, eqGuard, binOp, Op.intCmp])
theorem gtr {k : IntKind} {i j : Int} (hn : Nat.blt d n = true) (hx : ev s x = some (.int k i)) (hy : ev s y = some (.int k j))
    (next : At g n ((d, .bool (decide (j < i))) :: s) L (wpList P ops Q rest)) : At g n s L (wpList P ops Q (⟨some d, .binOp .gtr T x y U, ty, pos, af, none⟩ :: rest)) :=
  op_pure rfl rfl hn (fun a w ha => by simp [execOp, ha.ev hx, ha.ev hy, eqGuard, binOp, Op.intCmp]) next
theorem gtrQ {k : IntKind} {i j : Int} (hn : Nat.blt d n = true) (hx : ev s x = some (.int k i)) (hy : ev s y = some (.int k j))
    (next : AtQ P g n ((d, .bool (decide (j < i))) :: s) L ops Q rest) : AtQ P g n s L ops Q (⟨some d, .binOp .gtr T x y U, ty, pos, af, none⟩ :: rest) :=
  opQ_pure rfl rfl hn (fun a w ha => by simp [execOp, ha.ev hx, ha.ev hy, eqGuard, binOp, Op.intCmp]) next
theorem gtrY {k : IntKind} {i j : Int} (hx : ev s x = some (.int k i)) (hy : ev s y = some (.int k j)) :
    Yl P g n s L ⟨some d, .binOp .gtr T x y U, ty, pos, af, none⟩ (.bool (decide (j < i))) :=
  opY_pure rfl rfl (fun a w ha => by simp [execOp, ha.ev hx, ha.ev hy, eqGuard, binOp, Op.intCmp])
theorem geq {k : IntKind} {i j : Int} (hn : Nat.blt d n = true) (hx : ev s x = some (.int k i)) (hy : ev s y = some (.int k j))
    (next : At g n ((d, .bool (decide (j ≤ i))) :: s) L (wpList P ops Q rest)) : At g n s L (wpList P ops Q (⟨some d, .binOp .geq T x y U, ty, pos, af, none⟩ :: rest)) :=
  op_pure rfl rfl hn (fun a w ha => by simp [execOp, ha.ev hx, ha.ev hy, eqGuard, binOp, Op.intCmp]) next
theorem geqQ {k : IntKind} {i j : Int} (hn : Nat.blt d n = true) (hx : ev s x = some (.int k i)) (hy : ev s y = some (.int k j))
    (next : AtQ P g n ((d, .bool (decide (j ≤ i))) :: s) L ops Q rest) : AtQ P g n s L ops Q (⟨some d, .binOp .geq T x y U, ty, pos, af, none⟩ :: rest) :=
  opQ_pure rfl rfl hn (fun a w ha => by simp [execOp, ha.ev hx, ha.ev hy, eqGuard, binOp, Op.intCmp]) next
theorem geqY {k : IntKind} {i j : Int} (hx : ev s x = some (.int k i)) (hy : ev s y = some (.int k j)) :
    Yl P g n s L ⟨some d, .binOp .geq T x y U, ty, pos, af, none⟩ (.bool (decide (j ≤ i))) :=
  opY_pure rfl rfl (fun a w ha => by simp [execOp, ha.ev hx, ha.ev hy, eqGuard, binOp, Op.intCmp])
theorem eqlI {k : IntKind} {i j : Int} (hn : Nat.blt d n = true) (hx : ev s x = some (.int k i)) (hy : ev s y = some (.int k j))
    (next : At g n ((d, .bool (decide (i = j))) :: s) L (wpList P ops Q rest)) : At g n s L (wpList P ops Q (⟨some d, .binOp .eql T x y U, ty, pos, af, none⟩ :: rest)) :=
  op_pure rfl rfl hn (fun a w ha => by
    have e : (i == j) = decide (i = j) := by by_cases h : i = j <;> simp [h]
    simp [execOp, ha.ev hx, ha.ev hy, eqGuard, binOp, Op.intCmp, e]) next
theorem eqlIQ {k : IntKind} {i j : Int} (hn : Nat.blt d n = true) (hx : ev s x = some (.int k i)) (hy : ev s y = some (.int k j))
    (next : AtQ P g n ((d, .bool (decide (i = j))) :: s) L ops Q rest) : AtQ P g n s L ops Q (⟨some d, .binOp .eql T x y U, ty, pos, af, none⟩ :: rest) :=
  opQ_pure rfl rfl hn (fun a w ha => by
    have e : (i == j) = decide (i = j) := by by_cases h : i = j <;> simp [h]
    simp [execOp, ha.ev hx, ha.ev hy, eqGuard, binOp, Op.intCmp, e]) next
theorem eqlIY {k : IntKind} {i j : Int} (hx : ev s x = some (.int k i)) (hy : ev s y = some (.int k j)) :
    Yl P g n s L ⟨some d, .binOp .eql T x y U, ty, pos, af, none⟩ (.bool (decide (i = j))) :=
  opY_pure rfl rfl (fun a w ha => by
    have e : (i == j) = decide (i = j) := by by_cases h : i = j <;> simp [h]
    simp [execOp, ha.ev hx, ha.ev hy, eqGuard, binOp, Op.intCmp, e])
theorem neqI {k : IntKind} {i j : Int} (hn : Nat.blt d n = true) (hx : ev s x = some (.int k i)) (hy : ev s y = some (.int k j))
    (next : At g n ((d, .bool (decide (i ≠ j))) :: s) L (wpList P ops Q rest)) : At g n s L (wpList P ops Q (⟨some d, .binOp .neq T x y U, ty, pos, af, none⟩ :: rest)) :=
  op_pure rfl rfl hn (fun a w ha => by
    have e : (i != j) = decide (i ≠ j) := by by_cases h : i = j <;> simp [h]
    simp [execOp, ha.ev hx, ha.ev hy, eqGuard, binOp, Op.intCmp, e]) next

theorem neqIQ {k : IntKind} {i j : Int} (hn : Nat.blt d n = true) (hx : ev s x = some (.int k i)) (hy : ev s y = some (.int k j))
    (next : AtQ P g n ((d, .bool (decide (i ≠ j))) :: s) L ops Q rest) : AtQ P g n s L ops Q (⟨some d, .binOp .neq T x y U, ty, pos, af, none⟩ :: rest) :=
  opQ_pure rfl rfl hn (fun a w ha => by
    have e : (i != j) = decide (i ≠ j) := by by_cases h : i = j <;> simp [h]
    simp [execOp, ha.ev hx, ha.ev hy, eqGuard, binOp, Op.intCmp, e]) next
theorem neqIY {k : IntKind} {i j : Int} (hx : ev s x = some (.int k i)) (hy : ev s y = some (.int k j)) :
    Yl P g n s L ⟨some d, .binOp .neq T x y U, ty, pos, af, none⟩ (.bool (decide (i ≠ j))) :=
  opY_pure rfl rfl (fun a w ha => by
    have e : (i != j) = decide (i ≠ j) := by by_cases h : i = j <;> simp [h]
    simp [execOp, ha.ev hx, ha.ev hy, eqGuard, binOp, Op.intCmp, e])
/-! Strings -/
abbrev Str := ByteArray
def slt (a b : Str) : Bool := Op.bytesLess a.toList b.toList
theorem toList_data (a : Str) : a.toList = a.data.toList := ByteArray.toList_eq a
theorem toList_inj {a b : Str} (h : a.toList = b.toList) : a = b := by
  rw [toList_data, toList_data] at h
  cases a; cases b; simp at h; simp [h]
theorem toList_beq (a b : Str) : (a.toList == b.toList) = decide (a = b) := by
  by_cases h : a = b
  · simp [h]
  · have : ¬ a.toList = b.toList := fun q => h (toList_inj q)
    simp only [h, decide_false]
    exact beq_eq_false_iff_ne.2 this
theorem eqlS {a b : Str} (hn : Nat.blt d n = true) (hx : ev s x = some (.string a)) (hy : ev s y = some (.string b))
    (next : At g n ((d, .bool (decide (a = b))) :: s) L (wpList P ops Q rest)) : At g n s L (wpList P ops Q (⟨some d, .binOp .eql T x y U, ty, pos, af, none⟩ :: rest)) :=
  op_pure rfl rfl hn (fun c w ha => by
    have e := toList_beq a b
    simp only [execOp, ha.ev hx, ha.ev hy]
    simp [eqGuard, binOp, Op.stringOp, e]) next
theorem eqlSQ {a b : Str} (hn : Nat.blt d n = true) (hx : ev s x = some (.string a)) (hy : ev s y = some (.string b))
    (next : AtQ P g n ((d, .bool (decide (a = b))) :: s) L ops Q rest) : AtQ P g n s L ops Q (⟨some d, .binOp .eql T x y U, ty, pos, af, none⟩ :: rest) :=
  opQ_pure rfl rfl hn (fun c w ha => by
    have e := toList_beq a b
    simp only [execOp, ha.ev hx, ha.ev hy]
    simp [eqGuard, binOp, Op.stringOp, e]) next
theorem eqlSY {a b : Str} (hx : ev s x = some (.string a)) (hy : ev s y = some (.string b)) :
    Yl P g n s L ⟨some d, .binOp .eql T x y U, ty, pos, af, none⟩ (.bool (decide (a = b))) :=
  opY_pure rfl rfl (fun c w ha => by
    have e := toList_beq a b
    simp only [execOp, ha.ev hx, ha.ev hy]
    simp [eqGuard, binOp, Op.stringOp, e])
theorem neqS {a b : Str} (hn : Nat.blt d n = true) (hx : ev s x = some (.string a)) (hy : ev s y = some (.string b))
    (next : At g n ((d, .bool (decide (a ≠ b))) :: s) L (wpList P ops Q rest)) : At g n s L (wpList P ops Q (⟨some d, .binOp .neq T x y U, ty, pos, af, none⟩ :: rest)) :=
  op_pure rfl rfl hn (fun c w ha => by
    have e := toList_beq a b
    simp only [execOp, ha.ev hx, ha.ev hy]
    simp [eqGuard, binOp, Op.stringOp]
    rw [e]) next
theorem neqSQ {a b : Str} (hn : Nat.blt d n = true) (hx : ev s x = some (.string a)) (hy : ev s y = some (.string b))
    (next : AtQ P g n ((d, .bool (decide (a ≠ b))) :: s) L ops Q rest) : AtQ P g n s L ops Q (⟨some d, .binOp .neq T x y U, ty, pos, af, none⟩ :: rest) :=
  opQ_pure rfl rfl hn (fun c w ha => by
    have e := toList_beq a b
    simp only [execOp, ha.ev hx, ha.ev hy]
    simp [eqGuard, binOp, Op.stringOp]
    rw [e]) next
theorem neqSY {a b : Str} (hx : ev s x = some (.string a)) (hy : ev s y = some (.string b)) :
    Yl P g n s L ⟨some d, .binOp .neq T x y U, ty, pos, af, none⟩ (.bool (decide (a ≠ b))) :=
  opY_pure rfl rfl (fun c w ha => by
    have e := toList_beq a b
    simp only [execOp, ha.ev hx, ha.ev hy]
    simp [eqGuard, binOp, Op.stringOp]
    rw [e])
theorem lssS {a b : Str} (hn : Nat.blt d n = true) (hx : ev s x = some (.string a)) (hy : ev s y = some (.string b))
    (next : At g n ((d, .bool (slt a b)) :: s) L (wpList P ops Q rest)) : At g n s L (wpList P ops Q (⟨some d, .binOp .lss T x y U, ty, pos, af, none⟩ :: rest)) :=
  op_pure rfl rfl hn (fun c w ha => by
    simp only [execOp, ha.ev hx, ha.ev hy]
    simp [eqGuard, binOp, Op.stringOp, slt]) next
theorem lssSQ {a b : Str} (hn : Nat.blt d n = true) (hx : ev s x = some (.string a)) (hy : ev s y = some (.string b))
    (next : AtQ P g n ((d, .bool (slt a b)) :: s) L ops Q rest) : AtQ P g n s L ops Q (⟨some d, .binOp .lss T x y U, ty, pos, af, none⟩ :: rest) :=
  opQ_pure rfl rfl hn (fun c w ha => by
    simp only [execOp, ha.ev hx, ha.ev hy]
    simp [eqGuard, binOp, Op.stringOp, slt]) next
theorem lssSY {a b : Str} (hx : ev s x = some (.string a)) (hy : ev s y = some (.string b)) :
    Yl P g n s L ⟨some d, .binOp .lss T x y U, ty, pos, af, none⟩ (.bool (slt a b)) :=
  opY_pure rfl rfl (fun c w ha => by
    simp only [execOp, ha.ev hx, ha.ev hy]
    simp [eqGuard, binOp, Op.stringOp, slt])
theorem slt_or (a b : Str) : (Op.bytesLess a.toList b.toList || a.toList == b.toList) = (slt a b || decide (a = b)) := by rw [toList_beq]; rfl
theorem geqS {a b : Str} (hn : Nat.blt d n = true) (hx : ev s x = some (.string a)) (hy : ev s y = some (.string b))
    (next : At g n ((d, .bool (!slt a b)) :: s) L (wpList P ops Q rest)) : At g n s L (wpList P ops Q (⟨some d, .binOp .geq T x y U, ty, pos, af, none⟩ :: rest)) :=
  op_pure rfl rfl hn (fun c w ha => by
    simp only [execOp, ha.ev hx, ha.ev hy]
    simp [eqGuard, binOp, Op.stringOp, slt]) next
theorem geqSQ {a b : Str} (hn : Nat.blt d n = true) (hx : ev s x = some (.string a)) (hy : ev s y = some (.string b))
    (next : AtQ P g n ((d, .bool (!slt a b)) :: s) L ops Q rest) : AtQ P g n s L ops Q (⟨some d, .binOp .geq T x y U, ty, pos, af, none⟩ :: rest) :=
  opQ_pure rfl rfl hn (fun c w ha => by
    simp only [execOp, ha.ev hx, ha.ev hy]
    simp [eqGuard, binOp, Op.stringOp, slt]) next
theorem geqSY {a b : Str} (hx : ev s x = some (.string a)) (hy : ev s y = some (.string b)) :
    Yl P g n s L ⟨some d, .binOp .geq T x y U, ty, pos, af, none⟩ (.bool (!slt a b)) :=
  opY_pure rfl rfl (fun c w ha => by
    simp only [execOp, ha.ev hx, ha.ev hy]
    simp [eqGuard, binOp, Op.stringOp, slt])
theorem addS {a b : Str} (hn : Nat.blt d n = true) (hx : ev s x = some (.string a)) (hy : ev s y = some (.string b)) (h : a.size + b.size ≤ 9223372036854775807)
    (next : At g n ((d, .string (a ++ b)) :: s) L (wpList P ops Q rest)) : At g n s L (wpList P ops Q (⟨some d, .binOp .add T x y U, ty, pos, af, none⟩ :: rest)) :=
  op_pure rfl rfl hn (fun c w ha => by
    have q : ¬ ((a.size : Int) + (b.size : Int) > IntKind.i64.max) := by simp [IntKind.max, IntKind.bits, IntKind.signed]; omega
    simp only [execOp, ha.ev hx, ha.ev hy]
    have r : (binOp .add T (.string a) (.string b)).run P w = .ok (.string (a ++ b)) w := by
      simp only [binOp, Op.stringOp]; rw [if_neg (by simpa using q)]; rfl
    simp [eqGuard, r]) next

theorem addSQ {a b : Str} (hn : Nat.blt d n = true) (hx : ev s x = some (.string a)) (hy : ev s y = some (.string b)) (h : a.size + b.size ≤ 9223372036854775807)
    (next : AtQ P g n ((d, .string (a ++ b)) :: s) L ops Q rest) : AtQ P g n s L ops Q (⟨some d, .binOp .add T x y U, ty, pos, af, none⟩ :: rest) :=
  opQ_pure rfl rfl hn (fun c w ha => by
    have q : ¬ ((a.size : Int) + (b.size : Int) > IntKind.i64.max) := by simp [IntKind.max, IntKind.bits, IntKind.signed]; omega
    simp only [execOp, ha.ev hx, ha.ev hy]
    have r : (binOp .add T (.string a) (.string b)).run P w = .ok (.string (a ++ b)) w := by
      simp only [binOp, Op.stringOp]; rw [if_neg (by simpa using q)]; rfl
    simp [eqGuard, r]) next
theorem addSY {a b : Str} (hx : ev s x = some (.string a)) (hy : ev s y = some (.string b)) (h : a.size + b.size ≤ 9223372036854775807) :
    Yl P g n s L ⟨some d, .binOp .add T x y U, ty, pos, af, none⟩ (.string (a ++ b)) :=
  opY_pure rfl rfl (fun c w ha => by
    have q : ¬ ((a.size : Int) + (b.size : Int) > IntKind.i64.max) := by simp [IntKind.max, IntKind.bits, IntKind.signed]; omega
    simp only [execOp, ha.ev hx, ha.ev hy]
    have r : (binOp .add T (.string a) (.string b)).run P w = .ok (.string (a ++ b)) w := by
      simp only [binOp, Op.stringOp]; rw [if_neg (by simpa using q)]; rfl
    simp [eqGuard, r])
/-! Bools, pointers -/
theorem nt {b : Bool} (hn : Nat.blt d n = true) (hx : ev s x = some (.bool b)) (next : At g n ((d, .bool (!b)) :: s) L (wpList P ops Q rest)) :
    At g n s L (wpList P ops Q (⟨some d, .unOp .not T x, ty, pos, af, none⟩ :: rest)) :=
  op_pure rfl rfl hn (fun a w ha => by simp [execOp, ha.ev hx, Op.unary]) next
theorem ntQ {b : Bool} (hn : Nat.blt d n = true) (hx : ev s x = some (.bool b))
    (next : AtQ P g n ((d, .bool (!b)) :: s) L ops Q rest) : AtQ P g n s L ops Q (⟨some d, .unOp .not T x, ty, pos, af, none⟩ :: rest) :=
  opQ_pure rfl rfl hn (fun a w ha => by simp [execOp, ha.ev hx, Op.unary]) next
theorem ntY {b : Bool} (hx : ev s x = some (.bool b)) :
    Yl P g n s L ⟨some d, .unOp .not T x, ty, pos, af, none⟩ (.bool (!b)) :=
  opY_pure rfl rfl (fun a w ha => by simp [execOp, ha.ev hx, Op.unary])
theorem pk {b : Bool} {r : Value} (hn : Nat.blt d n = true) (hx : ev s x = some (.bool b)) (hr : (bif b then ev s y else ev s z) = some r) (next : At g n ((d, r) :: s) L (wpList P ops Q rest)) :
    At g n s L (wpList P ops Q (⟨some d, .pick x y z, ty, pos, af, none⟩ :: rest)) :=
  op_pure rfl rfl hn (fun a w ha => by
    cases b
    · have := ha.ev (x := z) (by simpa using hr)
      simp [execOp, ha.ev hx, asBool, this]
    · have := ha.ev (x := y) (by simpa using hr)
      simp [execOp, ha.ev hx, asBool, this]) next
theorem pkQ {b : Bool} {r : Value} (hn : Nat.blt d n = true) (hx : ev s x = some (.bool b)) (hr : (bif b then ev s y else ev s z) = some r)
    (next : AtQ P g n ((d, r) :: s) L ops Q rest) : AtQ P g n s L ops Q (⟨some d, .pick x y z, ty, pos, af, none⟩ :: rest) :=
  opQ_pure rfl rfl hn (fun a w ha => by
    cases b
    · have := ha.ev (x := z) (by simpa using hr)
      simp [execOp, ha.ev hx, asBool, this]
    · have := ha.ev (x := y) (by simpa using hr)
      simp [execOp, ha.ev hx, asBool, this]) next
theorem pkY {b : Bool} {r : Value} (hx : ev s x = some (.bool b)) (hr : (bif b then ev s y else ev s z) = some r) :
    Yl P g n s L ⟨some d, .pick x y z, ty, pos, af, none⟩ (r) :=
  opY_pure rfl rfl (fun a w ha => by
    cases b
    · have := ha.ev (x := z) (by simpa using hr)
      simp [execOp, ha.ev hx, asBool, this]
    · have := ha.ev (x := y) (by simpa using hr)
      simp [execOp, ha.ev hx, asBool, this])
class PtrT (P : Program) (T : TypeId) : Prop where
  eq : P.underlying T = some (.pointer (P.pointee T))
theorem PtrT.mk' {e : TypeId} (h : P.underlying T = some (.pointer e)) : PtrT P T := ⟨by simp [Program.pointee, h]⟩
theorem eqlPN {a : Option Addr} [i : PtrT P T] (hn : Nat.blt d n = true) (hx : ev s x = some (.pointer a)) (hy : ev s y = some (.pointer none))
    (next : At g n ((d, .bool a.isNone) :: s) L (wpList P ops Q rest)) : At g n s L (wpList P ops Q (⟨some d, .binOp .eql T x y U, ty, pos, af, none⟩ :: rest)) :=
  op_pure rfl rfl hn (fun c w ha => by
    have r := run_eql_pointer_nil w T a i.eq
    have e : (eqGuard .eql T x y (.pointer a) (.pointer none)).run P w = .ok () w := by simp [eqGuard]
    simp only [execOp, ha.ev hx, ha.ev hy, Sem.run_bind, e, Result.andThen_ok, r]
    rfl) next
theorem eqlPNQ {a : Option Addr} [i : PtrT P T] (hn : Nat.blt d n = true) (hx : ev s x = some (.pointer a)) (hy : ev s y = some (.pointer none))
    (next : AtQ P g n ((d, .bool a.isNone) :: s) L ops Q rest) : AtQ P g n s L ops Q (⟨some d, .binOp .eql T x y U, ty, pos, af, none⟩ :: rest) :=
  opQ_pure rfl rfl hn (fun c w ha => by
    have r := run_eql_pointer_nil w T a i.eq
    have e : (eqGuard .eql T x y (.pointer a) (.pointer none)).run P w = .ok () w := by simp [eqGuard]
    simp only [execOp, ha.ev hx, ha.ev hy, Sem.run_bind, e, Result.andThen_ok, r]
    rfl) next
theorem eqlPNY {a : Option Addr} [i : PtrT P T] (hx : ev s x = some (.pointer a)) (hy : ev s y = some (.pointer none)) :
    Yl P g n s L ⟨some d, .binOp .eql T x y U, ty, pos, af, none⟩ (.bool a.isNone) :=
  opY_pure rfl rfl (fun c w ha => by
    have r := run_eql_pointer_nil w T a i.eq
    have e : (eqGuard .eql T x y (.pointer a) (.pointer none)).run P w = .ok () w := by simp [eqGuard]
    simp only [execOp, ha.ev hx, ha.ev hy, Sem.run_bind, e, Result.andThen_ok, r]
    rfl)
theorem neqPN {a : Option Addr} [i : PtrT P T] (hn : Nat.blt d n = true) (hx : ev s x = some (.pointer a)) (hy : ev s y = some (.pointer none))
    (next : At g n ((d, .bool (!a.isNone)) :: s) L (wpList P ops Q rest)) : At g n s L (wpList P ops Q (⟨some d, .binOp .neq T x y U, ty, pos, af, none⟩ :: rest)) :=
  op_pure rfl rfl hn (fun c w ha => by
    have r := run_neq_pointer_nil w T a i.eq
    have e : (eqGuard .neq T x y (.pointer a) (.pointer none)).run P w = .ok () w := by simp [eqGuard]
    simp only [execOp, ha.ev hx, ha.ev hy, Sem.run_bind, e, Result.andThen_ok, r]
    rfl) next

theorem neqPNQ {a : Option Addr} [i : PtrT P T] (hn : Nat.blt d n = true) (hx : ev s x = some (.pointer a)) (hy : ev s y = some (.pointer none))
    (next : AtQ P g n ((d, .bool (!a.isNone)) :: s) L ops Q rest) : AtQ P g n s L ops Q (⟨some d, .binOp .neq T x y U, ty, pos, af, none⟩ :: rest) :=
  opQ_pure rfl rfl hn (fun c w ha => by
    have r := run_neq_pointer_nil w T a i.eq
    have e : (eqGuard .neq T x y (.pointer a) (.pointer none)).run P w = .ok () w := by simp [eqGuard]
    simp only [execOp, ha.ev hx, ha.ev hy, Sem.run_bind, e, Result.andThen_ok, r]
    rfl) next
theorem neqPNY {a : Option Addr} [i : PtrT P T] (hx : ev s x = some (.pointer a)) (hy : ev s y = some (.pointer none)) :
    Yl P g n s L ⟨some d, .binOp .neq T x y U, ty, pos, af, none⟩ (.bool (!a.isNone)) :=
  opY_pure rfl rfl (fun c w ha => by
    have r := run_neq_pointer_nil w T a i.eq
    have e : (eqGuard .neq T x y (.pointer a) (.pointer none)).run P w = .ok () w := by simp [eqGuard]
    simp only [execOp, ha.ev hx, ha.ev hy, Sem.run_bind, e, Result.andThen_ok, r]
    rfl)
/-! Lengths, places -/
theorem lnS {a : Str} [i : StrT P T] (hn : Nat.blt d n = true) (hx : ev s x = some (.string a)) (next : At g n ((d, .int .i64 (a.size : Nat)) :: s) L (wpList P ops Q rest)) :
    At g n s L (wpList P ops Q (⟨some d, .call ⟨.builtin .len, #[x], #[T]⟩, ty, pos, af, none⟩ :: rest)) :=
  op_pure rfl rfl hn (fun c w ha => by simp [execOp, resolve, invoke, builtin, Builtin.len_, ha.ev hx, i.run, goInt]) next
theorem lnSQ {a : Str} [i : StrT P T] (hn : Nat.blt d n = true) (hx : ev s x = some (.string a))
    (next : AtQ P g n ((d, .int .i64 (a.size : Nat)) :: s) L ops Q rest) : AtQ P g n s L ops Q (⟨some d, .call ⟨.builtin .len, #[x], #[T]⟩, ty, pos, af, none⟩ :: rest) :=
  opQ_pure rfl rfl hn (fun c w ha => by simp [execOp, resolve, invoke, builtin, Builtin.len_, ha.ev hx, i.run, goInt]) next
theorem lnSY {a : Str} [i : StrT P T] (hx : ev s x = some (.string a)) :
    Yl P g n s L ⟨some d, .call ⟨.builtin .len, #[x], #[T]⟩, ty, pos, af, none⟩ (.int .i64 (a.size : Nat)) :=
  opY_pure rfl rfl (fun c w ha => by simp [execOp, resolve, invoke, builtin, Builtin.len_, ha.ev hx, i.run, goInt])
theorem lnL {a : Option Addr} {l c e k : Nat} [i : SlT P T e k] (hn : Nat.blt d n = true) (hx : ev s x = some (.slice a l c)) (next : At g n ((d, .int .i64 (l : Nat)) :: s) L (wpList P ops Q rest)) :
    At g n s L (wpList P ops Q (⟨some d, .call ⟨.builtin .len, #[x], #[T]⟩, ty, pos, af, none⟩ :: rest)) :=
  op_pure rfl rfl hn (fun c w ha => by simp [execOp, resolve, invoke, builtin, Builtin.len_, ha.ev hx, i.run, goInt]) next
theorem lnLQ {a : Option Addr} {l c e k : Nat} [i : SlT P T e k] (hn : Nat.blt d n = true) (hx : ev s x = some (.slice a l c))
    (next : AtQ P g n ((d, .int .i64 (l : Nat)) :: s) L ops Q rest) : AtQ P g n s L ops Q (⟨some d, .call ⟨.builtin .len, #[x], #[T]⟩, ty, pos, af, none⟩ :: rest) :=
  opQ_pure rfl rfl hn (fun c w ha => by simp [execOp, resolve, invoke, builtin, Builtin.len_, ha.ev hx, i.run, goInt]) next
theorem lnLY {a : Option Addr} {l c e k : Nat} [i : SlT P T e k] (hx : ev s x = some (.slice a l c)) :
    Yl P g n s L ⟨some d, .call ⟨.builtin .len, #[x], #[T]⟩, ty, pos, af, none⟩ (.int .i64 (l : Nat)) :=
  opY_pure rfl rfl (fun c w ha => by simp [execOp, resolve, invoke, builtin, Builtin.len_, ha.ev hx, i.run, goInt])
/-- The place of a slice's element. -/
theorem ia {b o l c e k : Nat} {kd : IntKind} {j : Int} [i : SlT P T e k] (hn : Nat.blt d n = true) (hx : ev s x = some (.slice (some ⟨b, o, none⟩) l c)) (hy : ev s y = some (.int kd j)) (hj : 0 ≤ j ∧ j < (l : Int))
    (next : At g n ((d, .pointer (some ⟨b, o + j.toNat * k, none⟩)) :: s) L (wpList P ops Q rest)) : At g n s L (wpList P ops Q (⟨some d, .indexAddr T x y, ty, pos, af, none⟩ :: rest)) :=
  op_pure rfl rfl hn (fun a w ha => by
    simp only [execOp, ha.ev hx, ha.ev hy]
    simp [Instr.indexAt, asIntOf, i.run, i.size, hj.1, hj.2, add_off]) next
theorem iaQ {b o l c e k : Nat} {kd : IntKind} {j : Int} [i : SlT P T e k] (hn : Nat.blt d n = true) (hx : ev s x = some (.slice (some ⟨b, o, none⟩) l c)) (hy : ev s y = some (.int kd j)) (hj : 0 ≤ j ∧ j < (l : Int))
    (next : AtQ P g n ((d, .pointer (some ⟨b, o + j.toNat * k, none⟩)) :: s) L ops Q rest) : AtQ P g n s L ops Q (⟨some d, .indexAddr T x y, ty, pos, af, none⟩ :: rest) :=
  opQ_pure rfl rfl hn (fun a w ha => by
    simp only [execOp, ha.ev hx, ha.ev hy]
    simp [Instr.indexAt, asIntOf, i.run, i.size, hj.1, hj.2, add_off]) next
theorem iaY {b o l c e k : Nat} {kd : IntKind} {j : Int} [i : SlT P T e k] (hx : ev s x = some (.slice (some ⟨b, o, none⟩) l c)) (hy : ev s y = some (.int kd j)) (hj : 0 ≤ j ∧ j < (l : Int)) :
    Yl P g n s L ⟨some d, .indexAddr T x y, ty, pos, af, none⟩ (.pointer (some ⟨b, o + j.toNat * k, none⟩)) :=
  opY_pure rfl rfl (fun a w ha => by
    simp only [execOp, ha.ev hx, ha.ev hy]
    simp [Instr.indexAt, asIntOf, i.run, i.size, hj.1, hj.2, add_off])
/-- A byte of a string. -/
theorem ixS {a : Str} {kd : IntKind} {j : Int} [i : StrT P T] (hn : Nat.blt d n = true) (hx : ev s x = some (.string a)) (hy : ev s y = some (.int kd j)) (hj : 0 ≤ j ∧ j < (a.size : Int))
    (next : At g n ((d, .int .u8 ((a.data.getD j.toNat 0).toNat : Nat)) :: s) L (wpList P ops Q rest)) : At g n s L (wpList P ops Q (⟨some d, .index T x y, ty, pos, af, none⟩ :: rest)) :=
  op_pure rfl rfl hn (fun c w ha => by
    simp only [execOp, ha.ev hx, ha.ev hy]
    simp [Instr.index, asIntOf, i.run, hj.1, hj.2]; rfl) next

theorem ixSQ {a : Str} {kd : IntKind} {j : Int} [i : StrT P T] (hn : Nat.blt d n = true) (hx : ev s x = some (.string a)) (hy : ev s y = some (.int kd j)) (hj : 0 ≤ j ∧ j < (a.size : Int))
    (next : AtQ P g n ((d, .int .u8 ((a.data.getD j.toNat 0).toNat : Nat)) :: s) L ops Q rest) : AtQ P g n s L ops Q (⟨some d, .index T x y, ty, pos, af, none⟩ :: rest) :=
  opQ_pure rfl rfl hn (fun c w ha => by
    simp only [execOp, ha.ev hx, ha.ev hy]
    simp [Instr.index, asIntOf, i.run, hj.1, hj.2]; rfl) next
theorem ixSY {a : Str} {kd : IntKind} {j : Int} [i : StrT P T] (hx : ev s x = some (.string a)) (hy : ev s y = some (.int kd j)) (hj : 0 ≤ j ∧ j < (a.size : Int)) :
    Yl P g n s L ⟨some d, .index T x y, ty, pos, af, none⟩ (.int .u8 ((a.data.getD j.toNat 0).toNat : Nat)) :=
  opY_pure rfl rfl (fun c w ha => by
    simp only [execOp, ha.ev hx, ha.ev hy]
    simp [Instr.index, asIntOf, i.run, hj.1, hj.2]; rfl)
/-! Operations under a guard -/
theorem yielded_of {a : Act} (ha : EnvOk n s a) {j t : Nat} {b : Bool} (hj : (ops[j]?).bind (·.dst) = some t) (hb : look s t = some (.bool b)) : yielded ops a.tmps j = some b := by
  have h := ha.has _ _ hb
  simp only [yielded, hj, Option.bind_some]
  rw [Array.getD_eq_getD_getElem?] at h
  cases e : a.tmps[t]? with
  | none => rw [e] at h; simp [undef] at h
  | some u => rw [e] at h; simp at h; subst h; rfl
theorem gskip {o : Oper} {j : Nat} {want b : Bool} {t d : Nat} (hg : o.guard = some (j, want)) (hj : (ops[j]?).bind (·.dst) = some t) (hb : look s t = some (.bool b)) (hne : (b == want) = false) (hd : o.dst = some d) (hn : Nat.blt d n = true)
    (next : At g n ((d, undef) :: s) L (wpList P ops Q rest)) : At g n s L (wpList P ops Q (o :: rest)) := by
  intro a w ha hw
  have hy := yielded_of (ops := ops) ha hj hb
  unfold wpList
  have : Region.wanted o (yielded ops a.tmps) = false := by simp [Region.wanted, hg, hy]; simpa using hne
  rw [if_neg (by simp [this]), hd]
  exact next _ _ (ha.put hn _) hw
theorem gskip0 {o : Oper} {j : Nat} {want b : Bool} {t : Nat} (hg : o.guard = some (j, want)) (hj : (ops[j]?).bind (·.dst) = some t) (hb : look s t = some (.bool b)) (hne : (b == want) = false) (hd : o.dst = none)
    (next : At g n s L (wpList P ops Q rest)) : At g n s L (wpList P ops Q (o :: rest)) := by
  intro a w ha hw
  have hy := yielded_of (ops := ops) ha hj hb
  unfold wpList
  have : Region.wanted o (yielded ops a.tmps) = false := by simp [Region.wanted, hg, hy]; simpa using hne
  rw [if_neg (by simp [this]), hd]
  exact next _ _ ha hw
theorem yielded_undef {a : Act} (ha : EnvOk n s a) {j t : Nat} (hj : (ops[j]?).bind (·.dst) = some t) (hb : look s t = some undef) : yielded ops a.tmps j = none := by
  have h := ha.has _ _ hb
  simp only [yielded, hj, Option.bind_some]
  rw [Array.getD_eq_getD_getElem?] at h
  cases e : a.tmps[t]? with
  | none => rfl
  | some u => rw [e] at h; simp at h; subst h; rfl
/-- The guard's own operation was skipped. -/
theorem gskipU {o : Oper} {j : Nat} {want : Bool} {t d : Nat} (hg : o.guard = some (j, want)) (hj : (ops[j]?).bind (·.dst) = some t) (hb : look s t = some undef) (hd : o.dst = some d) (hn : Nat.blt d n = true)
    (next : At g n ((d, undef) :: s) L (wpList P ops Q rest)) : At g n s L (wpList P ops Q (o :: rest)) := by
  intro a w ha hw
  have hy := yielded_undef (ops := ops) ha hj hb
  unfold wpList
  have : Region.wanted o (yielded ops a.tmps) = false := by simp [Region.wanted, hg, hy]
  rw [if_neg (by simp [this]), hd]
  exact next _ _ (ha.put hn _) hw
theorem gdo {dst : Option Tmp} {op : Op} {j : Nat} {want : Bool} {t : Nat} (hj : (ops[j]?).bind (·.dst) = some t) (hb : look s t = some (.bool want))
    (next : At g n s L (wpList P ops Q (⟨dst, op, ty, pos, af, none⟩ :: rest))) : At g n s L (wpList P ops Q (⟨dst, op, ty, pos, af, some (j, want)⟩ :: rest)) := by
  intro a w ha hw
  have hy := yielded_of (ops := ops) ha hj hb
  have h := next a w ha hw
  unfold wpList at h ⊢
  rw [if_pos (by simp [Region.wanted])] at h
  rw [if_pos (by simp [Region.wanted, hy])]
  exact h
/-- A slot that holds a Bool: part on it. -/
theorem split {t : Nat} {b : Bool} {K : Act → World → Prop} (hb : look s t = some (.bool b)) (h1 : b = true → At g n ((t, .bool true) :: s) L K) (h0 : b = false → At g n ((t, .bool false) :: s) L K) : At g n s L K := by
  intro a w ha hw
  cases b with
  | true =>
    refine h1 rfl a w ⟨ha.size, ha.defers, fun u v q => ?_⟩ hw
    simp only [look] at q
    by_cases e : t = u
    · subst e; simp at q; subst q; exact ha.has _ _ hb
    · have : Nat.beq t u = false := by cases hq : Nat.beq t u with | false => rfl | true => exact absurd (Nat.eq_of_beq_eq_true hq) e
      simp [this] at q; exact ha.has _ _ q
  | false =>
    refine h0 rfl a w ⟨ha.size, ha.defers, fun u v q => ?_⟩ hw
    simp only [look] at q
    by_cases e : t = u
    · subst e; simp at q; subst q; exact ha.has _ _ hb
    · have : Nat.beq t u = false := by cases hq : Nat.beq t u with | false => rfl | true => exact absurd (Nat.eq_of_beq_eq_true hq) e
      simp [this] at q; exact ha.has _ _ q

/-! Calls -/
def evs (s : Env) : List Operand → Option (List Value)
  | [] => some []
  | x :: r => match ev s x, evs s r with
    | some v, some vs => some (v :: vs)
    | _, _ => none
theorem EnvOk.evs {a : Act} (e : EnvOk n s a) : ∀ {xs : List Operand} {vs : List Value}, Sl.evs s xs = some vs → xs.map a.eval = vs
  | [], _, h => by simp [Sl.evs] at h; subst h; rfl
  | x :: r, vs, h => by
    simp only [Sl.evs] at h
    split at h
    · rename_i v us h1 h2
      cases h
      rw [List.map_cons, e.ev h1, EnvOk.evs e h2]
    · cases h
/-- What a function does, in whatever memory lies beside. -/
def Fnc (P : Program) (f : FuncId) (args : List Value) (L : List HP) (R : Value → List HP → Prop) : Prop :=
  ∀ (g w : World) (F : HP), Sat g w (L ++ [F]) → Calls P f args.toArray w fun e w' => ∃ v L', e = .returned v ∧ R v L' ∧ Sat g w' (L' ++ [F])
theorem app_frame {L R : List HP} {h : Hp} : Sats (L ++ R) h ↔ Sats (L ++ [Sats R]) h := by
  constructor
  · intro s
    obtain ⟨h1, h2, d, l1, l2, s1, s2⟩ := Sats.app.1 s
    exact Sats.app.2 ⟨h1, h2, d, l1, l2, s1, h2, fun _ => none, fun _ => .inr rfl, Hp.le_refl _, fun _ _ e => (by cases e), s2, trivial⟩
  · intro s
    obtain ⟨h1, h2, d, l1, l2, s1, s2⟩ := Sats.app.1 s
    exact Sats.app.2 ⟨h1, h2, d, l1, l2, s1, by have := Sats.flat s2; simpa using this⟩
/-- A call of a function by its contract. -/
theorem cl {f : FuncId} {xs : List Operand} {vs : List Value} {ats : Array TypeId} {L1 R : List HP} {Q1 : Value → List HP → Prop} [c : Ca P f] (spec : Fnc P f vs L1 Q1) (hn : Nat.blt d n = true) (hx : evs s xs = some vs) [p : Pick L1 L R]
    (next : ∀ v L', Q1 v L' → At g n ((d, v) :: s) (L' ++ R) (wpList P ops Q rest)) : At g n s L (wpList P ops Q (⟨some d, .call ⟨.value (.func f), xs.toArray, ats⟩, ty, pos, af, none⟩ :: rest)) := by
  intro a w ha hw
  have hc := spec g w (Sats R) (hw.imp fun h q => app_frame.1 (p.pick h q))
  refine wpList_plain rfl fun K hK => ?_
  unfold Oper.wp
  have hr : (execOp a.eval ⟨some d, .call ⟨.value (.func f), xs.toArray, ats⟩, ty, pos, af, none⟩).run P w = .ok (.enter f vs.toArray) w := by
    have := ha.evs hx
    simp [execOp, resolve, Deferred.ofValue, Act.eval, invoke, this, c.run]
  rw [hr, Oper.upon_enter]
  refine hc.mono ?_
  rintro e w' ⟨v, L', rfl, hq, hs⟩
  exact hK _ _ (next v L' hq _ _ (ha.put hn _) (hs.imp fun h q => app_frame.2 q))
end rules2

/-! ### Rules for code -/
section code
variable {P : Program} {g : World} {n : Nat} {s : Env} {L : List HP} {Q : Exit → Act → World → Prop} {ops : Array Oper} {K : Act → World → Prop}

theorem sq {c1 c2 : Code} (h : At g n s L (c1.wp P (Exit.then (c2.wp P Q) Q))) : At g n s L ((Code.seq c1 c2).wp P Q) := fun a w ha hw => wp_seq (h a w ha hw)
theorem rg {id : Nat} {l : List Oper} (h : At g n s L (wpList P l.toArray Q l)) : At g n s L ((Code.region id l.toArray false).wp P Q) := fun a w ha hw => wp_region_lit (h a w ha hw)
theorem en (h : At g n s L (Q .normal)) : At g n s L (wpList P ops Q []) := fun a w ha hw => h a w ha hw
theorem sk (h : At g n s L (Q .normal)) : At g n s L (Code.skip.wp P Q) := fun a w ha hw => wp_skip (h a w ha hw)
theorem thenN (h : At g n s L K) : At g n s L (Exit.then K Q .normal) := h
theorem thenE {i : Nat} (h : At g n s L (Q (.exit i))) : At g n s L (Exit.then K Q (.exit i)) := h
theorem thenR (h : At g n s L (Q .ret)) : At g n s L (Exit.then K Q .ret) := h
theorem blkN {i : Nat} (h : At g n s L (Q .normal)) : At g n s L (Exit.inBlock i Q .normal) := h
theorem blkR {i : Nat} (h : At g n s L (Q .ret)) : At g n s L (Exit.inBlock i Q .ret) := h
theorem blkE {i : Nat} (h : At g n s L (Q .normal)) : At g n s L (Exit.inBlock i Q (.exit i)) := fun a w ha hw => by
  simp only [Exit.inBlock, if_true]; exact h a w ha hw
theorem blkX {i j : Nat} (hne : Nat.beq j i = false) (h : At g n s L (Q (.exit j))) : At g n s L (Exit.inBlock i Q (.exit j)) := fun a w ha hw => by
  have : j ≠ i := fun e => by subst e; simp at hne
  simp only [Exit.inBlock, if_neg this]; exact h a w ha hw
theorem bl {id : Nat} {c : Code} (h : At g n s L (c.wp P (Exit.inBlock id Q))) : At g n s L ((Code.block id c).wp P Q) := fun a w ha hw => wp_block (h a w ha hw)
theorem xi {id : Nat} (h : At g n s L (Q (.exit id))) : At g n s L ((Code.exit id).wp P Q) := fun a w ha hw => wp_exit (h a w ha hw)
theorem rt (h : At g n s L (Q .ret)) : At g n s L (Code.ret.wp P Q) := fun a w ha hw => wp_ret (h a w ha hw)
theorem cd {x : Operand} {c1 c2 : Code} {b : Bool} (hx : ev s x = some (.bool b)) (h1 : b = true → At g n s L (c1.wp P Q)) (h0 : b = false → At g n s L (c2.wp P Q)) : At g n s L ((Code.cond x c1 c2).wp P Q) :=
  fun a w ha hw => wp_cond_split (ha.ev hx) (fun e => h1 e a w ha hw) (fun e => h0 e a w ha hw)
theorem cdP {x : Operand} {c1 c2 : Code} {p : Prop} {i : Decidable p} (hx : ev s x = some (.bool (@decide p i))) (h1 : p → At g n s L (c1.wp P Q)) (h0 : ¬ p → At g n s L (c2.wp P Q)) : At g n s L ((Code.cond x c1 c2).wp P Q) :=
  cd hx (fun e => h1 (of_decide_eq_true e)) (fun e => h0 (of_decide_eq_false e))
theorem cdT {x : Operand} {c1 c2 : Code} (hx : ev s x = some (.bool true)) (h : At g n s L (c1.wp P Q)) : At g n s L ((Code.cond x c1 c2).wp P Q) :=
  fun a w ha hw => wp_cond_true (ha.ev hx) (h a w ha hw)
theorem cdF {x : Operand} {c1 c2 : Code} (hx : ev s x = some (.bool false)) (h : At g n s L (c2.wp P Q)) : At g n s L ((Code.cond x c1 c2).wp P Q) :=
  fun a w ha hw => wp_cond_false (ha.ev hx) (h a w ha hw)
/-- A loop: I m s L: the states at a round's head from which at most m rounds are to come. -/
theorem lp {c : Code} (I : Nat → Env → List HP → Prop) {m : Nat} (h0 : I m s L)
    (round : ∀ m s L, I m s L → At g n s L (c.wp P (Exit.then (fun a w => ∃ m' s' L', m' < m ∧ I m' s' L' ∧ EnvOk n s' a ∧ Sat g w L') Q))) : At g n s L ((Code.loop c).wp P Q) := by
  intro a w ha hw b k cs
  have key : ∀ m a w, (∃ s L, I m s L ∧ EnvOk n s a ∧ Sat g w L) → ∃ e a' w', Q e a' w' ∧ Arrives P (lone (b.at a (.code c :: .inLoop c :: k)) cs w) b k cs e a' w' := by
    intro m
    induction m using Nat.strongRecOn with
    | _ m ih =>
      rintro a w ⟨s, L, hI, ha, hw⟩
      obtain ⟨e, a1, w1, hq, harr⟩ := round m s L hI a w ha hw b (.inLoop c :: k) cs
      cases e with
      | normal =>
        obtain ⟨m', s', L', hlt, hI', ha', hw'⟩ := hq
        obtain ⟨e2, a2, w2, hq2, harr2⟩ := ih m' hlt a1 w1 ⟨s', L', hI', ha', hw'⟩
        exact ⟨e2, a2, w2, hq2, .of_steps (Steps.trans harr (.one step_inLoop)) harr2⟩
      | exit id => exact ⟨_, a1, w1, hq, .pass (x := .inLoop c) rfl (fun _ _ => .inl (by simp)) harr⟩
      | goto l => exact ⟨_, a1, w1, hq, .pass (x := .inLoop c) rfl (fun _ _ => .inl (by simp)) harr⟩
      | ret => exact ⟨_, a1, w1, hq, .pass (x := .inLoop c) rfl (fun _ _ => .inl (by simp)) harr⟩
      | panic ch => exact ⟨_, a1, w1, hq, .pass (x := .inLoop c) rfl (fun _ _ => .inl (by simp)) harr⟩
      | outgrown => exact ⟨_, a1, w1, hq, .pass (x := .inLoop c) rfl (fun _ _ => .inl (by simp)) harr⟩
  obtain ⟨e, a', w', hq, harr⟩ := key m a w ⟨s, L, h0, ha, hw⟩
  exact ⟨e, a', w', hq, .of_steps (.one step_loop) harr⟩
/-- The round's end: a state of the loop's again, with fewer rounds to come. -/
theorem again {I : Nat → Env → List HP → Prop} {m m' : Nat} {s' : Env} {L' : List HP} (hI : I m' s' L') (hm : m' < m) (hs : EnvSub s s') (hL : ∀ h, Sats L h → Sats L' h) :
    At g n s L (fun a w => ∃ m' s' L', m' < m ∧ I m' s' L' ∧ EnvOk n s' a ∧ Sat g w L') :=
  fun _ _ ha hw => ⟨m', s', L', hm, hI, ha.sub hs, hw.imp hL⟩
/-- Less is known. -/
theorem weak {s' : Env} {L' : List HP} (hs : EnvSub s s') (hL : ∀ h, Sats L h → Sats L' h) (h : At g n s' L' K) : At g n s L K := fun a w ha hw => h a w (ha.sub hs) (hw.imp hL)
theorem weakS {s' : Env} (hs : EnvSub s s') (h : At g n s' L K) : At g n s L K := fun a w ha hw => h a w (ha.sub hs) hw
theorem weakL {L' : List HP} (hL : ∀ h, Sats L h → Sats L' h) (h : At g n s L' K) : At g n s L K := fun a w ha hw => h a w ha (hw.imp hL)
/-- The loop's begin: from whatever state into one of the loop's. -/
theorem lp0 {c : Code} (I : Nat → Env → List HP → Prop) (m : Nat) (s' : Env) (L' : List HP) (h0 : I m s' L') (hs : EnvSub s s') (hL : ∀ h, Sats L h → Sats L' h)
    (round : ∀ m s L, I m s L → At g n s L (c.wp P (Exit.then (fun a w => ∃ m' s' L', m' < m ∧ I m' s' L' ∧ EnvOk n s' a ∧ Sat g w L') Q))) : At g n s L ((Code.loop c).wp P Q) :=
  weak hs hL (lp I h0 round)
/-- What memory says, as a plain fact. -/
theorem know {p : Prop} (hp : ∀ h, Sats L h → p) (h : p → At g n s L K) : At g n s L K := fun a w ha hw => h (hp _ hw.mem) a w ha hw
/-- An assertion is taken apart: there is an x with which it is a list of others. -/
theorem opn {α : Type} (A : HP) {R : List HP} (f : α → List HP) [t : Take A L R] (hA : ∀ h, A h → ∃ x, Sats (f x) h) (h : ∀ x, At g n s (f x ++ R) K) : At g n s L K := fun a w ha hw => by
  obtain ⟨h1, h2, d, l1, l2, hh, hr⟩ := t.fwd _ hw.mem
  obtain ⟨x, hx⟩ := hA _ hh
  exact h x a w ha ⟨hw.os, hw.tape, hw.output, hw.size, Sats.app.2 ⟨h1, h2, d, l1, l2, hx, hr⟩⟩
/-- Some assertions become one. -/
theorem shut (A : HP) (M : List HP) {R : List HP} [p : Pick M L R] (hA : ∀ h, Sats M h → A h) (h : At g n s (A :: R) K) : At g n s L K :=
  weakL (fun _ q => by
    obtain ⟨h1, h2, d, l1, l2, s1, s2⟩ := Sats.app.1 (p.pick _ q)
    exact ⟨h1, h2, d, l1, l2, hA _ s1, s2⟩) h
theorem perm {L' R : List HP} [p : Pick L' L R] : ∀ h, Sats L h → Sats L' h := fun h q => by
  obtain ⟨h1, h2, d, l1, l2, s1, s2⟩ := Sats.app.1 (p.pick _ q)
  exact s1.mono l1

/-! A function's begin and end -/
def slotsOf : Nat → List Value → Env
  | _, [] => []
  | i, v :: vs => (i, v) :: slotsOf (i + 1) vs
theorem look_slotsOf : ∀ {i t : Nat} {vs : List Value} {v : Value}, look (slotsOf i vs) t = some v → i ≤ t ∧ vs[t - i]? = some v
  | i, t, [], v, h => by simp [slotsOf, look] at h
  | i, t, u :: vs, v, h => by
    simp only [slotsOf, look] at h
    by_cases e : i = t
    · subst e; simp at h; subst h; simp
    · have : Nat.beq i t = false := by cases hq : Nat.beq i t with | false => rfl | true => exact absurd (Nat.eq_of_beq_eq_true hq) e
      simp [this] at h
      obtain ⟨h1, h2⟩ := look_slotsOf h
      refine ⟨by omega, ?_⟩
      rw [show t - i = (t - (i + 1)) + 1 from by omega]; simpa using h2
/-- What is to be shown where a function's body is left. -/
def Post (P : Program) (fn : Func) (g : World) (F : HP) (R : Value → List HP → Prop) : Exit → Act → World → Prop :=
  bodyPost P fn fun e w' => ∃ v L', e = .returned v ∧ R v L' ∧ Sat g w' (L' ++ [F])
theorem fn_intro {f : FuncId} {fn : Func} {args : List Value} {R : Value → List HP → Prop} (hf : P.funcs[f]? = some fn) (hb : fn.body.isSome = true) (hm : fn.ntmps = n) (hn : Nat.ble args.length n = true)
    (h : ∀ g F, At g n (slotsOf 0 args) (L ++ [F]) ((bodyOf fn).wp P (Post P fn g F R))) : Fnc P f args L R := by
  intro g w F hw
  have hle : args.length ≤ n := Nat.le_of_ble_eq_true hn
  have hbody : fn.body = some (bodyOf fn) := by
    unfold bodyOf
    cases e : fn.body with
    | none => rw [e] at hb; cases hb
    | some c => rfl
  refine calls_of_wp hf hbody (h g F _ w ⟨?_, rfl, fun t v hl => ?_⟩ hw)
  · simp [hm]; omega
  · obtain ⟨_, h2⟩ := look_slotsOf hl
    simp at h2
    have : t < args.length := by
      rcases Nat.lt_or_ge t args.length with q | q
      · exact q
      · rw [List.getElem?_eq_none q] at h2; cases h2
    rw [List.getElem?_eq_getElem this] at h2
    simp [Array.getElem?_append, this]
    injection h2
theorem ret1 {fn : Func} {t : Tmp} {F : HP} {R : Value → List HP → Prop} {v : Value} (L' : List HP) (hr : fn.results = #[.tmp t]) (ht : look s t = some v) (hR : R v L') (hL : ∀ h, Sats L h → Sats (L' ++ [F]) h) :
    At g n s L (Post P fn g F R .ret) := fun a w ha hw => by
  refine ⟨ha.defers, v, ?_, v, L', rfl, hR, hw.imp hL⟩
  rw [results_tmp hr, ha.has _ _ ht]
theorem ret0 {fn : Func} {F : HP} {R : Value → List HP → Prop} (L' : List HP) (hr : fn.results = #[]) (hR : R (.tuple #[]) L') (hL : ∀ h, Sats L h → Sats (L' ++ [F]) h) :
    At g n s L (Post P fn g F R .ret) := fun a w ha hw => by
  refine ⟨ha.defers, .tuple #[], ?_, .tuple #[], L', rfl, hR, hw.imp hL⟩
  rw [results_none hr]
theorem ret0N {fn : Func} {F : HP} {R : Value → List HP → Prop} (L' : List HP) (hr : fn.results = #[]) (hR : R (.tuple #[]) L') (hL : ∀ h, Sats L h → Sats (L' ++ [F]) h) :
    At g n s L (Post P fn g F R .normal) := ret0 L' hr hR hL
theorem ret2 {fn : Func} {t1 t2 : Tmp} {F : HP} {R : Value → List HP → Prop} {v1 v2 : Value} (L' : List HP) (hr : fn.results = #[.tmp t1, .tmp t2]) (h1 : look s t1 = some v1) (h2 : look s t2 = some v2)
    (hR : R (.tuple [v1, v2].toArray) L') (hL : ∀ h, Sats L h → Sats (L' ++ [F]) h) : At g n s L (Post P fn g F R .ret) := fun a w ha hw => by
  refine ⟨ha.defers, .tuple #[v1, v2], ?_, _, L', rfl, hR, hw.imp hL⟩
  rw [results_tmp2 hr, ha.has _ _ h1, ha.has _ _ h2]
theorem ret3 {fn : Func} {t1 t2 t3 : Tmp} {F : HP} {R : Value → List HP → Prop} {v1 v2 v3 : Value} (L' : List HP) (hr : fn.results = #[.tmp t1, .tmp t2, .tmp t3]) (h1 : look s t1 = some v1) (h2 : look s t2 = some v2) (h3 : look s t3 = some v3)
    (hR : R (.tuple [v1, v2, v3].toArray) L') (hL : ∀ h, Sats L h → Sats (L' ++ [F]) h) : At g n s L (Post P fn g F R .ret) := fun a w ha hw => by
  refine ⟨ha.defers, .tuple #[v1, v2, v3], ?_, _, L', rfl, hR, hw.imp hL⟩
  simp [results, hr, ha.get h1, ha.get h2, ha.get h3]
theorem ret4 {fn : Func} {t1 t2 t3 t4 : Tmp} {F : HP} {R : Value → List HP → Prop} {v1 v2 v3 v4 : Value} (L' : List HP) (hr : fn.results = #[.tmp t1, .tmp t2, .tmp t3, .tmp t4]) (h1 : look s t1 = some v1) (h2 : look s t2 = some v2) (h3 : look s t3 = some v3) (h4 : look s t4 = some v4)
    (hR : R (.tuple [v1, v2, v3, v4].toArray) L') (hL : ∀ h, Sats L h → Sats (L' ++ [F]) h) : At g n s L (Post P fn g F R .ret) := fun a w ha hw => by
  refine ⟨ha.defers, .tuple #[v1, v2, v3, v4], ?_, _, L', rfl, hR, hw.imp hL⟩
  simp [results, hr, ha.get h1, ha.get h2, ha.get h3, ha.get h4]
/-- A struct result: it lies in a variable. -/
theorem retC {fn : Func} {t T b o B k : Nat} {cs vs : List Value} {fl : List Value → List HP} {F : HP} {R : Value → List HP → Prop} (L' : List HP) (hr : fn.results = #[.cell t T]) [ag : Ag P T k] (h1 : look s t = some (.pointer (some ⟨b, o, none⟩))) [i : HasB b B cs L fl]
    (hv : sub cs o k = some vs) (hR : R (.agg vs.toArray) L') (hL : ∀ h, Sats L h → Sats (L' ++ [F]) h) : At g n s L (Post P fn g F R .ret) := fun a w ha hw => by
  refine ⟨ha.defers, .agg vs.toArray, ?_, _, L', rfl, hR, hw.imp hL⟩
  have hc := run_loadCells (P := P) (i.read hw) hv
  simp [results, hr, ha.get h1, asAddr, loadVar, ag.agg, ag.size, hc]
theorem retC1 {fn : Func} {t T b o B k t2 : Nat} {cs vs : List Value} {v2 : Value} {fl : List Value → List HP} {F : HP} {R : Value → List HP → Prop} (L' : List HP) (hr : fn.results = #[.cell t T, .tmp t2]) [ag : Ag P T k] (h1 : look s t = some (.pointer (some ⟨b, o, none⟩))) [i : HasB b B cs L fl]
    (hv : sub cs o k = some vs) (h2 : look s t2 = some v2) (hR : R (.tuple [.agg vs.toArray, v2].toArray) L') (hL : ∀ h, Sats L h → Sats (L' ++ [F]) h) : At g n s L (Post P fn g F R .ret) := fun a w ha hw => by
  refine ⟨ha.defers, .tuple #[.agg vs.toArray, v2], ?_, _, L', rfl, hR, hw.imp hL⟩
  have hc := run_loadCells (P := P) (i.read hw) hv
  simp [results, hr, ha.get h1, ha.get h2, asAddr, loadVar, ag.agg, ag.size, hc]
/-- Ways meet again: behind the code c the states are among those of I. -/
theorem cut {c : Code} (I : Env → List HP → Prop) (h1 : At g n s L (c.wp P (Exit.then (fun a w => ∃ s' L', I s' L' ∧ EnvOk n s' a ∧ Sat g w L') Q))) (h2 : ∀ s' L', I s' L' → At g n s' L' K) :
    At g n s L (c.wp P (Exit.then K Q)) := fun a w ha hw => by
  refine wp_mono (h1 a w ha hw) fun e a' w' q => ?_
  cases e with
  | normal => obtain ⟨s', L', hI, ha', hw'⟩ := q; exact h2 s' L' hI a' w' ha' hw'
  | _ => exact q
theorem join {I : Env → List HP → Prop} {s' : Env} {L' : List HP} (hI : I s' L') (hs : EnvSub s s') (hL : ∀ h, Sats L h → Sats L' h) : At g n s L (fun a w => ∃ s' L', I s' L' ∧ EnvOk n s' a ∧ Sat g w L') :=
  fun _ _ ha hw => ⟨s', L', hI, ha.sub hs, hw.imp hL⟩
end code

/-! ### Regions that draw their order: operations that only read, one walk in the order of the text -/
section quiet0
variable {g : World} {n : Nat} {s : Env} {L : List HP} {Q : Exit → Act → World → Prop} {ops : Array Oper} {rest : List Oper}
variable {P : Program}
theorem rgQ {id : Nat} {l : List Oper} (hm : P.follows .mixedOrders = true) (hB : Region.lexB .any l.toArray = true) (h : AtQ P g n s L l.toArray Q l) : At g n s L ((Code.region id l.toArray true).wp P Q) :=
  fun a w ha hw => wp_region_quiet (C := fun w => Sat g w L) hm hB hw.drew (by simpa using h a ha)
theorem enQ (h : At g n s L (Q .normal)) : AtQ P g n s L ops Q [] := fun a ha w' hw' => h a w' ha hw'
theorem gskipQ {o : Oper} {j : Nat} {want b : Bool} {t d : Nat} (hg : o.guard = some (j, want)) (hj : (ops[j]?).bind (·.dst) = some t) (hb : look s t = some (.bool b)) (hne : (b == want) = false) (hd : o.dst = some d) (hn : Nat.blt d n = true)
    (next : AtQ P g n ((d, undef) :: s) L ops Q rest) : AtQ P g n s L ops Q (o :: rest) := by
  intro a ha
  have hy := yielded_of (ops := ops) ha hj hb
  unfold wpQuiet
  have : Region.wanted o (yielded ops a.tmps) = false := by simp [Region.wanted, hg, hy]; simpa using hne
  rw [if_neg (by simp [this]), hd]
  exact next _ (ha.put hn _)
theorem gskipUQ {o : Oper} {j : Nat} {want : Bool} {t d : Nat} (hg : o.guard = some (j, want)) (hj : (ops[j]?).bind (·.dst) = some t) (hb : look s t = some undef) (hd : o.dst = some d) (hn : Nat.blt d n = true)
    (next : AtQ P g n ((d, undef) :: s) L ops Q rest) : AtQ P g n s L ops Q (o :: rest) := by
  intro a ha
  have hy := yielded_undef (ops := ops) ha hj hb
  unfold wpQuiet
  have : Region.wanted o (yielded ops a.tmps) = false := by simp [Region.wanted, hg, hy]
  rw [if_neg (by simp [this]), hd]
  exact next _ (ha.put hn _)
theorem gdoQ {dst : Option Tmp} {op : Op} {ty : TypeId} {pos : String} {af : Array Edge} {j : Nat} {want : Bool} {t : Nat} (hj : (ops[j]?).bind (·.dst) = some t) (hb : look s t = some (.bool want))
    (next : AtQ P g n s L ops Q (⟨dst, op, ty, pos, af, none⟩ :: rest)) : AtQ P g n s L ops Q (⟨dst, op, ty, pos, af, some (j, want)⟩ :: rest) := by
  intro a ha
  have hy := yielded_of (ops := ops) ha hj hb
  have h := next a ha
  unfold wpQuiet at h ⊢
  rw [if_pos (by simp [Region.wanted])] at h
  rw [if_pos (by simp [Region.wanted, hy])]
  exact h
theorem EnvOk.cons {a : Act} (ha : EnvOk n s a) {t : Nat} {v : Value} (h : look s t = some v) : EnvOk n ((t, v) :: s) a := by
  refine ⟨ha.size, ha.defers, fun u r q => ?_⟩
  simp only [look] at q
  by_cases e : t = u
  · subst e; simp at q; subst q; exact ha.has _ _ h
  · have : Nat.beq t u = false := by cases hq : Nat.beq t u with | false => rfl | true => exact absurd (Nat.eq_of_beq_eq_true hq) e
    simp [this] at q; exact ha.has _ _ q
theorem splitQ {t : Nat} {b : Bool} (hb : look s t = some (.bool b)) (h1 : b = true → AtQ P g n ((t, .bool true) :: s) L ops Q rest) (h0 : b = false → AtQ P g n ((t, .bool false) :: s) L ops Q rest) : AtQ P g n s L ops Q rest := by
  intro a ha
  cases b with
  | true => exact h1 rfl a (ha.cons hb)
  | false => exact h0 rfl a (ha.cons hb)
theorem clQ {f d : Nat} {xs : List Operand} {vs : List Value} {v : Value} {ats : Array TypeId} {ty : TypeId} {pos : String} {af : Array Edge} {L1 R : List HP} [c : Ca P f] (spec : Fnc P f vs L1 (fun v' L' => v' = v ∧ L' = L1)) (hn : Nat.blt d n = true) (hx : evs s xs = some vs) [p : Pick L1 L R]
    (next : AtQ P g n ((d, v) :: s) L ops Q rest) : AtQ P g n s L ops Q (⟨some d, .call ⟨.value (.func f), xs.toArray, ats⟩, ty, pos, af, none⟩ :: rest) := by
  intro a ha
  unfold wpQuiet
  rw [if_pos (by simp [Region.wanted])]
  refine ⟨v, fun w hw => ?_, next _ (ha.put hn _)⟩
  unfold Oper.quietAt
  have hr : (execOp a.eval ⟨some d, .call ⟨.value (.func f), xs.toArray, ats⟩, ty, pos, af, none⟩).run P w = .ok (.enter f vs.toArray) w := by
    have := ha.evs hx
    simp [execOp, resolve, Deferred.ofValue, Act.eval, invoke, this, c.run]
  rw [hr]
  refine ⟨rfl, ?_⟩
  refine (spec g w (Sats R) (hw.imp fun h q => app_frame.1 (p.pick h q))).mono ?_
  rintro e w' ⟨u, L', rfl, ⟨rfl, rfl⟩, hs⟩
  exact ⟨rfl, hs.imp fun h q => p.back h (app_frame.2 q)⟩
end quiet0
end Go.Sl
