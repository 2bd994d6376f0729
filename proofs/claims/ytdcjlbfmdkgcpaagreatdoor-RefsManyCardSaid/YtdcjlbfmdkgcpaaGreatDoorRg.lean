/- Regions that draw their order and hold operations that act: what only reads is taken first. No program in sight. -/
import Derived.Test.YtdcjlbfmdkgcpaaGreatDoorAr
import Derived.OrdersHeld
set_option linter.unusedSimpArgs false
set_option linter.unusedSectionVars false
set_option linter.unusedVariables false
namespace Go.Sl
open Go.RowKit

section any
variable {P : Program} {md : Region.Mode} {ops : Array Oper} {Q : Exit → Act → World → Prop} {T : World → Prop} {ks qs : List Nat}

/-- Whatever order is picked from here on; behind each operation of ks the condition T holds. -/
def wpAnyT (P : Program) (md : Region.Mode) (ops : Array Oper) (Q : Exit → Act → World → Prop) (T : World → Prop) (ks : List Nat) : Nat → Array Bool → Act → World → Prop
  | 0, listed, a, w => Region.ready md ops listed = [] ∧ Q .normal a w
  | fuel + 1, listed, a, w => (Region.ready md ops listed = [] → Q .normal a w) ∧
      ∀ i ∈ Region.ready md ops listed, wpOp P ops Q i (fun a' w' => (ks.contains i = true → T w') ∧ wpAnyT P md ops Q T ks fuel (listed.setIfInBounds i true) a' w') a w
theorem wpAny_of_T : ∀ (fuel : Nat) (listed : Array Bool) (a : Act) (w : World), wpAnyT P md ops Q T ks fuel listed a w → wpAny P md ops Q fuel listed a w
  | 0, _, _, _, h => h
  | fuel + 1, _, _, _, h => ⟨h.1, fun i hi => wpOp_mono (fun a' w' h' => wpAny_of_T fuel _ a' w' h'.2) (h.2 i hi)⟩
/-- Each operation that is not in ks waits for all of qs (but itself). -/
def keepsB (md : Region.Mode) (ops : Array Oper) (ks qs : List Nat) : Bool :=
  (List.range ops.size).all fun j => ks.contains j || qs.all fun i => i == j || match ops[j]? with
    | some oj => oj.after.any fun e => Region.binds md e && e.on == i
    | none => true
theorem keepsB_ready (h : keepsB md ops ks qs = true) {i j : Nat} {listed : Array Bool} (hi : i ∈ qs) (hun : listed.getD i false = false) (hj : j ∈ Region.ready md ops listed) (hne : j ≠ i) : ks.contains j = true := by
  obtain ⟨hjun, oj, hoj, hall⟩ := mem_ready.1 hj
  have hlt : j < ops.size := (Array.getElem?_eq_some_iff.1 hoj).1
  simp only [keepsB, List.all_eq_true, List.mem_range] at h
  have h1 := h j hlt
  rw [Bool.or_eq_true] at h1
  rcases h1 with h1 | h1
  · exact h1
  · rw [List.all_eq_true] at h1
    have h2 := h1 i hi
    simp only [hoj, Bool.or_eq_true, beq_iff_eq, hne.symm, false_or] at h2
    obtain ⟨e, he, hb⟩ := Array.any_eq_true'.1 h2
    simp only [Bool.and_eq_true, beq_iff_eq] at hb
    have := hall e he hb.1
    rw [hb.2, hun] at this; cases this
/-- An operation of qs that may come up now and only reads what T tells may be taken first. -/
theorem wpAnyT_first (hk : keepsB md ops ks qs = true) {i : Nat} {oi : Oper} {v : Value} (hi : ops[i]? = some oi) (hq : i ∈ qs) (hsel : ∀ (j : Nat) (o : Oper) cs b, ops[j]? = some o → o.op ≠ .select cs b)
    (hQ : ∀ c a w, Q (.panic c) (a.put oi.dst v) w → Q (.panic c) a w) :
    ∀ (fuel : Nat) (listed : Array Bool) (a : Act) (w : World),
      (∀ j oj, ops[j]? = some oj → j ≠ i → listed.getD j true = false → (∀ e ∈ oj.after, Region.binds md e = true → e.on ≠ i) → oi.apart ops oj = true) →
      i ∈ Region.ready md ops listed → YieldsIf P ops T oi v a → T w →
      wpAnyT P md ops Q T ks fuel (listed.setIfInBounds i true) (a.put oi.dst v) w → wpAnyT P md ops Q T ks (fuel + 1) listed a w := by
  intro fuel
  induction fuel with
  | zero =>
    intro listed a w _ hr hy hT H
    refine ⟨fun h => (by rw [h] at hr; cases hr), fun j hj => ?_⟩
    by_cases hji : j = i
    · subst hji; exact hy.wpOp hi hT ⟨fun _ => hT, H⟩
    · have := ready_mono hj hji
      rw [H.1] at this
      cases this
  | succ fuel ih =>
    intro listed a w hfree hr hy hT H
    refine ⟨fun h => (by rw [h] at hr; cases hr), fun j hj => ?_⟩
    by_cases hji : j = i
    · subst hji; exact hy.wpOp hi hT ⟨fun _ => hT, H⟩
    · have h1 := H.2 j (ready_mono hj hji)
      obtain ⟨hjun, oj, hoj, hall⟩ := mem_ready.1 hj
      have hiun : listed.getD i false = false := by
        have h0 := (mem_ready.1 hr).1
        rcases Nat.lt_or_ge i listed.size with h' | h'
        · simp [h'] at h0 ⊢; exact h0
        · simp [Array.getElem?_eq_none h'] at h0
      have hnot : ∀ e ∈ oj.after, Region.binds md e = true → e.on ≠ i := fun e he hb heq => by
        have h1 := hall e he hb
        rw [heq, hiun] at h1; cases h1
      have hjk := keepsB_ready hk hq hiun hj hji
      have h2 := wpOp_putIf hoj (hfree j oj hoj hji hjun hnot) (fun cs b => hsel i oi cs b hi) (fun cs b => hsel j oj cs b hoj) hQ hy h1
      have hfree' : ∀ k ok, ops[k]? = some ok → k ≠ i → (listed.setIfInBounds j true).getD k true = false →
          (∀ e ∈ ok.after, Region.binds md e = true → e.on ≠ i) → oi.apart ops ok = true := fun k ok hk' hki hun hno => by
        refine hfree k ok hk' hki ?_ hno
        by_cases hjk : j = k
        · subst hjk; exact hjun
        · rw [getD_set_ne true hjk] at hun; exact hun
      refine wpOp_mono (fun a' w' h3 => ⟨h3.2.1, ih (listed.setIfInBounds j true) a' w' hfree' (ready_mono hr (Ne.symm hji)) h3.1 (h3.2.1 hjk) ?_⟩) h2
      rw [Array.setIfInBounds_comm _ _ hji]
      exact h3.2.2
end any

section rules
variable {P : Program} {g : World} {n : Nat} {s : Env} {L TL : List HP} {Q : Exit → Act → World → Prop} {l : List Oper} {ks qs : List Nat} {fuel : Nat}

/-- Where a panic is left to, what stands in the slots does not matter. -/
class PanOk (Q : Exit → Act → World → Prop) : Prop where
  keep : ∀ (d : Option Tmp) (v : Value) c a w, Q (.panic c) (a.put d v) w → Q (.panic c) a w
instance PanOk.post {fn : Func} {F : HP} {R : Value → List HP → Prop} : PanOk (Post P fn g F R) := ⟨fun d v c a w h => by
  cases d <;> exact h⟩
instance PanOk.then {K : Act → World → Prop} [h : PanOk Q] : PanOk (Exit.then K Q) := ⟨fun d v c a w q => h.keep d v c a w q⟩
instance PanOk.block {i : Nat} [h : PanOk Q] : PanOk (Exit.inBlock i Q) := ⟨fun d v c a w q => h.keep d v c a w q⟩
/-- A state within such a region. TL: what the operations of qs read; lst: which have come up. -/
def AtT (P : Program) (g : World) (n : Nat) (s : Env) (L TL : List HP) (l : List Oper) (Q : Exit → Act → World → Prop) (ks qs : List Nat) (fuel : Nat) (lst : List Bool) : Prop :=
  keepsB .any l.toArray ks qs = true → Region.noSelect l.toArray = true → PanOk Q →
  ∀ a w, EnvOk n s a → Sat g w L → wpAnyT P .any l.toArray Q (fun w => Sat g w TL) ks fuel lst.toArray a w
/-- The region's begin. -/
theorem rgT {id : Nat} (TL : List HP) (ks qs : List Nat) (hm : P.follows .mixedOrders = true) (hk : keepsB .any l.toArray ks qs = true) (hs : Region.noSelect l.toArray = true)
    [hQ : PanOk Q] (h : AtT P g n s L TL l Q ks qs l.length (List.replicate l.length false)) : At g n s L ((Code.region id l.toArray true).wp P Q) := by
  intro a w ha hw
  refine wp_region_any hm (wpAny_of_T (T := fun w => Sat g w TL) (ks := ks) _ _ _ _ ?_)
  have := h hk hs hQ a w.drew ha hw.drew
  simpa using this
/-- Take number i first: it only reads. -/
theorem tk (i : Nat) {d : Nat} {oi : Oper} {v : Value} {lst lst' : List Bool} (hi : l[i]? = some oi) (y : Yl P g n s TL oi v) (hd : oi.dst = some d) (hn : Nat.blt d n = true) (hg : oi.guard = none) (hq : qs.contains i = true)
    (hf : Region.free .any l.toArray lst.toArray i = true) (hr : (Region.ready .any l.toArray lst.toArray).contains i = true) (hTL : ∀ h, Sats L h → Sats TL h) (hl : lst.set i true = lst')
    (next : AtT P g n ((d, v) :: s) L TL l Q ks qs fuel lst') : AtT P g n s L TL l Q ks qs (fuel + 1) lst := by
  intro hk hs hQ a w ha hw
  have hT : Sat g w TL := hw.imp hTL
  refine wpAnyT_first hk (by simpa using hi) (by simpa using hq) (Region.noSelect_spec hs) (fun c a w => hQ.keep _ _ c a w) fuel lst.toArray a w (Region.free_spec (by simpa using hi) hf) (by simpa using hr)
    (.inl ⟨by simp [Region.wanted, hg], fun w' hw' => y a w' ha hw'⟩) hT ?_
  have := next hk hs hQ (a.put oi.dst v) w (by rw [hd]; exact ha.put hn v) hw
  rw [← hl] at this
  simpa using this
/-- The way on behind an operation that was carried out. -/
def Bk (P : Program) (g : World) (TL : List HP) (l : List Oper) (Q : Exit → Act → World → Prop) (ks : List Nat) (i fuel : Nat) (lst : List Bool) : Act → World → Prop := fun a w =>
  (ks.contains i = true → Sat g w TL) ∧ wpAnyT P .any l.toArray Q (fun w => Sat g w TL) ks fuel lst.toArray a w
theorem wpOp_of_list {ops : Array Oper} {i : Nat} {o : Oper} {K : Act → World → Prop} {a : Act} {w : World} (ho : ops[i]? = some o) (hL : ∀ a w, K a w → K a w)
    (h : wpList P ops (Exit.then K Q) [o] a w) (hlet : LetsOut (Exit.then K Q) → LetsOut Q) : wpOp P ops Q i K a w := by
  unfold wpOp
  rw [ho]
  show if Region.wanted o (yielded ops a.tmps) = true then _ else _
  unfold wpList at h
  split
  · rename_i hw
    rw [if_pos hw] at h
    rcases h with h | ⟨h1, h2⟩
    · left
      unfold Oper.wp at h ⊢
      generalize (execOp a.eval o).run P w = r at h
      cases r with
      | ok x w' =>
        cases x <;> simp only [Oper.upon, wpList, Exit.then] at h ⊢ <;> first | exact h | skip
      | halt x w' => cases x <;> simp only [Oper.upon] at h ⊢ <;> exact h
    · exact .inr ⟨h1, hlet h2⟩
  · rename_i hw
    rw [if_neg hw] at h
    exact h
theorem letsOut_then {K : Act → World → Prop} (h : LetsOut (Exit.then K Q)) : LetsOut Q := h
/-- Just one operation may come up. -/
theorem rn1 (i : Nat) {oi : Oper} {lst lst' : List Bool} (hr : Region.ready .any l.toArray lst.toArray = [i]) (hi : l[i]? = some oi) (hl : lst.set i true = lst')
    (h : keepsB .any l.toArray ks qs = true → Region.noSelect l.toArray = true → PanOk Q → At g n s L (wpList P l.toArray (Exit.then (Bk P g TL l Q ks i fuel lst') Q) [oi])) :
    AtT P g n s L TL l Q ks qs (fuel + 1) lst := by
  intro hk hs hQ a w ha hw
  refine ⟨fun e => (by rw [hr] at e; cases e), fun j hj => ?_⟩
  rw [hr] at hj
  obtain rfl : j = i := by simpa using hj
  have := wpOp_of_list (K := Bk P g TL l Q ks j fuel lst') (by simpa using hi) (fun _ _ h => h) (h hk hs hQ a w ha hw) letsOut_then
  subst hl
  rw [List.setIfInBounds_toArray]; exact this
/-- One of two operations comes up next. -/
theorem rn2 (i j : Nat) {oi oj : Oper} {lst lsti lstj : List Bool} (hr : Region.ready .any l.toArray lst.toArray = [i, j]) (hi : l[i]? = some oi) (hj : l[j]? = some oj) (hli : lst.set i true = lsti) (hlj : lst.set j true = lstj)
    (h1 : keepsB .any l.toArray ks qs = true → Region.noSelect l.toArray = true → PanOk Q → At g n s L (wpList P l.toArray (Exit.then (Bk P g TL l Q ks i fuel lsti) Q) [oi]))
    (h2 : keepsB .any l.toArray ks qs = true → Region.noSelect l.toArray = true → PanOk Q → At g n s L (wpList P l.toArray (Exit.then (Bk P g TL l Q ks j fuel lstj) Q) [oj])) :
    AtT P g n s L TL l Q ks qs (fuel + 1) lst := by
  intro hk hs hQ a w ha hw
  refine ⟨fun e => (by rw [hr] at e; cases e), fun x hx => ?_⟩
  rw [hr] at hx
  rcases (by simpa using hx : x = i ∨ x = j) with rfl | rfl
  · have := wpOp_of_list (K := Bk P g TL l Q ks x fuel lsti) (by simpa using hi) (fun _ _ h => h) (h1 hk hs hQ a w ha hw) letsOut_then
    subst hli
    rw [List.setIfInBounds_toArray]; exact this
  · have := wpOp_of_list (K := Bk P g TL l Q ks x fuel lstj) (by simpa using hj) (fun _ _ h => h) (h2 hk hs hQ a w ha hw) letsOut_then
    subst hlj
    rw [List.setIfInBounds_toArray]; exact this
/-- Behind it: on within the region. -/
theorem bk {i : Nat} {lst : List Bool} (hk : keepsB .any l.toArray ks qs = true) (hs : Region.noSelect l.toArray = true) (hQ : PanOk Q)
    (hT : ks.contains i = true → ∀ h, Sats L h → Sats TL h) (h : AtT P g n s L TL l Q ks qs fuel lst) : At g n s L (Bk P g TL l Q ks i fuel lst) :=
  fun a w ha hw => ⟨fun e => hw.imp (hT e), h hk hs hQ a w ha hw⟩
/-- All have come up. -/
theorem dn {lst : List Bool} (hr : Region.ready .any l.toArray lst.toArray = []) (h : At g n s L (Q .normal)) : AtT P g n s L TL l Q ks qs fuel lst := by
  intro _ _ _ a w ha hw
  cases fuel with
  | zero => exact ⟨hr, h a w ha hw⟩
  | succ fuel => exact ⟨fun _ => h a w ha hw, by rw [hr]; simp⟩
end rules
end Go.Sl
