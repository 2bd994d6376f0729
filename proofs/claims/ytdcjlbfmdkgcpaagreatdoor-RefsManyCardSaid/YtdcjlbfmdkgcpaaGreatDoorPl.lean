/- Lists of pairs by rising keys: plain laws. No program in sight. -/
import Derived.Test.YtdcjlbfmdkgcpaaGreatDoorCv
set_option linter.unusedSimpArgs false
set_option linter.unusedSectionVars false
set_option linter.unusedVariables false
namespace Go.Sl
open Go.RowKit

/-! ### The order of strings -/
theorem bl_irrefl : ∀ x : List UInt8, Op.bytesLess x x = false
  | [] => rfl
  | a :: x => by simp [Op.bytesLess, bl_irrefl x]
theorem bl_trans : ∀ {x y z : List UInt8}, Op.bytesLess x y = true → Op.bytesLess y z = true → Op.bytesLess x z = true
  | _, [], _, h, _ => by simp [Op.bytesLess] at h
  | _, _ :: _, [], _, h => by simp [Op.bytesLess] at h
  | [], _ :: _, _ :: _, _, _ => rfl
  | a :: x, b :: y, c :: z, h, k => by
    simp only [Op.bytesLess, Bool.or_eq_true, decide_eq_true_eq, Bool.and_eq_true, beq_iff_eq] at h k ⊢
    rcases h with h | ⟨h1, h2⟩
    · rcases k with k | ⟨k1, k2⟩
      · exact .inl (UInt8.lt_trans h k)
      · exact .inl (k1 ▸ h)
    · rcases k with k | ⟨k1, k2⟩
      · exact .inl (h1 ▸ k)
      · exact .inr ⟨h1.trans k1, bl_trans h2 k2⟩
theorem bl_total : ∀ {x y : List UInt8}, Op.bytesLess x y = false → Op.bytesLess y x = false → x = y
  | [], [], _, _ => rfl
  | [], _ :: _, h, _ => by simp [Op.bytesLess] at h
  | _ :: _, [], _, h => by simp [Op.bytesLess] at h
  | a :: x, b :: y, h, k => by
    simp only [Op.bytesLess, Bool.or_eq_false_iff, decide_eq_false_iff_not, Bool.and_eq_false_iff, beq_eq_false_iff_ne] at h k
    have e : a = b := by
      have h1 : ¬ a.toNat < b.toNat := fun q => h.1 (UInt8.lt_iff_toNat_lt.2 q)
      have h2 : ¬ b.toNat < a.toNat := fun q => k.1 (UInt8.lt_iff_toNat_lt.2 q)
      exact UInt8.toNat_inj.1 (by omega)
    subst e
    rw [bl_total (h.2.resolve_left (fun q => q rfl)) (k.2.resolve_left (fun q => q rfl))]
theorem slt_irrefl (a : Str) : slt a a = false := bl_irrefl _
theorem slt_trans {a b c : Str} (h : slt a b = true) (k : slt b c = true) : slt a c = true := bl_trans h k
theorem slt_total {a b : Str} (h : slt a b = false) (k : slt b a = false) : a = b := toList_inj (bl_total h k)
theorem slt_asymm {a b : Str} (h : slt a b = true) : slt b a = false := by
  cases e : slt b a with
  | false => rfl
  | true => have := slt_trans h e; rw [slt_irrefl] at this; cases this
theorem slt_ne {a b : Str} (h : slt a b = true) : a ≠ b := fun e => by subst e; rw [slt_irrefl] at h; cases h
/-- a ≤ b < c -/
theorem sle_slt {a b c : Str} (h : slt b a = false) (k : slt b c = true) : slt a c = true := by
  cases e : slt a b with
  | true => exact slt_trans e k
  | false => rw [slt_total e h]; exact k
theorem slt_sle {a b c : Str} (h : slt a b = true) (k : slt c b = false) : slt a c = true := by
  cases e : slt b c with
  | true => exact slt_trans h e
  | false => rw [← slt_total e k]; exact h

/-! ### Sorted lists -/
abbrev Prs := List (Str × Str)
def Srt {V : Type} (l : List (Str × V)) : Prop := l.Pairwise fun p q => slt p.1 q.1 = true
theorem Srt.nodup {V : Type} {l : List (Str × V)} (h : Srt l) : (keysOf l).Nodup := by
  unfold keysOf
  rw [List.Nodup, List.pairwise_map]
  exact h.imp fun q => slt_ne q
theorem Srt.filter {V : Type} {l : List (Str × V)} (h : Srt l) (f : Str × V → Bool) : Srt (l.filter f) := List.Pairwise.filter f h
theorem Srt.uniq {V : Type} : ∀ {l l' : List (Str × V)}, Srt l → Srt l' → l.Perm l' → l = l'
  | [], l', _, _, p => by rw [p.symm.eq_nil]
  | a :: l, [], _, _, p => by rw [p.eq_nil]
  | a :: l, b :: l', h, h', p => by
    have e : a = b := by
      rcases List.mem_cons.1 (p.mem_iff.1 (List.mem_cons_self (a := a) (l := l))) with q | q
      · exact q
      · rcases List.mem_cons.1 (p.mem_iff.2 (List.mem_cons_self (a := b) (l := l'))) with r | r
        · exact r.symm
        · have h1 := (List.pairwise_cons.1 h).1 b r
          have h2 := (List.pairwise_cons.1 h').1 a q
          rw [slt_asymm h1] at h2; cases h2
    subst e
    rw [Srt.uniq (List.pairwise_cons.1 h).2 (List.pairwise_cons.1 h').2 (List.Perm.cons_inv p)]
theorem nodup_of_keys {V : Type} {a : List (Str × V)} (h : (keysOf a).Nodup) : a.Nodup := by
  unfold keysOf at h
  rw [List.Nodup, List.pairwise_map] at h
  exact h.imp fun q e => q (by rw [e])
theorem perm_of_mget {V : Type} {a b : List (Str × V)} (ha : (keysOf a).Nodup) (hb : (keysOf b).Nodup) (h : ∀ k, mget a k = mget b k) : a.Perm b := by
  have na : a.Nodup := nodup_of_keys ha
  have nb : b.Nodup := nodup_of_keys hb
  rw [List.perm_ext_iff_of_nodup na nb]
  rintro ⟨k, v⟩
  exact ⟨fun m => mget_mem (by rw [← h]; exact mem_mget ha m), fun m => mget_mem (by rw [h]; exact mem_mget hb m)⟩
/-- The sorted list of a map's pairs. -/
structure Rel (pl ml : Prs) : Prop where
  srt : Srt pl
  eq : ∀ k, mget pl k = mget ml k
theorem Rel.perm {pl ml : Prs} (r : Rel pl ml) (h : (keysOf ml).Nodup) : pl.Perm ml := perm_of_mget r.srt.nodup h r.eq

/-! ### A write put into a sorted list, as the definition's loop does it -/
def doneStep (w : Wr) (s : Prs × Bool) (p : Str × Str) : Prs × Bool :=
  let s := if !s.2 && !slt p.1 w.1 then (s.1 ++ [(w.1, w.2.1)], true) else s
  (if p.1 = w.1 then s.1 else s.1 ++ [p], s.2)
def doneP (pl : Prs) (w : Wr) : Prs := let s := pl.foldl (doneStep w) ([], w.2.2); if s.2 then s.1 else s.1 ++ [(w.1, w.2.1)]
theorem done_true (w : Wr) : ∀ (pl o : Prs), pl.foldl (doneStep w) (o, true) = (o ++ pl.filter (fun p => decide (p.1 ≠ w.1)), true)
  | [], o => by simp
  | p :: pl, o => by
    rw [List.foldl_cons]
    simp only [doneStep, Bool.not_true, Bool.false_and, Bool.false_eq_true, if_false]
    by_cases h : p.1 = w.1
    · simp [h, done_true w pl o]
    · simp [h, done_true w pl (o ++ [p])]
theorem done_false (w : Wr) : ∀ (pl o : Prs), Srt pl → (let s := pl.foldl (doneStep w) (o, false); if s.2 then s.1 else s.1 ++ [(w.1, w.2.1)]) = o ++ pl.filter (fun p => slt p.1 w.1) ++ [(w.1, w.2.1)] ++ pl.filter (fun p => slt w.1 p.1)
  | [], o, _ => by simp
  | p :: pl, o, h => by
    have hs := (List.pairwise_cons.1 h).2
    have hp := (List.pairwise_cons.1 h).1
    rw [List.foldl_cons]
    cases q : slt p.1 w.1 with
    | true =>
      have hne : ¬ p.1 = w.1 := slt_ne q
      simp only [doneStep, q, Bool.not_true, Bool.and_false, Bool.false_eq_true, if_false, if_neg hne]
      rw [done_false w pl (o ++ [p]) hs]
      simp [q, slt_asymm q]
    | false =>
      simp only [doneStep, q, Bool.not_false, Bool.and_true, if_true]
      have hgt : ∀ x ∈ pl, slt w.1 x.1 = true := fun x hx => sle_slt q (hp x hx)
      have e1 : pl.filter (fun p => decide (p.1 ≠ w.1)) = pl := List.filter_eq_self.2 fun x hx => by simp; exact (slt_ne (hgt x hx)).symm
      have e2 : pl.filter (fun p => slt p.1 w.1) = [] := List.filter_eq_nil_iff.2 fun x hx => by rw [slt_asymm (hgt x hx)]; simp
      have e3 : pl.filter (fun p => slt w.1 p.1) = pl := List.filter_eq_self.2 fun x hx => hgt x hx
      by_cases r : p.1 = w.1
      · rw [if_pos r, done_true, e1]
        simp [q, e2, e3, r, slt_irrefl]
      · rw [if_neg r, done_true, e1]
        have : slt w.1 p.1 = true := by
          cases e : slt w.1 p.1 with
          | true => rfl
          | false => exact absurd (slt_total q e) r
        simp [q, e2, e3, this]
theorem filter_split {pl : Prs} (h : Srt pl) (k : Str) : pl.filter (fun p => decide (p.1 ≠ k)) = pl.filter (fun p => slt p.1 k) ++ pl.filter (fun p => slt k p.1) := by
  induction pl with
  | nil => rfl
  | cons p pl ih =>
    have hs := (List.pairwise_cons.1 h).2
    have hp := (List.pairwise_cons.1 h).1
    simp only [List.filter_cons]
    cases q : slt p.1 k with
    | true => simp [slt_ne q, slt_asymm q]; simpa using ih hs
    | false =>
      have hgt : ∀ x ∈ pl, slt k x.1 = true := fun x hx => sle_slt q (hp x hx)
      have e1 : pl.filter (fun p => decide (p.1 ≠ k)) = pl := List.filter_eq_self.2 fun x hx => by simp; exact (slt_ne (hgt x hx)).symm
      have e2 : pl.filter (fun p => slt p.1 k) = [] := List.filter_eq_nil_iff.2 fun x hx => by rw [slt_asymm (hgt x hx)]; simp
      have e3 : pl.filter (fun p => slt k p.1) = pl := List.filter_eq_self.2 fun x hx => hgt x hx
      by_cases r : p.1 = k
      · rw [e1, e2, e3]; simp [r, slt_irrefl]
      · have : slt k p.1 = true := by
          cases e : slt k p.1 with
          | true => rfl
          | false => exact absurd (slt_total q e) r
        rw [e1, e2, e3]; simp [r, this]
theorem doneP_eq {pl : Prs} (h : Srt pl) (w : Wr) : doneP pl w = pl.filter (fun p => slt p.1 w.1) ++ (if w.2.2 then [] else [(w.1, w.2.1)]) ++ pl.filter (fun p => slt w.1 p.1) := by
  unfold doneP
  cases e : w.2.2 with
  | true =>
    simp only [e]
    rw [done_true]
    simp only [if_true, List.nil_append, List.append_nil]
    exact filter_split h w.1
  | false =>
    simp only [e]
    have := done_false w pl [] h
    simpa using this
theorem doneP_srt {pl : Prs} (h : Srt pl) (w : Wr) : Srt (doneP pl w) := by
  rw [doneP_eq h]
  have hlt : ∀ x ∈ pl.filter (fun p => slt p.1 w.1), slt x.1 w.1 = true := fun x hx => (List.mem_filter.1 hx).2
  have hgt : ∀ x ∈ pl.filter (fun p => slt w.1 p.1), slt w.1 x.1 = true := fun x hx => (List.mem_filter.1 hx).2
  unfold Srt
  rw [List.pairwise_append, List.pairwise_append]
  refine ⟨⟨h.filter _, by split <;> simp, fun a ha b hb => ?_⟩, h.filter _, fun a ha b hb => ?_⟩
  · split at hb
    · cases hb
    · simp at hb; subst hb; exact hlt a ha
  · rcases List.mem_append.1 ha with q | q
    · exact slt_trans (hlt a q) (hgt b hb)
    · split at q
      · cases q
      · simp at q; subst q; exact hgt b hb
theorem mget_append {V : Type} {a b : List (Str × V)} {k : Str} : mget (a ++ b) k = (mget a k).or (mget b k) := by
  induction a with
  | nil => simp [mget]
  | cons p a ih =>
    obtain ⟨k', v⟩ := p
    simp only [List.cons_append, mget]
    split
    · rfl
    · exact ih
theorem mget_filter {V : Type} {a : List (Str × V)} {f : Str → Bool} {k : Str} : mget (a.filter fun p => f p.1) k = if f k then mget a k else none := by
  induction a with
  | nil => simp [mget]
  | cons p a ih =>
    obtain ⟨k', v⟩ := p
    simp only [List.filter_cons]
    by_cases e : k' = k
    · subst e
      cases q : f k' with
      | true => simp [mget]
      | false => simp [q] at ih ⊢; exact ih
    · cases q : f k' with
      | true => simp only [if_true, mget, if_neg e]; exact ih
      | false => simp only [Bool.false_eq_true, if_false, mget, if_neg e]; exact ih
theorem doneP_get {pl : Prs} (h : Srt pl) (w : Wr) (k : Str) : mget (doneP pl w) k = if w.1 = k then (if w.2.2 then none else some w.2.1) else mget pl k := by
  rw [doneP_eq h, mget_append, mget_append, mget_filter (f := fun x => slt x w.1), mget_filter (f := fun x => slt w.1 x)]
  by_cases e : w.1 = k
  · subst e
    simp only [slt_irrefl, Bool.false_eq_true, if_false, if_true, Option.none_or, Option.or_none]
    split <;> simp [mget]
  · rw [if_neg e]
    have hm : mget (if w.2.2 then [] else [(w.1, w.2.1)]) k = none := by split <;> simp [mget, e]
    rw [hm]
    cases q : slt k w.1 with
    | true => simp [slt_asymm q]
    | false =>
      have : slt w.1 k = true := by
        cases r : slt w.1 k with
        | true => rfl
        | false => exact absurd (slt_total q r).symm e
      simp [this]
end Go.Sl
namespace Go.Sl
theorem Sats.comm {L M : List HP} {h : Hp} (s : Sats (L ++ M) h) : Sats (M ++ L) h := by
  obtain ⟨h1, h2, d, l1, l2, s1, s2⟩ := Sats.app.1 s
  exact Sats.app.2 ⟨h2, h1, Hp.disj_symm d, l2, l1, s2, s1⟩
/-- What stands behind some others, and before a last one, to the front. -/
theorem Sats.toFront {L M N : List HP} (h : Hp) (s : Sats (L ++ (M ++ N)) h) : Sats (M ++ (L ++ N)) h := by
  have h1 : Sats ((L ++ M) ++ N) h := by rw [List.append_assoc]; exact s
  obtain ⟨k1, k2, d, l1, l2, s1, s2⟩ := Sats.app.1 h1
  have := Sats.app.2 ⟨k1, k2, d, l1, l2, Sats.comm s1, s2⟩
  rw [List.append_assoc] at this
  exact this
end Go.Sl
