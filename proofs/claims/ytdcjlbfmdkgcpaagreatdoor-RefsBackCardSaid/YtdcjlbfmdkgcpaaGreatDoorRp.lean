/- Branches among sorted pairs: plain laws. -/
import Derived.Test.YtdcjlbfmdkgcpaaGreatDoorProg
import Derived.Test.YtdcjlbfmdkgcpaaGreatDoorRn
set_option linter.unusedSimpArgs false
set_option linter.unusedVariables false
namespace Go.Proofs.YtdcjlbfmdkgcpaaGreatDoor
open Go.Sl

/-! Lists of pairs and the branches in them: plain laws. -/
theorem rel_do {pl l : Prs} (r : Rel pl l) (hn : (keysOf l).Nodup) (w : Wr) : Rel (doneP pl w) (memDo l w) where
  srt := doneP_srt r.srt w
  eq k := by
    rw [doneP_get r.srt, r.eq]
    obtain ⟨a, b, c⟩ := w
    cases c
    · simp only [memDo, Bool.false_eq_true, if_false, mget_mset]
    · simp only [memDo, if_true, mget_mdel hn]
theorem rel_app {ws : List Wr} : ∀ {pl l : Prs}, Rel pl l → (keysOf l).Nodup → Rel (ws.foldl doneP pl) (memApp l ws) := by
  induction ws with
  | nil => intro pl l r _; exact r
  | cons w ws ih => intro pl l r hn; exact ih (rel_do r hn w) (memDo_nodup hn w)
theorem rel_nil : Rel [] [] := ⟨List.Pairwise.nil, fun _ => rfl⟩
theorem Rel.len {pl l : Prs} (r : Rel pl l) (hn : (keysOf l).Nodup) : pl.length = l.length := (r.perm hn).length_eq
theorem filter_doneP {pl : Prs} (h : Srt pl) (f : Str) (w : Wr) :
    (doneP pl w).filter (fun p => !slt p.1 f) = if slt w.1 f then pl.filter (fun p => !slt p.1 f) else doneP (pl.filter fun p => !slt p.1 f) w := by
  rw [doneP_eq h, doneP_eq (h.filter _)]
  simp only [List.filter_append, List.filter_filter]
  by_cases hk : slt w.1 f = true
  · rw [if_pos hk]
    have e1 : pl.filter (fun p => !slt p.1 f && slt p.1 w.1) = [] := by
      rw [List.filter_eq_nil_iff]
      intro p _ q
      simp only [Bool.and_eq_true, Bool.not_eq_true'] at q
      rw [slt_trans q.2 hk] at q; exact absurd q.1 (by simp)
    have e2 : (if w.2.2 = true then ([] : Prs) else [(w.1, w.2.1)]).filter (fun p => !slt p.1 f) = [] := by
      split
      · rfl
      · simp [hk]
    have e3 : pl.filter (fun p => !slt p.1 f && slt w.1 p.1) = pl.filter (fun p => !slt p.1 f) := by
      apply List.filter_congr
      intro p _
      cases q : slt p.1 f with
      | true => simp
      | false => simp [slt_sle hk q]
    rw [e1, e2, e3]; rfl
  · rw [if_neg hk]
    have e2 : (if w.2.2 = true then ([] : Prs) else [(w.1, w.2.1)]).filter (fun p => !slt p.1 f) = if w.2.2 = true then [] else [(w.1, w.2.1)] := by
      split
      · rfl
      · simp [hk]
    have e1 : ∀ g : Str × Str → Bool, pl.filter (fun p => !slt p.1 f && g p) = pl.filter (fun p => g p && !slt p.1 f) := fun g => List.filter_congr fun p _ => Bool.and_comm _ _
    rw [e2, e1 (fun p => slt p.1 w.1), e1 (fun p => slt w.1 p.1)]
theorem slt_pre (c : UInt8) (a b : Str) : slt ((⟨#[c]⟩ : Str) ++ a) (⟨#[c]⟩ ++ b) = slt a b := by
  unfold slt
  rw [toList_data, toList_data, toList_data, toList_data]
  simp [Op.bytesLess]
theorem slt_key (a b : Str) : slt (keyS a) (keyS b) = slt a b := slt_pre 114 a b
def kf (p : Str × Str) : Str × Str := (keyS p.1, p.2)
theorem srt_kf {pl : Prs} (h : Srt pl) : Srt (pl.map kf) := by
  unfold Srt
  rw [List.pairwise_map]
  exact h.imp fun q => by simp only [kf, slt_key]; exact q
theorem doneP_kf {pl : Prs} (h : Srt pl) (n v : Str) (g : Bool) : doneP (pl.map kf) (keyS n, v, g) = (doneP pl (n, v, g)).map kf := by
  rw [doneP_eq h, doneP_eq (srt_kf h)]
  simp only [List.map_append, List.filter_map]
  congr 1
  · congr 1
    · congr 1
      exact List.filter_congr fun p _ => by simp [kf, slt_key]
    · cases g <;> rfl
  · congr 1
    exact List.filter_congr fun p _ => by simp [kf, slt_key]
theorem keyS_mk (n : Str) : keyS n = ⟨(114 :: n.data.toList).toArray⟩ := by
  apply ByteArray.ext
  apply Array.ext'
  simp [keyS]
theorem headR_key (n : Str) : headR (keyS n) = true := by rw [keyS_mk, headR_cons]; rfl
theorem tailS_key (n : Str) : tailS (keyS n) = n := by
  unfold tailS
  rw [keyS_mk, extract_tail]
/-- A branch's entry as the list tells it. -/
def brOf (p : Str × Str) : Br := (p.1, (parseT p.2).getD (0, zer 32))
def GoodBr (p : Str × Str) : Prop := gname p.1 = true ∧ (parseT p.2).isSome = true
theorem listGo_cons {p : Str × Str} {zs : Prs} {out : List Br} (h : GoodBr p) : listGo (kf p :: zs) out = if out.length = 32 then ([], 4) else listGo zs (out ++ [brOf p]) := by
  obtain ⟨h1, h2⟩ := h
  obtain ⟨⟨k, bs⟩, hp⟩ := Option.isSome_iff_exists.1 h2
  simp only [listGo, kf, headR_key, tailS_key, hp, h1, if_true, brOf, Option.getD_some, Bool.true_and]
  by_cases q : out.length = 32 <;> simp [q]
theorem listGo_map : ∀ {ps : Prs} {zs : Prs} {out : List Br}, (∀ p ∈ ps, GoodBr p) → out.length + ps.length ≤ 32 → (∀ p, zs.head? = some p → headR p.1 = false) → listGo (ps.map kf ++ zs) out = (out ++ ps.map brOf, 0)
  | [], zs, out, _, _, hz => by
    cases zs with
    | nil => simp [listGo]
    | cons p zs => simp [listGo, hz p rfl]
  | p :: ps, zs, out, h, hl, hz => by
    rw [List.map_cons, List.cons_append, listGo_cons (h p List.mem_cons_self), if_neg (by simp at hl; omega)]
    rw [listGo_map (fun q hq => h q (List.mem_cons_of_mem _ hq)) (by simp at hl ⊢; omega) hz]
    simp
theorem listGo_many : ∀ {ps : Prs} {zs : Prs} {out : List Br}, (∀ p ∈ ps, GoodBr p) → out.length ≤ 32 → 32 < out.length + ps.length → listGo (ps.map kf ++ zs) out = ([], 4)
  | [], zs, out, _, _, hl => by simp at hl; omega
  | p :: ps, zs, out, h, ho, hl => by
    rw [List.map_cons, List.cons_append, listGo_cons (h p List.mem_cons_self)]
    by_cases q : out.length = 32
    · rw [if_pos q]
    · rw [if_neg q]
      exact listGo_many (fun q hq => h q (List.mem_cons_of_mem _ hq)) (by simp; omega) (by simp at hl ⊢; omega)
theorem str_form (s : Str) : s = ⟨#[]⟩ ∨ ∃ c r, s = ⟨(c :: r).toArray⟩ := by
  obtain ⟨⟨l⟩⟩ := s
  cases l with
  | nil => exact .inl rfl
  | cons c r => exact .inr ⟨c, r, rfl⟩
theorem slt_head {c d : UInt8} {r q : List UInt8} (h : slt ⟨(c :: r).toArray⟩ ⟨(d :: q).toArray⟩ = true) : c.toNat ≤ d.toNat := by
  unfold slt at h
  rw [toList_data, toList_data] at h
  simp only [Op.bytesLess] at h
  simp at h
  rcases h with h | h
  · exact Nat.le_of_lt (UInt8.lt_iff_toNat_lt.1 h)
  · rw [h.1]; exact Nat.le_refl _
theorem slt_nil_r : slt ⟨#[]⟩ ⟨#[114]⟩ = true := by
  unfold slt; rw [toList_data, toList_data]; rfl
theorem head_lt {s : Str} (h : headR s = true) : slt s ⟨#[114]⟩ = false := by
  rcases str_form s with e | ⟨c, r, e⟩
  · subst e; exact absurd h (by decide)
  · subst e
    rw [headR_cons] at h
    have : c = 114 := by simpa using h
    subst this
    unfold slt
    rw [toList_data, toList_data]
    simp [Op.bytesLess]
/-- Behind a key that is no branch's, and no lesser one, there is no branch's. -/
theorem head_after {a b : Str} (h : slt a b = true) (ha : slt a ⟨#[114]⟩ = false) (hn : headR a = false) : headR b = false ∧ slt b ⟨#[114]⟩ = false := by
  have hb : slt b ⟨#[114]⟩ = false := by
    cases q : slt b ⟨#[114]⟩ with
    | false => rfl
    | true => rw [slt_trans h q] at ha; cases ha
  refine ⟨?_, hb⟩
  rcases str_form a with e | ⟨c, r, e⟩
  · subst e; rw [slt_nil_r] at ha; cases ha
  · rcases str_form b with e2 | ⟨d, q, e2⟩
    · subst e2; rw [slt_nil_r] at hb; cases hb
    · subst e; subst e2
      have h1 := slt_head h
      rw [headR_cons] at hn ⊢
      have hc : c.toNat ≠ 114 := fun e => by
        simp at hn; exact hn (UInt8.toNat_inj.1 e)
      have hge : 114 ≤ c.toNat := by
        rcases Nat.lt_or_ge c.toNat 114 with q | q
        · exfalso
          have : slt ⟨(c :: r).toArray⟩ ⟨#[114]⟩ = true := by
            unfold slt
            rw [toList_data, toList_data]
            simp only [Op.bytesLess]
            simp
            exact UInt8.lt_iff_toNat_lt.2 q
          rw [this] at ha; cases ha
        · exact q
      simp
      intro e
      subst e
      have : (114 : UInt8).toNat = 114 := rfl
      omega
theorem listR_none : ∀ {zs : Prs} {out : List Br}, (∀ p ∈ zs, headR p.1 = false) → listR zs out = (out, 0)
  | [], out, _ => rfl
  | p :: zs, out, h => by
    rw [listR, if_neg (by rw [h p List.mem_cons_self]; simp)]
    exact listR_none fun q hq => h q (List.mem_cons_of_mem _ hq)
theorem listR_hi : ∀ {zs : Prs} {out : List Br}, Srt zs → (∀ p ∈ zs, slt p.1 ⟨#[114]⟩ = false) → out.length ≤ 32 → listR zs out = listGo (zs.take (33 - out.length)) out
  | [], out, _, _, _ => by simp [listR, listGo]
  | p :: zs, out, hs, hge, ho => by
    obtain ⟨m, hm⟩ : ∃ m, 33 - out.length = m + 1 := ⟨32 - out.length, by omega⟩
    rw [hm, List.take_succ_cons]
    obtain ⟨hs1, hs2⟩ := List.pairwise_cons.1 hs
    by_cases hh : headR p.1 = true
    · simp only [listR, listGo, hh, if_true]
      cases hp : parseT p.2 with
      | none => rfl
      | some x =>
        obtain ⟨k, bs⟩ := x
        simp only
        by_cases hg : (gname (tailS p.1) && !decide (out.length = 32)) = true
        · rw [if_pos hg, if_pos hg]
          have h32 : out.length ≠ 32 := by simp at hg; exact hg.2
          rw [listR_hi hs2 (fun q hq => hge q (List.mem_cons_of_mem _ hq)) (by simp; omega)]
          congr 2
          simp; omega
        · rw [if_neg hg, if_neg hg]
    · have hh' : headR p.1 = false := by simpa using hh
      simp only [listGo, hh', Bool.false_eq_true, if_false]
      rw [listR, if_neg hh]
      exact listR_none fun q hq => (head_after (hs1 q hq) (hge p List.mem_cons_self) hh').1
theorem listR_lo : ∀ {zs : Prs} {out : List Br}, listR zs out = listR (zs.filter fun p => !slt p.1 ⟨#[114]⟩) out
  | [], out => rfl
  | p :: zs, out => by
    by_cases h : slt p.1 ⟨#[114]⟩ = true
    · rw [List.filter_cons_of_neg (by simp [h])]
      have hh : headR p.1 = false := by
        cases q : headR p.1 with
        | false => rfl
        | true => rw [head_lt q] at h; cases h
      rw [listR, if_neg (by simp [hh])]
      exact listR_lo
    · rw [List.filter_cons_of_pos (by simpa using h)]
      simp only [listR]
      split
      · split
        · rfl
        · split
          · exact listR_lo
          · rfl
      · exact listR_lo
theorem listR_eq {pl : Prs} (h : Srt pl) : listR pl [] = listGo (scanP pl ⟨#[114]⟩ 33) [] := by
  rw [listR_lo, listR_hi (h.filter _) (fun p hp => by simpa using (List.mem_filter.1 hp).2) (by simp)]
  rfl
theorem listGo_len : ∀ {zs : Prs} {out : List Br}, (∀ r ∈ out, r.2.2.length = 32) → ∀ r ∈ (listGo zs out).1, r.2.2.length = 32
  | [], out, h => h
  | p :: zs, out, h => by
    simp only [listGo]
    split
    · split
      · intro r hr; cases hr
      · rename_i k bs hp
        split
        · refine listGo_len fun r hr => ?_
          rcases List.mem_append.1 hr with q | q
          · exact h r q
          · simp at q; subst q; exact parse_len hp
        · intro r hr; cases hr
    · exact h
theorem listGo_le : ∀ {zs : Prs} {out : List Br}, out.length ≤ 32 → (listGo zs out).1.length ≤ 32
  | [], out, h => h
  | p :: zs, out, h => by
    simp only [listGo]
    split
    · split
      · exact Nat.zero_le _
      · rename_i k bs hp
        split
        · rename_i hg
          refine listGo_le ?_
          simp at hg ⊢; omega
        · exact Nat.zero_le _
    · exact h
theorem parse_txt {k : UInt8} {bs : List UInt8} (hb : bs.length = 32) (hg : goodId k bs = true) : parseT (txt k bs) = some (k, bs) := by
  have hsz := szOf_le k.toNat
  unfold txt
  rw [if_pos hg, parse_mk, List.length_take, hb, Nat.min_eq_left hsz]
  unfold goodId at hg
  simp only [Bool.and_eq_true, decide_eq_true_eq] at hg
  rw [if_pos ⟨hg.2, rfl⟩]
  congr 2
  apply List.ext_getElem?
  intro i
  rcases Nat.lt_or_ge i (szOf k.toNat) with q | q
  · rw [List.getElem?_append_left (by rw [List.length_take, hb]; omega), List.getElem?_take, if_pos q]
  · rw [List.getElem?_append_right (by rw [List.length_take]; omega), List.length_take, hb, Nat.min_eq_left hsz, zer, List.getElem?_replicate]
    by_cases r : i < 32
    · rw [if_pos (by omega)]
      have := hg.1 (i - szOf k.toNat) (by omega)
      rw [show szOf k.toNat + (i - szOf k.toNat) = i from by omega] at this
      rw [this]
    · rw [if_neg (by omega), List.getElem?_eq_none (by omega)]
end Go.Proofs.YtdcjlbfmdkgcpaaGreatDoor
