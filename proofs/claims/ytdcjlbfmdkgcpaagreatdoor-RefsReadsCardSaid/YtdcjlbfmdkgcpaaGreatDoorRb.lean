/- The law RefsBack, walked. -/
import Derived.Test.YtdcjlbfmdkgcpaaGreatDoorProg
import Derived.Test.YtdcjlbfmdkgcpaaGreatDoorRt
set_option linter.unusedSimpArgs false
set_option linter.unusedVariables false
namespace Go.Proofs.YtdcjlbfmdkgcpaaGreatDoor
open Go.Sl
instance tyRbAg24 : Sl.Ag Tryz.prog 24 33 := ⟨Tryz.isAgg24, Tryz.sizeOf24⟩
instance tyRbAg39 : Sl.Ag Tryz.prog 39 34 := ⟨Tryz.isAgg39, Tryz.sizeOf39⟩
instance tyRbBy24 : Sl.ByT Tryz.prog 24 33 := ⟨fun w => ⟨_, Tryz.typeInfo24 w, rfl⟩⟩
instance tyRbBy39 : Sl.ByT Tryz.prog 39 56 := ⟨fun w => ⟨_, Tryz.typeInfo39 w, rfl⟩⟩
instance tyRbBy57 : Sl.ByT Tryz.prog 57 32 := ⟨fun w => ⟨_, Tryz.typeInfo57 w, rfl⟩⟩
instance tyRbBy9 : Sl.ByT Tryz.prog 9 16 := ⟨fun w => ⟨_, Tryz.typeInfo9 w, rfl⟩⟩
instance tyRbCa10 : Sl.Ca Tryz.prog 10 := ⟨Tryz.call10⟩
instance tyRbCa11 : Sl.Ca Tryz.prog 11 := ⟨Tryz.call11⟩
instance tyRbCa14 : Sl.Ca Tryz.prog 14 := ⟨Tryz.call14⟩
instance tyRbCa18 : Sl.Ca Tryz.prog 18 := ⟨Tryz.call18⟩
instance tyRbCa19 : Sl.Ca Tryz.prog 19 := ⟨Tryz.call19⟩
instance tyRbCa22 : Sl.Ca Tryz.prog 22 := ⟨Tryz.call22⟩
instance tyRbCa23 : Sl.Ca Tryz.prog 23 := ⟨Tryz.call23⟩
instance tyRbCa24 : Sl.Ca Tryz.prog 24 := ⟨Tryz.call24⟩
instance tyRbCa25 : Sl.Ca Tryz.prog 25 := ⟨Tryz.call25⟩
instance tyRbCa6 : Sl.Ca Tryz.prog 6 := ⟨Tryz.call6⟩
instance tyRbCa7 : Sl.Ca Tryz.prog 7 := ⟨Tryz.call7⟩
instance tyRbCa8 : Sl.Ca Tryz.prog 8 := ⟨Tryz.call8⟩
instance tyRbCa9 : Sl.Ca Tryz.prog 9 := ⟨Tryz.call9⟩
instance tyRbFa39_0 : Sl.Fa Tryz.prog 39 0 0 := Sl.Fa.mk' Tryz.runUnderlying39 rfl rfl rfl Tryz.sizeOf9 (by decide)
instance tyRbFa39_1 : Sl.Fa Tryz.prog 39 1 1 := Sl.Fa.mk' Tryz.runUnderlying39 rfl rfl rfl Tryz.sizeOf24 (by decide)
instance tyRbFa57_0 : Sl.Fa Tryz.prog 57 0 0 := Sl.Fa.mk' Tryz.runUnderlying57 rfl rfl rfl Tryz.sizeOf9 (by decide)
instance tyRbFa57_1 : Sl.Fa Tryz.prog 57 1 1 := Sl.Fa.mk' Tryz.runUnderlying57 rfl rfl rfl Tryz.sizeOf9 (by decide)
instance tyRbSc9 : Sl.Sc Tryz.prog 9 := ⟨Tryz.isAgg9, Tryz.sizeOf9⟩
instance tyRbSl35 : Sl.SlT Tryz.prog 35 39 34 := ⟨Tryz.runUnderlying35, Tryz.sizeOf39⟩
instance tyRbSl43 : Sl.SlT Tryz.prog 43 57 2 := ⟨Tryz.runUnderlying43, Tryz.sizeOf57⟩
instance tyRbSl60 : Sl.SlT Tryz.prog 60 9 1 := ⟨Tryz.runUnderlying60, Tryz.sizeOf9⟩
instance tyRbSl61 : Sl.SlT Tryz.prog 61 24 33 := ⟨Tryz.runUnderlying61, Tryz.sizeOf24⟩
instance tyRbSt9 : Sl.StrT Tryz.prog 9 := ⟨Tryz.runUnderlying9⟩
instance tyRbSs32 : Sl.StT Tryz.prog 32 [(0, 1), (1, 1), (2, 1)] := ⟨⟨_, Tryz.runUnderlying32, fun w => by simp [Tryz.sizeOf4, Tryz.sizeOf9]⟩⟩
instance tyRbSs65 : Sl.StT Tryz.prog 65 [(0, 33), (33, 1)] := ⟨⟨_, Tryz.runUnderlying65, fun w => by simp [Tryz.sizeOf24, Tryz.sizeOf9]⟩⟩
instance tyRbZv24 : Sl.Zv Tryz.prog 24 (.agg [.int .u8 0, .int .u8 0, .int .u8 0, .int .u8 0, .int .u8 0, .int .u8 0, .int .u8 0, .int .u8 0, .int .u8 0, .int .u8 0, .int .u8 0, .int .u8 0, .int .u8 0, .int .u8 0, .int .u8 0, .int .u8 0, .int .u8 0, .int .u8 0, .int .u8 0, .int .u8 0, .int .u8 0, .int .u8 0, .int .u8 0, .int .u8 0, .int .u8 0, .int .u8 0, .int .u8 0, .int .u8 0, .int .u8 0, .int .u8 0, .int .u8 0, .int .u8 0, .int .u8 0].toArray) := ⟨Tryz.zeroValue24⟩
instance tyRbZv32 : Sl.Zv Tryz.prog 32 (.agg [.string ⟨#[]⟩, .string ⟨#[]⟩, .bool false].toArray) := ⟨Tryz.zeroValue32⟩
instance tyRbZv39 : Sl.Zv Tryz.prog 39 (.agg [.string ⟨#[]⟩, .int .u8 0, .int .u8 0, .int .u8 0, .int .u8 0, .int .u8 0, .int .u8 0, .int .u8 0, .int .u8 0, .int .u8 0, .int .u8 0, .int .u8 0, .int .u8 0, .int .u8 0, .int .u8 0, .int .u8 0, .int .u8 0, .int .u8 0, .int .u8 0, .int .u8 0, .int .u8 0, .int .u8 0, .int .u8 0, .int .u8 0, .int .u8 0, .int .u8 0, .int .u8 0, .int .u8 0, .int .u8 0, .int .u8 0, .int .u8 0, .int .u8 0, .int .u8 0, .int .u8 0].toArray) := ⟨Tryz.zeroValue39⟩
instance tyRbZv57 : Sl.Zv Tryz.prog 57 (.agg [.string ⟨#[]⟩, .string ⟨#[]⟩].toArray) := ⟨Tryz.zeroValue57⟩
instance tyRbZv65 : Sl.Zv Tryz.prog 65 (.agg [.int .u8 0, .int .u8 0, .int .u8 0, .int .u8 0, .int .u8 0, .int .u8 0, .int .u8 0, .int .u8 0, .int .u8 0, .int .u8 0, .int .u8 0, .int .u8 0, .int .u8 0, .int .u8 0, .int .u8 0, .int .u8 0, .int .u8 0, .int .u8 0, .int .u8 0, .int .u8 0, .int .u8 0, .int .u8 0, .int .u8 0, .int .u8 0, .int .u8 0, .int .u8 0, .int .u8 0, .int .u8 0, .int .u8 0, .int .u8 0, .int .u8 0, .int .u8 0, .int .u8 0, .string ⟨#[]⟩].toArray) := ⟨Tryz.zeroValue65⟩
instance tyRbZv9 : Sl.Zv Tryz.prog 9 (.string ⟨#[]⟩) := ⟨Tryz.zeroValue9⟩
def encS (s : Str) : List Value := [.string s]
def encI (p : UInt8 × List UInt8) : List Value := idc p.1 p.2
theorem obj_lt_r (k : UInt8) (bs : List UInt8) : slt (objS k bs) ⟨#[114]⟩ = true := by
  have : objS k bs = ⟨(111 :: (txt k bs).data.toList).toArray⟩ := by
    apply ByteArray.ext
    apply Array.ext'
    simp [objS]
  rw [this]
  unfold slt
  rw [toList_data, toList_data]
  simp [Op.bytesLess]
/-- What a law's loop keeps: the store's pairs, the branches among them. -/
structure BackI (l pairs : Prs) (m : Nat) : Prop where
  nd : (keysOf l).Nodup
  rel : ∃ pl, Rel pl l ∧ pl.filter (fun p => !slt p.1 ⟨#[114]⟩) = pairs.map kf ∧ pl.length ≤ 2 * m
  srt : Srt pairs
  good : ∀ p ∈ pairs, gname p.1 = true ∧ ∃ k bs, bs.length = 32 ∧ goodId k bs = true ∧ p.2 = txt k bs
  len : pairs.length ≤ m
theorem BackI.nil : BackI [] [] 0 := ⟨by simp [keysOf], ⟨[], rel_nil, rfl, Nat.zero_le _⟩, List.Pairwise.nil, fun _ h => (by cases h), Nat.zero_le _⟩
theorem mem_doneP {pl : Prs} (h : Srt pl) {w : Wr} {p : Str × Str} (hp : p ∈ doneP pl w) : p ∈ pl ∨ (w.2.2 = false ∧ p = (w.1, w.2.1)) := by
  rw [doneP_eq h] at hp
  simp only [List.mem_append, List.mem_filter] at hp
  rcases hp with (hp | hp) | hp
  · exact .inl hp.1
  · split at hp
    · cases hp
    · rename_i q; right; refine ⟨by simpa using q, ?_⟩; simpa using hp
  · exact .inl hp.1
theorem BackI.set {l pairs : Prs} {m : Nat} (b : BackI l pairs m) {name data : Str} {k : UInt8} {bs : List UInt8} (hn : gname name = true) (hb : bs.length = 32) (hg : goodId k bs = true) :
    BackI (memDo (memDo l (keyS name, txt k bs, false)) (objS k bs, data, false)) (doneP pairs (name, txt k bs, false)) (m + 1) := by
  obtain ⟨pl, hr, hf, hl⟩ := b.rel
  refine ⟨memDo_nodup (memDo_nodup b.nd _) _, ⟨_, rel_do (rel_do hr b.nd _) (memDo_nodup b.nd _) _, ?_, ?_⟩, doneP_srt b.srt _, ?_, ?_⟩
  · rw [filter_doneP (doneP_srt hr.srt _), if_pos (obj_lt_r k bs), filter_doneP hr.srt, if_neg (by rw [key_ge_r]; simp), hf, doneP_kf b.srt]
  · have h1 := doneP_len (doneP_srt hr.srt (keyS name, txt k bs, false)) (objS k bs, data, false)
    have h2 := doneP_len hr.srt (keyS name, txt k bs, false)
    omega
  · intro p hp
    rcases mem_doneP b.srt hp with q | ⟨_, q⟩
    · exact b.good p q
    · subst q; exact ⟨hn, k, bs, hb, hg, rfl⟩
  · have := doneP_len b.srt (name, txt k bs, false)
    have := b.len
    omega
theorem BackI.del {l pairs : Prs} {m : Nat} (b : BackI l pairs m) (name : Str) : BackI (memDo l (keyS name, ⟨#[]⟩, true)) (doneP pairs (name, ⟨#[]⟩, true)) (m + 1) := by
  obtain ⟨pl, hr, hf, hl⟩ := b.rel
  refine ⟨memDo_nodup b.nd _, ⟨_, rel_do hr b.nd _, ?_, ?_⟩, doneP_srt b.srt _, ?_, ?_⟩
  · rw [filter_doneP hr.srt, if_neg (by rw [key_ge_r]; simp), hf, doneP_kf b.srt]
  · have h2 := doneP_len hr.srt (keyS name, ⟨#[]⟩, true)
    omega
  · intro p hp
    rcases mem_doneP b.srt hp with q | ⟨q, _⟩
    · exact b.good p q
    · cases q
  · have := doneP_len b.srt (name, ⟨#[]⟩, true)
    have := b.len
    omega
theorem BackI.mono {l pairs : Prs} {m m' : Nat} (b : BackI l pairs m) (h : m ≤ m') : BackI l pairs m' := by
  obtain ⟨pl, h1, h2, h3⟩ := b.rel
  exact ⟨b.nd, ⟨pl, h1, h2, by omega⟩, b.srt, b.good, by have := b.len; omega⟩
theorem BackI.list {l pairs : Prs} {m : Nat} (b : BackI l pairs m) (h : pairs.length ≤ 32) (hm : m ≤ 40) : ∃ pl, Rel pl l ∧ l.length ≤ 80 ∧ listGo (scanP pl ⟨#[114]⟩ 33) [] = (pairs.map brOf, 0) := by
  obtain ⟨pl, hr, hf, hl⟩ := b.rel
  refine ⟨pl, hr, by rw [← Rel.len hr b.nd]; omega, ?_⟩
  unfold scanP
  rw [hf, List.take_of_length_le (by simp; omega)]
  have := listGo_map (ps := pairs) (zs := []) (out := []) (fun p hp => by
    obtain ⟨h1, k, bs, h2, h3, h4⟩ := b.good p hp
    exact ⟨h1, by rw [h4, parse_txt h2 h3]; rfl⟩) (by simpa using h) (fun p hp => by simp at hp)
  simpa using this
theorem key_obj_ne {n : Str} {k : UInt8} {bs : List UInt8} : ¬ objS k bs = keyS n := fun h => key_ne_obj h.symm
theorem back_get {l : Prs} {name data : Str} {k : UInt8} {bs : List UInt8} (hn : gname name = true) (hb : bs.length = 32) (hg : goodId k bs = true) :
    getRef (memDo (memDo l (keyS name, txt k bs, false)) (objS k bs, data, false)) name = (0, idc k bs) ∧ objGet (memDo (memDo l (keyS name, txt k bs, false)) (objS k bs, data, false)) k bs = (data, 0) := by
  constructor
  · simp only [getRef, hn, if_true, memDo, Bool.false_eq_true, if_false, mget_mset, if_neg key_obj_ne, parse_txt hb hg]
  · simp only [objGet, hg, if_true, memDo, Bool.false_eq_true, if_false, mget_mset]
theorem back_gone {l : Prs} {name : Str} (hd : (keysOf l).Nodup) (hn : gname name = true) : getRef (memDo l (keyS name, ⟨#[]⟩, true)) name = (5, idc 0 (zer 32)) := by
  simp only [getRef, hn, if_true, memDo, mget_mdel hd]
theorem memBad_two {n d : Str} {k : UInt8} {bs : List UInt8} (hn : gname n = true) (hd : d.size ≤ 160) : memBad [(keyS n, txt k bs, false), (objS k bs, d, false)] = false := by
  have h1 := gname_size hn
  have h2 := txt_size k bs
  have h3 : (keyS n).size = 1 + n.size := by rw [keyS_mk, size_mk, sz_list]; simp; omega
  have h4 : (objS k bs).size = 1 + (txt k bs).size := by
    have : objS k bs = ⟨(111 :: (txt k bs).data.toList).toArray⟩ := by
      apply ByteArray.ext
      apply Array.ext'
      simp [objS]
    rw [this, size_mk, sz_list]; simp; omega
  simp [memBad, badW, h3, h4]; omega
theorem memBad_gone {n : Str} (hn : gname n = true) : memBad [(keyS n, ⟨#[]⟩, true)] = false := by
  have h1 := gname_size hn
  have h3 : (keyS n).size = 1 + n.size := by rw [keyS_mk, size_mk, sz_list]; simp; omega
  have h4 : ByteArray.size ⟨#[]⟩ = 0 := rfl
  simp [memBad, badW, h3, h4]; omega
theorem memNext_two {l : Prs} {w w' : Wr} (h : memBad [w, w'] = false) : memNext l [w, w'] = memDo (memDo l w) w' := by rw [memNext, h]; rfl
theorem brOf_good {p : Str × Str} {k : UInt8} {bs : List UInt8} (hb : bs.length = 32) (hg : goodId k bs = true) (h : p.2 = txt k bs) : brOf p = (p.1, k, bs) := by
  simp [brOf, h, parse_txt hb hg]
theorem done_gone_len {pl : Prs} (h : Srt pl) (n : Str) : (doneP pl (n, ⟨#[]⟩, true)).length ≤ pl.length := by
  rw [doneP_eq h]
  have h1 := congrArg List.length (filter_split h n)
  rw [List.length_append] at h1
  have h2 := List.length_filter_le (fun p : Str × Str => decide (p.1 ≠ n)) pl
  simp only [List.length_append, if_true, List.length_nil]
  omega
theorem keyS_le {n : Str} (hn : gname n = true) : n.size ≤ 4611686018427387904 := by have := gname_size hn; omega

theorem back_is (sortH : SortHyp) (A : HP) (na ia : Option Addr) (nc ic : Nat) (names : List Str) (ids : List (UInt8 × List UInt8)) (data : Str) (drop : Int) (hN : SlIs A encS 1 na names.length names) (hI : SlIs A encI 33 ia ids.length ids)
      (h32 : ∀ p ∈ ids, p.2.length = 32) (hbn : names.length < 9223372036854775807) (hbi : ids.length < 9223372036854775807) :
    Fnc Tryz.prog 5 [.slice na names.length nc, .slice ia ids.length ic, .string data, .int .i64 drop] [A] (fun v L' => v = .bool true ∧ L' = [A]) := by
  refine Sl.fn_intro Tryz.func5 rfl Tryz.ntmps5 rfl (fun g F => ?_)
  simp only [Sl.slotsOf, List.cons_append, List.nil_append, Nat.reduceAdd]
  refine Sl.sq ?_
  refine Sl.rg ?_
  refine Sl.asg rfl rfl ?_
  refine Sl.en ?_
  refine Sl.thenN ?_
  refine Sl.sq ?_
  refine Sl.sq ?_
  refine Sl.rg ?_
  refine Sl.cl (alive_is) rfl rfl ?_
  rintro _ _ ⟨rfl, rfl⟩
  simp only [List.cons_append, List.nil_append]
  refine Sl.nt rfl rfl ?_
  refine Sl.en ?_
  refine Sl.thenN ?_
  refine Sl.cdF rfl ?_
  refine Sl.sk ?_
  refine Sl.thenN ?_
  refine Sl.sq ?_
  refine Sl.sq ?_
  refine Sl.rg ?_
  refine Sl.mv rfl rfl ?_
  refine Sl.lnL rfl rfl ?_
  refine Sl.gtr rfl rfl rfl ?_
  refine Sl.mv rfl rfl ?_
  refine Sl.split (t := 29) rfl (fun h29 => ?_) (fun h29 => ?_)
  · skip
    skip
    refine Sl.gskip rfl rfl rfl rfl rfl rfl ?_
    refine Sl.gskip rfl rfl rfl rfl rfl rfl ?_
    refine Sl.gskip rfl rfl rfl rfl rfl rfl ?_
    refine Sl.gskip rfl rfl rfl rfl rfl rfl ?_
    refine Sl.gskip rfl rfl rfl rfl rfl rfl ?_
    refine Sl.pk rfl rfl rfl ?_
    refine Sl.mv rfl rfl ?_
    refine Sl.split (t := 36) rfl (fun h36 => ?_) (fun h36 => ?_)
    · skip
      skip
      refine Sl.gskip rfl rfl rfl rfl rfl rfl ?_
      refine Sl.gskip rfl rfl rfl rfl rfl rfl ?_
      refine Sl.gskip rfl rfl rfl rfl rfl rfl ?_
      refine Sl.pk rfl rfl rfl ?_
      refine Sl.en ?_
      refine Sl.thenN ?_
      refine Sl.cdT rfl ?_
      refine Sl.sq ?_
      refine Sl.rg ?_
      refine Sl.asg rfl rfl ?_
      refine Sl.en ?_
      refine Sl.thenN ?_
      refine Sl.rt ?_
      refine Sl.thenR ?_
      exact Sl.ret1 [A] Tryz.results5 rfl ⟨rfl, rfl⟩ Sl.perm
    · skip
      cases h36 --closed
  · skip
    have h29 := of_decide_eq_false h29
    refine Sl.gdo rfl rfl ?_
    refine Sl.mv rfl rfl ?_
    refine Sl.gdo rfl rfl ?_
    refine Sl.lnL rfl rfl ?_
    refine Sl.gdo rfl rfl ?_
    refine Sl.mv rfl rfl ?_
    refine Sl.gdo rfl rfl ?_
    refine Sl.lnL rfl rfl ?_
    refine Sl.gdo rfl rfl ?_
    refine Sl.lss rfl rfl rfl ?_
    refine Sl.pk rfl rfl rfl ?_
    refine Sl.mv rfl rfl ?_
    refine Sl.split (t := 36) rfl (fun h36 => ?_) (fun h36 => ?_)
    · skip
      skip
      refine Sl.gskip rfl rfl rfl rfl rfl rfl ?_
      refine Sl.gskip rfl rfl rfl rfl rfl rfl ?_
      refine Sl.gskip rfl rfl rfl rfl rfl rfl ?_
      refine Sl.pk rfl rfl rfl ?_
      refine Sl.en ?_
      refine Sl.thenN ?_
      refine Sl.cdT rfl ?_
      refine Sl.sq ?_
      refine Sl.rg ?_
      refine Sl.asg rfl rfl ?_
      refine Sl.en ?_
      refine Sl.thenN ?_
      refine Sl.rt ?_
      refine Sl.thenR ?_
      exact Sl.ret1 [A] Tryz.results5 rfl ⟨rfl, rfl⟩ Sl.perm
    · skip
      have h36 := of_decide_eq_false h36
      refine Sl.gdo rfl rfl ?_
      refine Sl.mv rfl rfl ?_
      refine Sl.gdo rfl rfl ?_
      refine Sl.lnS rfl rfl ?_
      refine Sl.gdo rfl rfl ?_
      refine Sl.gtr rfl rfl rfl ?_
      refine Sl.pk rfl rfl rfl ?_
      refine Sl.en ?_
      refine Sl.thenN ?_
      refine Sl.cdP rfl (fun h40 => ?_) (fun h40 => ?_)
      · skip
        refine Sl.sq ?_
        refine Sl.rg ?_
        refine Sl.asg rfl rfl ?_
        refine Sl.en ?_
        refine Sl.thenN ?_
        refine Sl.rt ?_
        refine Sl.thenR ?_
        exact Sl.ret1 [A] Tryz.results5 rfl ⟨rfl, rfl⟩ Sl.perm
      · skip
        have hnl : names.length ≤ 32 := by omega
        have hil : names.length ≤ ids.length := by omega
        have hdl : data.size ≤ 160 := by omega
        refine Sl.sk ?_
        refine Sl.thenN ?_
        refine Sl.sq ?_
        refine Sl.rg ?_
        refine Sl.cl (fresh_is) rfl rfl ?_
        rintro _ _ ⟨cb, sb, most, rfl, rfl⟩
        simp only [List.cons_append, List.nil_append]
        refine Sl.asg rfl rfl ?_
        refine Sl.en ?_
        refine Sl.thenN ?_
        refine Sl.sq ?_
        refine Sl.rg ?_
        refine Sl.asg rfl rfl ?_
        refine Sl.en ?_
        refine Sl.thenN ?_
        refine Sl.sq ?_
        refine Sl.sq ?_
        refine Sl.rg ?_
        refine Sl.mv rfl rfl ?_
        refine Sl.lnL rfl rfl ?_
        refine Sl.mv rfl rfl ?_
        refine Sl.en ?_
        refine Sl.thenN ?_
        refine Sl.bl ?_
        refine Sl.nilO 57 encP 2 ?_
        refine Sl.lp0 (fun m s L => ∃ (j : Nat) (l pairs : Prs) (pa : Option Addr) (pc : Nat) (B : HP), j ≤ names.length ∧ m = names.length - j ∧ BackI l pairs j ∧ SlIs B encP 2 pa pairs.length pairs ∧ (∀ nm ∈ names.take j, gname nm = true) ∧
            s = [(44, .int .i64 (j : Nat)), (43, .int .i64 (names.length : Nat)), (42, .slice na names.length nc), (10, .slice pa pairs.length pc), (0, .slice na names.length nc), (1, .slice ia ids.length ic), (2, .string data), (3, .int .i64 drop), (9, .pointer (some ⟨cb, 0, none⟩))] ∧ L = [A, B, cachM cb sb most l, memS sb l, F])
            names.length _ _ ⟨0, [], [], none, 0, osl 57 encP 2 none 0 [], Nat.zero_le _, rfl, BackI.nil, osl_is (fun _ _ => rfl), (fun _ h => by cases h), rfl, rfl⟩ ⟨rfl, rfl, rfl, rfl, rfl, rfl, rfl, rfl, rfl, trivial⟩ Sl.perm ?_
        rintro m s L ⟨j, l, pairs, pa, pc, B, hj, rfl, hb, hB, hgn, rfl, rfl⟩
        refine Sl.sq ?_
        refine Sl.rg ?_
        refine Sl.lss rfl rfl rfl ?_
        refine Sl.en ?_
        refine Sl.thenN ?_
        refine Sl.sq ?_
        refine Sl.cdP rfl (fun h45 => ?_) (fun h45 => ?_)
        · skip
          refine Sl.sk ?_
          refine Sl.thenN ?_
          refine Sl.sq ?_
          refine Sl.bl ?_
          refine Sl.sq ?_
          obtain ⟨name, hw⟩ : ∃ w : Str, names[j]? = some w := ⟨names[j]'(by omega), by simp⟩
          obtain ⟨⟨k, bs⟩, hwi⟩ : ∃ w : UInt8 × List UInt8, ids[j]? = some w := ⟨ids[j]'(by omega), by simp⟩
          have hbs : bs.length = 32 := h32 _ (List.mem_of_getElem? hwi)
          refine Sl.slAddr A hN (by omega) (fun ab ao ha => ?_)
          subst ha
          refine Sl.slAddr A hI (by omega) (fun ib io ha => ?_)
          subst ha
          refine Sl.rg ?_
          refine Sl.mv rfl rfl ?_
          refine Sl.ia rfl rfl rfl (by omega) ?_
          refine Sl.ldE A hN j hw rfl rfl (by omega) rfl rfl ?_
          refine Sl.asg rfl rfl ?_
          refine Sl.asg rfl rfl ?_
          refine Sl.en ?_
          refine Sl.thenN ?_
          refine Sl.sq ?_
          refine Sl.rg ?_
          refine Sl.mv rfl rfl ?_
          refine Sl.mv rfl rfl ?_
          refine Sl.ia rfl rfl rfl (by omega) ?_
          refine Sl.ldEa A hI j hwi rfl rfl rfl ?_
          refine Sl.cl (name14_is k bs hbs) rfl rfl ?_
          rintro _ _ ⟨rfl, rfl⟩
          simp only [List.cons_append, List.nil_append]
          refine Sl.asg rfl rfl ?_
          refine Sl.en ?_
          refine Sl.thenN ?_
          refine Sl.sq ?_
          refine Sl.sq ?_
          refine Sl.rg ?_
          refine Sl.mv rfl rfl ?_
          refine Sl.cl (good18_is name) rfl rfl ?_
          rintro _ _ ⟨rfl, rfl⟩
          simp only [List.cons_append, List.nil_append]
          refine Sl.nt rfl rfl ?_
          refine Sl.mv rfl rfl ?_
          refine Sl.split (t := 57) rfl (fun h57 => ?_) (fun h57 => ?_)
          · skip
            skip
            refine Sl.gskip rfl rfl rfl rfl rfl rfl ?_
            refine Sl.gskip rfl rfl rfl rfl rfl rfl ?_
            refine Sl.pk rfl rfl rfl ?_
            refine Sl.en ?_
            refine Sl.thenN ?_
            refine Sl.cdT rfl ?_
            refine Sl.sq ?_
            refine Sl.rg ?_
            refine Sl.asg rfl rfl ?_
            refine Sl.en ?_
            refine Sl.thenN ?_
            refine Sl.rt ?_
            refine Sl.thenR ?_
            refine Sl.blkR ?_
            refine Sl.thenR ?_
            refine Sl.thenR ?_
            refine Sl.blkR ?_
            refine Sl.thenR ?_
            exact Sl.ret1 [A] Tryz.results5 rfl ⟨rfl, rfl⟩ Sl.perm
          · skip
            have hgood : gname name = true := by simpa using h57
            refine Sl.gdo rfl rfl ?_
            refine Sl.mv rfl rfl ?_
            refine Sl.gdo rfl rfl ?_
            refine Sl.eqlS rfl rfl rfl ?_
            refine Sl.pk rfl rfl rfl ?_
            refine Sl.en ?_
            refine Sl.thenN ?_
            refine Sl.cdP rfl (fun h60 => ?_) (fun h60 => ?_)
            · skip
              refine Sl.sq ?_
              refine Sl.rg ?_
              refine Sl.asg rfl rfl ?_
              refine Sl.en ?_
              refine Sl.thenN ?_
              refine Sl.rt ?_
              refine Sl.thenR ?_
              refine Sl.blkR ?_
              refine Sl.thenR ?_
              refine Sl.thenR ?_
              refine Sl.blkR ?_
              refine Sl.thenR ?_
              exact Sl.ret1 [A] Tryz.results5 rfl ⟨rfl, rfl⟩ Sl.perm
            · skip
              have hgi := txt_good h60
              refine Sl.sk ?_
              refine Sl.thenN ?_
              refine Sl.sq ?_
              refine Sl.sq ?_
              have hbad : memBad [(keyS name, txt k bs, false), (objS k bs, data, false)] = false := memBad_two hgood hdl
              refine Sl.rgT ([A]) [0, 1, 2, 3, 4, 5, 6, 7, 8, 9, 10, 11, 12, 13, 14, 15, 16] [0, 1, 2, 3, 4, 5, 7, 8, 9, 10, 11, 12, 16] (by kernel_rfl) (by kernel_rfl) (by kernel_rfl) ?_
              refine Sl.tk 0 (lst' := [true, false, false, false, false, false, false, false, false, false, false, false, false, false, false, false, false]) rfl (Sl.mvY rfl) rfl rfl rfl rfl (by kernel_rfl) (by kernel_rfl) Sl.perm rfl ?_
              refine Sl.tk 1 (lst' := [true, true, false, false, false, false, false, false, false, false, false, false, false, false, false, false, false]) rfl (Sl.mvY rfl) rfl rfl rfl rfl (by kernel_rfl) (by kernel_rfl) Sl.perm rfl ?_
              refine Sl.tk 2 (lst' := [true, true, true, false, false, false, false, false, false, false, false, false, false, false, false, false, false]) rfl (Sl.mvY rfl) rfl rfl rfl rfl (by kernel_rfl) (by kernel_rfl) Sl.perm rfl ?_
              refine Sl.tk 3 (lst' := [true, true, true, true, false, false, false, false, false, false, false, false, false, false, false, false, false]) rfl (Sl.mvY rfl) rfl rfl rfl rfl (by kernel_rfl) (by kernel_rfl) Sl.perm rfl ?_
              refine Sl.tk 4 (lst' := [true, true, true, true, true, false, false, false, false, false, false, false, false, false, false, false, false]) rfl (Sl.iaY rfl rfl (by omega)) rfl rfl rfl rfl (by kernel_rfl) (by kernel_rfl) Sl.perm rfl ?_
              refine Sl.tk 5 (lst' := [true, true, true, true, true, true, false, false, false, false, false, false, false, false, false, false, false]) rfl (Sl.ldEaY A hI j hwi rfl rfl) rfl rfl rfl rfl (by kernel_rfl) (by kernel_rfl) Sl.perm rfl ?_
              refine Sl.tk 7 (lst' := [true, true, true, true, true, true, false, true, false, false, false, false, false, false, false, false, false]) rfl (Sl.mvY rfl) rfl rfl rfl rfl (by kernel_rfl) (by kernel_rfl) Sl.perm rfl ?_
              refine Sl.tk 8 (lst' := [true, true, true, true, true, true, false, true, true, false, false, false, false, false, false, false, false]) rfl (Sl.mvY rfl) rfl rfl rfl rfl (by kernel_rfl) (by kernel_rfl) Sl.perm rfl ?_
              refine Sl.tk 9 (lst' := [true, true, true, true, true, true, false, true, true, true, false, false, false, false, false, false, false]) rfl (Sl.iaY rfl rfl (by omega)) rfl rfl rfl rfl (by kernel_rfl) (by kernel_rfl) Sl.perm rfl ?_
              refine Sl.tk 10 (lst' := [true, true, true, true, true, true, false, true, true, true, true, false, false, false, false, false, false]) rfl (Sl.ldEaY A hI j hwi rfl rfl) rfl rfl rfl rfl (by kernel_rfl) (by kernel_rfl) Sl.perm rfl ?_
              refine Sl.tk 11 (lst' := [true, true, true, true, true, true, false, true, true, true, true, true, false, false, false, false, false]) rfl (Sl.mvY rfl) rfl rfl rfl rfl (by kernel_rfl) (by kernel_rfl) Sl.perm rfl ?_
              refine Sl.tk 12 (lst' := [true, true, true, true, true, true, false, true, true, true, true, true, true, false, false, false, false]) rfl (Sl.bdY (vs := idc k bs ++ [Value.string data]) rfl (bld_obj hbs (by rfl))) rfl rfl rfl rfl (by kernel_rfl) (by kernel_rfl) Sl.perm rfl ?_
              refine Sl.rn1 6 (lst' := [true, true, true, true, true, true, true, true, true, true, true, true, true, false, false, false, false]) (by kernel_rfl) rfl rfl (fun hk hs hQ => ?_)
              refine Sl.cl (set_is name (keyS_le hgood) k bs hbs) rfl rfl ?_
              rintro _ _ ⟨rfl, rfl⟩
              simp only [List.cons_append, List.nil_append]
              refine Sl.en ?_
              refine Sl.thenN ?_
              refine Sl.bk hk hs hQ (fun _ => Sl.perm) ?_
              refine Sl.rn1 13 (lst' := [true, true, true, true, true, true, true, true, true, true, true, true, true, true, false, false, false]) (by kernel_rfl) rfl rfl (fun hk hs hQ => ?_)
              refine Sl.cl (put_is k bs hbs data) rfl rfl ?_
              rintro _ _ ⟨rfl, rfl⟩
              simp only [List.cons_append, List.nil_append]
              refine Sl.en ?_
              refine Sl.thenN ?_
              refine Sl.bk hk hs hQ (fun _ => Sl.perm) ?_
              refine Sl.rn1 14 (lst' := [true, true, true, true, true, true, true, true, true, true, true, true, true, true, true, false, false]) (by kernel_rfl) rfl rfl (fun hk hs hQ => ?_)
              refine Sl.bsL (k := 3) (zv := .agg #[.string ⟨#[]⟩, .string ⟨#[]⟩, .bool false]) [.agg (encW (keyS name, txt k bs, false)).toArray, .agg (encW (objS k bs, data, false)).toArray] (flat encW [(keyS name, txt k bs, false), (objS k bs, data, false)]) rfl (by decide) rfl rfl rfl (by simp) (by intro v hv; simp at hv; rcases hv with rfl | rfl <;> rfl) (by simp) rfl (fun b75 => ?_)
              refine Sl.en ?_
              refine Sl.thenN ?_
              refine Sl.bk hk hs hQ (fun _ => Sl.perm) ?_
              refine Sl.rn1 15 (lst' := [true, true, true, true, true, true, true, true, true, true, true, true, true, true, true, true, false]) (by kernel_rfl) rfl rfl (fun hk hs hQ => ?_)
              refine Sl.cl (capply_is (blk b75 32 (flat encW [(keyS name, txt k bs, false), (objS k bs, data, false)])) (some ⟨b75, 0, none⟩) 2 cb sb most [(keyS name, txt k bs, false), (objS k bs, data, false)] l
                (blk_is (enc := encW) (o := 0) rfl (fun _ _ => rfl) (fun i hi => by simp)) (by simp) hb.nd) rfl rfl ?_
              rintro _ _ ⟨rfl, rfl⟩
              simp only [List.cons_append, List.nil_append]
              simp only [memNext_two hbad, hbad, Bool.false_eq_true, if_false]
              refine Sl.en ?_
              refine Sl.thenN ?_
              refine Sl.bk hk hs hQ (fun _ => Sl.perm) ?_
              refine Sl.tk 16 (lst' := [true, true, true, true, true, true, true, true, true, true, true, true, true, true, true, true, true]) rfl (Sl.neqIY rfl rfl) rfl rfl rfl rfl (by kernel_rfl) (by kernel_rfl) Sl.perm rfl ?_
              refine Sl.dn (by kernel_rfl) ?_
              refine Sl.thenN ?_
              refine Sl.cdF rfl ?_
              refine Sl.sk ?_
              refine Sl.thenN ?_
              refine Sl.sq ?_
              have hpl := hb.len
              obtain ⟨hg1, hg2⟩ := back_get (l := l) (data := data) hgood hbs hgi
              refine Sl.rg ?_
              refine Sl.mv rfl rfl ?_
              refine Sl.mv rfl rfl ?_
              refine Sl.mv rfl rfl ?_
              refine Sl.bd (vs := encW (name, txt k bs, false)) rfl rfl rfl ?_
              refine Sl.cl (done_is B pa pc pairs (name, txt k bs, false) hB (by omega)) rfl rfl ?_
              rintro _ _ ⟨pa', pc', ct', rfl, rfl⟩
              simp only [List.cons_append, List.nil_append]
              refine Sl.asg rfl rfl ?_
              refine Sl.en ?_
              refine Sl.thenN ?_
              refine Sl.sq ?_
              refine Sl.rg ?_
              refine Sl.mv rfl rfl ?_
              refine Sl.mv rfl rfl ?_
              refine Sl.cl (rget_is cb sb most (memDo (memDo l (keyS name, txt k bs, false)) (objS k bs, data, false)) name) rfl rfl ?_
              rintro _ _ ⟨rfl, rfl⟩
              simp only [List.cons_append, List.nil_append]
              simp only [hg1]
              refine Sl.mv rfl rfl ?_
              refine Sl.xt rfl rfl rfl ?_
              refine Sl.xt rfl rfl rfl ?_
              refine Sl.al rfl (fun b14 => ?_)
              refine Sl.sta rfl rfl (idc_len hbs) idc_one (setR_full (by rw [idc_len hbs]; rfl)) ?_
              refine Sl.asg rfl rfl ?_
              refine Sl.en ?_
              refine Sl.thenN ?_
              refine Sl.sq ?_
              refine Sl.rgT ([A]) [0, 1, 2, 3, 4, 5, 6, 7, 8, 9, 10] [0, 2, 3, 4, 5, 7, 8, 9, 10, 11] (by kernel_rfl) (by kernel_rfl) (by kernel_rfl) ?_
              refine Sl.tk 0 (lst' := [true, false, false, false, false, false, false, false, false, false, false, false]) rfl (Sl.mvY rfl) rfl rfl rfl rfl (by kernel_rfl) (by kernel_rfl) Sl.perm rfl ?_
              refine Sl.tk 2 (lst' := [true, false, true, false, false, false, false, false, false, false, false, false]) rfl (Sl.mvY rfl) rfl rfl rfl rfl (by kernel_rfl) (by kernel_rfl) Sl.perm rfl ?_
              refine Sl.tk 3 (lst' := [true, false, true, true, false, false, false, false, false, false, false, false]) rfl (Sl.mvY rfl) rfl rfl rfl rfl (by kernel_rfl) (by kernel_rfl) Sl.perm rfl ?_
              refine Sl.tk 4 (lst' := [true, false, true, true, true, false, false, false, false, false, false, false]) rfl (Sl.iaY rfl rfl (by omega)) rfl rfl rfl rfl (by kernel_rfl) (by kernel_rfl) Sl.perm rfl ?_
              refine Sl.tk 5 (lst' := [true, false, true, true, true, true, false, false, false, false, false, false]) rfl (Sl.ldEaY A hI j hwi rfl rfl) rfl rfl rfl rfl (by kernel_rfl) (by kernel_rfl) Sl.perm rfl ?_
              refine Sl.rn1 1 (lst' := [true, true, true, true, true, true, false, false, false, false, false, false]) (by kernel_rfl) rfl rfl (fun hk hs hQ => ?_)
              refine Sl.cl (rof_is (some ⟨cb, 0, none⟩)) rfl rfl ?_
              rintro _ _ ⟨rfl, rfl⟩
              simp only [List.cons_append, List.nil_append]
              refine Sl.en ?_
              refine Sl.thenN ?_
              refine Sl.bk hk hs hQ (fun _ => Sl.perm) ?_
              refine Sl.rn1 6 (lst' := [true, true, true, true, true, true, true, false, false, false, false, false]) (by kernel_rfl) rfl rfl (fun hk hs hQ => ?_)
              refine Sl.cl (robj_is cb sb most (memDo (memDo l (keyS name, txt k bs, false)) (objS k bs, data, false)) k bs hbs) rfl rfl ?_
              rintro _ _ ⟨rfl, rfl⟩
              simp only [List.cons_append, List.nil_append]
              simp only [hg2]
              refine Sl.en ?_
              refine Sl.thenN ?_
              refine Sl.bk hk hs hQ (fun _ => Sl.perm) ?_
              refine Sl.tk 7 (lst' := [true, true, true, true, true, true, true, true, false, false, false, false]) rfl (Sl.mvY rfl) rfl rfl rfl rfl (by kernel_rfl) (by kernel_rfl) Sl.perm rfl ?_
              refine Sl.tk 8 (lst' := [true, true, true, true, true, true, true, true, true, false, false, false]) rfl (Sl.xtY rfl rfl) rfl rfl rfl rfl (by kernel_rfl) (by kernel_rfl) Sl.perm rfl ?_
              refine Sl.tk 9 (lst' := [true, true, true, true, true, true, true, true, true, true, false, false]) rfl (Sl.xtY rfl rfl) rfl rfl rfl rfl (by kernel_rfl) (by kernel_rfl) Sl.perm rfl ?_
              refine Sl.tk 10 (lst' := [true, true, true, true, true, true, true, true, true, true, true, false]) rfl (Sl.asgY rfl) rfl rfl rfl rfl (by kernel_rfl) (by kernel_rfl) Sl.perm rfl ?_
              refine Sl.tk 11 (lst' := [true, true, true, true, true, true, true, true, true, true, true, true]) rfl (Sl.asgY rfl) rfl rfl rfl rfl (by kernel_rfl) (by kernel_rfl) Sl.perm rfl ?_
              refine Sl.dn (by kernel_rfl) ?_
              refine Sl.thenN ?_
              refine Sl.sq ?_
              refine Sl.rgQ (by kernel_rfl) (by kernel_rfl) ?_
              refine Sl.mvQ rfl rfl ?_
              refine Sl.neqIQ rfl rfl rfl ?_
              refine Sl.mvQ rfl rfl ?_
              refine Sl.splitQ (t := 101) rfl (fun h101 => ?_) (fun h101 => ?_)
              · skip
                exact absurd h101 (by decide) --closed
              · skip
                refine Sl.gdoQ rfl rfl ?_
                refine Sl.ldaQ rfl rfl (Sl.sub_all (idc_len hbs)) ?_
                refine Sl.gdoQ rfl rfl ?_
                refine Sl.mvQ rfl rfl ?_
                refine Sl.gdoQ rfl rfl ?_
                refine Sl.mvQ rfl rfl ?_
                refine Sl.gdoQ rfl rfl ?_
                refine Sl.iaQ rfl rfl rfl (by omega) ?_
                refine Sl.gdoQ rfl rfl ?_
                refine Sl.ldEaQ A hI j hwi rfl rfl rfl ?_
                refine Sl.gdoQ rfl rfl ?_
                refine Sl.neqGQ rfl rfl rfl Tryz.eqGuardType24 (eqId hbs hbs) ?_
                refine Sl.pkQ rfl rfl rfl ?_
                refine Sl.mvQ rfl rfl ?_
                refine Sl.splitQ (t := 109) rfl (fun h109 => ?_) (fun h109 => ?_)
                · skip
                  exact absurd h109 (by simp) --closed
                · skip
                  refine Sl.gdoQ rfl rfl ?_
                  refine Sl.mvQ rfl rfl ?_
                  refine Sl.gdoQ rfl rfl ?_
                  refine Sl.neqIQ rfl rfl rfl ?_
                  refine Sl.pkQ rfl rfl rfl ?_
                  refine Sl.mvQ rfl rfl ?_
                  refine Sl.splitQ (t := 113) rfl (fun h113 => ?_) (fun h113 => ?_)
                  · skip
                    exact absurd h113 (by decide) --closed
                  · skip
                    refine Sl.gdoQ rfl rfl ?_
                    refine Sl.mvQ rfl rfl ?_
                    refine Sl.gdoQ rfl rfl ?_
                    refine Sl.mvQ rfl rfl ?_
                    refine Sl.gdoQ rfl rfl ?_
                    refine Sl.neqSQ rfl rfl rfl ?_
                    refine Sl.pkQ rfl rfl rfl ?_
                    refine Sl.enQ ?_
                    refine Sl.thenN ?_
                    refine Sl.cdP rfl (fun h117 => ?_) (fun h117 => ?_)
                    · skip
                      exact absurd rfl h117 --closed
                    · skip
                      refine Sl.sk ?_
                      refine Sl.blkN ?_
                      refine Sl.thenN ?_
                      refine Sl.rg ?_
                      refine Sl.add rfl rfl rfl (Sl.fits_i64 (by omega)) ?_
                      refine Sl.mv rfl rfl ?_
                      refine Sl.en ?_
                      refine Sl.thenN ?_
                      exact Sl.again (m' := names.length - (j + 1)) ⟨j + 1, _, _, pa', pc', osl ct' encP 2 pa' pc' _, by omega, rfl, hb.set (data := data) hgood hbs hgi, osl_is (fun _ _ => rfl), (fun nm h => by
                        rw [take_snoc hw] at h
                        rcases List.mem_append.1 h with q | q
                        · exact hgn nm q
                        · simp at q; subst q; exact hgood), rfl, rfl⟩ (by omega) ⟨rfl, rfl, rfl, rfl, rfl, rfl, rfl, rfl, rfl, trivial⟩ Sl.perm
        · skip
          refine Sl.xi ?_
          refine Sl.thenE ?_
          refine Sl.thenE ?_
          refine Sl.blkE ?_
          refine Sl.thenN ?_
          refine Sl.sq ?_
          refine Sl.cut ((fun s L => ∃ (l pairs : Prs) (pa : Option Addr) (pc : Nat) (B : HP), BackI l pairs 33 ∧ SlIs B encP 2 pa pairs.length pairs ∧ pairs.length ≤ 32 ∧ s = [(10, .slice pa pairs.length pc), (9, .pointer (some ⟨cb, 0, none⟩))] ∧ L = [A, B, cachM cb sb most l, memS sb l, F])) ?_ ?_
          · skip
            refine Sl.sq ?_
            obtain rfl : j = names.length := by omega
            rw [List.take_length] at hgn
            have hpl := hb.len
            refine Sl.rg ?_
            refine Sl.mv rfl rfl ?_
            refine Sl.geq rfl rfl rfl ?_
            refine Sl.mv rfl rfl ?_
            refine Sl.split (t := 121) rfl (fun h121 => ?_) (fun h121 => ?_)
            · skip
              have h121 := of_decide_eq_true h121
              refine Sl.gdo rfl rfl ?_
              refine Sl.mv rfl rfl ?_
              refine Sl.gdo rfl rfl ?_
              refine Sl.mv rfl rfl ?_
              refine Sl.gdo rfl rfl ?_
              refine Sl.lnL rfl rfl ?_
              refine Sl.gdo rfl rfl ?_
              refine Sl.lss rfl rfl rfl ?_
              refine Sl.pk rfl rfl rfl ?_
              refine Sl.en ?_
              refine Sl.thenN ?_
              refine Sl.cdP rfl (fun h126 => ?_) (fun h126 => ?_)
              · skip
                refine Sl.sq ?_
                obtain ⟨q, rfl⟩ : ∃ q : Nat, drop = (q : Int) := ⟨drop.toNat, by omega⟩
                obtain ⟨nd, hw⟩ : ∃ w : Str, names[q]? = some w := ⟨names[q]'(by omega), by simp⟩
                have hgood : gname nd = true := hgn nd (List.mem_of_getElem? hw)
                have hbad := memBad_gone hgood
                refine Sl.slAddr A hN (by omega) (fun ab ao ha => ?_)
                subst ha
                refine Sl.rg ?_
                refine Sl.mv rfl rfl ?_
                refine Sl.mv rfl rfl ?_
                refine Sl.mv rfl rfl ?_
                refine Sl.ia rfl rfl rfl (by omega) ?_
                refine Sl.ldE A hN q hw rfl rfl (by omega) rfl rfl ?_
                refine Sl.cl (drop_is nd (keyS_le hgood)) rfl rfl ?_
                rintro _ _ ⟨rfl, rfl⟩
                simp only [List.cons_append, List.nil_append]
                refine Sl.bs1a (vs := encW (keyS nd, ⟨#[]⟩, true)) (by rfl) (by decide) (by decide) rfl rfl (by rfl) (fun b133 => ?_)
                refine Sl.cl (capply_is (blk b133 32 (encW (keyS nd, ⟨#[]⟩, true))) (some ⟨b133, 0, none⟩) 1 cb sb most [(keyS nd, ⟨#[]⟩, true)] l
                  (blk_is (enc := encW) (o := 0) rfl (fun _ _ => rfl) (fun i hi => by simp [flat])) (by simp) hb.nd) rfl rfl ?_
                rintro _ _ ⟨rfl, rfl⟩
                simp only [List.cons_append, List.nil_append]
                simp only [memNext_one hbad]
                have hg1 := back_gone hb.nd hgood
                refine Sl.en ?_
                refine Sl.thenN ?_
                refine Sl.sq ?_
                refine Sl.rg ?_
                refine Sl.mv rfl rfl ?_
                refine Sl.mv rfl rfl ?_
                refine Sl.mv rfl rfl ?_
                refine Sl.ia rfl rfl rfl (by omega) ?_
                refine Sl.ldE A hN q hw rfl rfl (by omega) rfl rfl ?_
                refine Sl.bd (vs := encW (nd, ⟨#[]⟩, true)) rfl rfl rfl ?_
                refine Sl.cl (done_is B pa pc pairs (nd, ⟨#[]⟩, true) hB (by omega)) rfl rfl ?_
                rintro _ _ ⟨pa', pc', ct', rfl, rfl⟩
                simp only [List.cons_append, List.nil_append]
                refine Sl.asg rfl rfl ?_
                refine Sl.en ?_
                refine Sl.thenN ?_
                refine Sl.sq ?_
                refine Sl.rg ?_
                refine Sl.mv rfl rfl ?_
                refine Sl.mv rfl rfl ?_
                refine Sl.mv rfl rfl ?_
                refine Sl.ia rfl rfl rfl (by omega) ?_
                refine Sl.ldE A hN q hw rfl rfl (by omega) rfl rfl ?_
                refine Sl.cl (rget_is cb sb most (memDo l (keyS nd, ⟨#[]⟩, true)) nd) rfl rfl ?_
                rintro _ _ ⟨rfl, rfl⟩
                simp only [List.cons_append, List.nil_append]
                simp only [hg1]
                refine Sl.mv rfl rfl ?_
                refine Sl.xt rfl rfl rfl ?_
                refine Sl.xt rfl rfl rfl ?_
                refine Sl.al rfl (fun b18 => ?_)
                refine Sl.sta rfl rfl (idc_len (bs := zer 32) (by simp [zer])) idc_one (setR_full (by rw [idc_len (by simp [zer])]; rfl)) ?_
                refine Sl.asg rfl rfl ?_
                refine Sl.en ?_
                refine Sl.thenN ?_
                refine Sl.sq ?_
                refine Sl.rg ?_
                refine Sl.mv rfl rfl ?_
                refine Sl.neqI rfl rfl rfl ?_
                refine Sl.en ?_
                refine Sl.thenN ?_
                refine Sl.cdP rfl (fun h152 => ?_) (fun h152 => ?_)
                · skip
                  exact absurd rfl h152 --closed
                · skip
                  refine Sl.sk ?_
                  refine Sl.thenN ?_
                  exact Sl.join ⟨_, _, pa', pc', osl ct' encP 2 pa' pc' _, (hb.del nd).mono (by omega), osl_is (fun _ _ => rfl), by (have := done_gone_len hb.srt nd; omega), rfl, rfl⟩ ⟨rfl, rfl, trivial⟩ Sl.perm
              · skip
                refine Sl.sk ?_
                refine Sl.thenN ?_
                exact Sl.join ⟨l, pairs, pa, pc, B, hb.mono (by omega), hB, by omega, rfl, rfl⟩ ⟨rfl, rfl, trivial⟩ Sl.perm
            · skip
              have h121 := of_decide_eq_false h121
              refine Sl.gskip rfl rfl rfl rfl rfl rfl ?_
              refine Sl.gskip rfl rfl rfl rfl rfl rfl ?_
              refine Sl.gskip rfl rfl rfl rfl rfl rfl ?_
              refine Sl.gskip rfl rfl rfl rfl rfl rfl ?_
              refine Sl.pk rfl rfl rfl ?_
              refine Sl.en ?_
              refine Sl.thenN ?_
              refine Sl.cdF rfl ?_
              refine Sl.sk ?_
              refine Sl.thenN ?_
              exact Sl.join ⟨l, pairs, pa, pc, B, hb.mono (by omega), hB, by omega, rfl, rfl⟩ ⟨rfl, rfl, trivial⟩ Sl.perm
          rintro s L ⟨l, pairs, pa, pc, B, hb, hB, hpl, rfl, rfl⟩
          refine Sl.sq ?_
          obtain ⟨pl, hr, hll, hlist⟩ := hb.list hpl (by omega)
          refine Sl.rg ?_
          refine Sl.mv rfl rfl ?_
          refine Sl.cl (rlist_is sortH cb sb most l pl hr (by omega)) rfl rfl ?_
          rintro _ _ ⟨ra, rc, RA, rfl, hRA, rfl⟩
          simp only [List.cons_append, List.nil_append]
          rw [hlist] at hRA ⊢
          replace hRA : SlIs RA encR 34 ra (pairs.map brOf).length (pairs.map brOf) := hRA
          have hol : (pairs.map brOf).length = pairs.length := by simp
          refine Sl.mv rfl rfl ?_
          refine Sl.xt rfl rfl rfl ?_
          refine Sl.xt rfl rfl rfl ?_
          refine Sl.asg rfl rfl ?_
          refine Sl.asg rfl rfl ?_
          refine Sl.en ?_
          refine Sl.thenN ?_
          refine Sl.sq ?_
          refine Sl.sq ?_
          refine Sl.rg ?_
          refine Sl.mv rfl rfl ?_
          refine Sl.neqI rfl rfl rfl ?_
          refine Sl.mv rfl rfl ?_
          refine Sl.split (t := 160) rfl (fun h160 => ?_) (fun h160 => ?_)
          · skip
            exact absurd h160 (by simp) --closed
          · skip
            refine Sl.gdo rfl rfl ?_
            refine Sl.mv rfl rfl ?_
            refine Sl.gdo rfl rfl ?_
            refine Sl.lnL rfl rfl ?_
            refine Sl.gdo rfl rfl ?_
            refine Sl.mv rfl rfl ?_
            refine Sl.gdo rfl rfl ?_
            refine Sl.lnL rfl rfl ?_
            refine Sl.gdo rfl rfl ?_
            refine Sl.neqI rfl rfl rfl ?_
            refine Sl.pk rfl rfl rfl ?_
            refine Sl.en ?_
            refine Sl.thenN ?_
            refine Sl.cdP rfl (fun h166 => ?_) (fun h166 => ?_)
            · skip
              exact absurd (by simp) h166 --closed
            · skip
              refine Sl.sk ?_
              refine Sl.thenN ?_
              refine Sl.sq ?_
              refine Sl.sq ?_
              refine Sl.rg ?_
              refine Sl.mv rfl rfl ?_
              refine Sl.lnL rfl rfl ?_
              refine Sl.mv rfl rfl ?_
              refine Sl.en ?_
              refine Sl.thenN ?_
              refine Sl.bl ?_
              refine Sl.lp0 (fun m s L => ∃ i : Nat, i ≤ pairs.length ∧ m = pairs.length - i ∧
                  s = [(169, .int .i64 (i : Nat)), (168, .int .i64 ((pairs.map brOf).length : Nat)), (167, .slice ra (pairs.map brOf).length rc), (10, .slice pa pairs.length pc)] ∧ L = [RA, A, B, F])
                  pairs.length _ _ ⟨0, Nat.zero_le _, rfl, rfl, rfl⟩ ⟨rfl, rfl, rfl, rfl, trivial⟩ Sl.perm ?_
              rintro m s L ⟨i, hi, rfl, rfl, rfl⟩
              refine Sl.sq ?_
              refine Sl.rg ?_
              refine Sl.lss rfl rfl rfl ?_
              refine Sl.en ?_
              refine Sl.thenN ?_
              refine Sl.sq ?_
              refine Sl.cdP rfl (fun h170 => ?_) (fun h170 => ?_)
              · skip
                refine Sl.sk ?_
                refine Sl.thenN ?_
                refine Sl.sq ?_
                refine Sl.bl ?_
                refine Sl.sq ?_
                obtain ⟨⟨pk, pv⟩, hp⟩ : ∃ w, pairs[i]? = some w := ⟨pairs[i]'(by omega), by simp⟩
                obtain ⟨_, k, bs, hbs, hgi, hpv⟩ := hb.good _ (List.mem_of_getElem? hp)
                have hw : (pairs.map brOf)[i]? = some (pk, k, bs) := by rw [List.getElem?_map, hp, Option.map_some, brOf_good hbs hgi hpv]
                simp only at hpv
                refine Sl.slAddr RA hRA (by omega) (fun ab ao ha => ?_)
                subst ha
                refine Sl.slAddr B hB (by omega) (fun pb po ha => ?_)
                subst ha
                refine Sl.rg ?_
                refine Sl.mv rfl rfl ?_
                refine Sl.ia rfl rfl rfl (by omega) ?_
                refine Sl.ldEa RA hRA i hw rfl rfl rfl ?_
                refine Sl.al rfl (fun b23 => ?_)
                refine Sl.asg rfl rfl ?_
                refine Sl.sta rfl rfl (encR_len hbs) encR_one (setR_full (by rw [encR_len hbs]; rfl)) ?_
                refine Sl.en ?_
                refine Sl.thenN ?_
                refine Sl.sq ?_
                refine Sl.rgQ (by kernel_rfl) (by kernel_rfl) ?_
                refine Sl.faQ rfl rfl ?_
                refine Sl.ldQ (v := .string pk) rfl rfl rfl ?_
                refine Sl.mvQ rfl rfl ?_
                refine Sl.mvQ rfl rfl ?_
                refine Sl.iaQ rfl rfl rfl (by omega) ?_
                refine Sl.faQ rfl rfl ?_
                refine Sl.ldCQ B rfl rfl (v := .string pk) (by rw [show po + (i : Int).toNat * 2 + 0 = po + i * 2 + 0 from by omega]; exact SlIs.cell hB hp (by decide) rfl) ?_
                refine Sl.neqSQ rfl rfl rfl ?_
                refine Sl.mvQ rfl rfl ?_
                refine Sl.splitQ (t := 182) rfl (fun h182 => ?_) (fun h182 => ?_)
                · skip
                  exact absurd h182 (by simp) --closed
                · skip
                  refine Sl.gdoQ rfl rfl ?_
                  refine Sl.faQ rfl rfl ?_
                  refine Sl.gdoQ rfl rfl ?_
                  refine Sl.ldaQ (vs := idc k bs) rfl rfl (Sl.sub_all (idc_len hbs)) ?_
                  refine Sl.gdoQ rfl rfl ?_
                  refine Sl.clQ (name14_is k bs hbs) rfl rfl ?_
                  refine Sl.gdoQ rfl rfl ?_
                  refine Sl.mvQ rfl rfl ?_
                  refine Sl.gdoQ rfl rfl ?_
                  refine Sl.mvQ rfl rfl ?_
                  refine Sl.gdoQ rfl rfl ?_
                  refine Sl.iaQ rfl rfl rfl (by omega) ?_
                  refine Sl.gdoQ rfl rfl ?_
                  refine Sl.faQ rfl rfl ?_
                  refine Sl.gdoQ rfl rfl ?_
                  refine Sl.ldCQ B rfl rfl (v := .string pv) (by rw [show po + (i : Int).toNat * 2 + 1 = po + i * 2 + 1 from by omega]; exact SlIs.cell hB hp (by decide) rfl) ?_
                  refine Sl.gdoQ rfl rfl ?_
                  refine Sl.neqSQ rfl rfl rfl ?_
                  refine Sl.pkQ rfl rfl rfl ?_
                  refine Sl.enQ ?_
                  refine Sl.thenN ?_
                  refine Sl.cdP rfl (fun h192 => ?_) (fun h192 => ?_)
                  · skip
                    exact absurd hpv.symm h192 --closed
                  · skip
                    refine Sl.sk ?_
                    refine Sl.blkN ?_
                    refine Sl.thenN ?_
                    refine Sl.rg ?_
                    refine Sl.add rfl rfl rfl (Sl.fits_i64 (by omega)) ?_
                    refine Sl.mv rfl rfl ?_
                    refine Sl.en ?_
                    refine Sl.thenN ?_
                    exact Sl.again (m' := pairs.length - (i + 1)) ⟨i + 1, by omega, rfl, rfl, rfl⟩ (by omega) ⟨rfl, rfl, rfl, rfl, trivial⟩ Sl.perm
              · skip
                refine Sl.xi ?_
                refine Sl.thenE ?_
                refine Sl.thenE ?_
                refine Sl.blkE ?_
                refine Sl.thenN ?_
                refine Sl.sq ?_
                refine Sl.rg ?_
                refine Sl.asg rfl rfl ?_
                refine Sl.en ?_
                refine Sl.thenN ?_
                refine Sl.rt ?_
                exact Sl.ret1 [A] Tryz.results5 rfl ⟨rfl, rfl⟩ Sl.perm
end Go.Proofs.YtdcjlbfmdkgcpaaGreatDoor
