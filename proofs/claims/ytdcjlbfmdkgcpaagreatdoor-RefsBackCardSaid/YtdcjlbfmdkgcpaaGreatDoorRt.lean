/- The law RefsMany, walked. -/
import Derived.Test.YtdcjlbfmdkgcpaaGreatDoorProg
import Derived.Test.YtdcjlbfmdkgcpaaGreatDoorRr
set_option linter.unusedSimpArgs false
set_option linter.unusedVariables false
namespace Go.Proofs.YtdcjlbfmdkgcpaaGreatDoor
open Go.Sl
instance tyRtAg24 : Sl.Ag Tryz.prog 24 33 := ⟨Tryz.isAgg24, Tryz.sizeOf24⟩
instance tyRtAg39 : Sl.Ag Tryz.prog 39 34 := ⟨Tryz.isAgg39, Tryz.sizeOf39⟩
instance tyRtBy39 : Sl.ByT Tryz.prog 39 56 := ⟨fun w => ⟨_, Tryz.typeInfo39 w, rfl⟩⟩
instance tyRtBt34 : Sl.BytT Tryz.prog 34 5 := ⟨Tryz.runUnderlying34, Tryz.runUnderlying5⟩
instance tyRtCa10 : Sl.Ca Tryz.prog 10 := ⟨Tryz.call10⟩
instance tyRtCa11 : Sl.Ca Tryz.prog 11 := ⟨Tryz.call11⟩
instance tyRtCa6 : Sl.Ca Tryz.prog 6 := ⟨Tryz.call6⟩
instance tyRtCa7 : Sl.Ca Tryz.prog 7 := ⟨Tryz.call7⟩
instance tyRtCa8 : Sl.Ca Tryz.prog 8 := ⟨Tryz.call8⟩
instance tyRtCa9 : Sl.Ca Tryz.prog 9 := ⟨Tryz.call9⟩
instance tyRtFa39_0 : Sl.Fa Tryz.prog 39 0 0 := Sl.Fa.mk' Tryz.runUnderlying39 rfl rfl rfl Tryz.sizeOf9 (by decide)
instance tyRtFa39_1 : Sl.Fa Tryz.prog 39 1 1 := Sl.Fa.mk' Tryz.runUnderlying39 rfl rfl rfl Tryz.sizeOf24 (by decide)
instance tyRtSc9 : Sl.Sc Tryz.prog 9 := ⟨Tryz.isAgg9, Tryz.sizeOf9⟩
instance tyRtSl35 : Sl.SlT Tryz.prog 35 39 34 := ⟨Tryz.runUnderlying35, Tryz.sizeOf39⟩
instance tyRtSt9 : Sl.StrT Tryz.prog 9 := ⟨Tryz.runUnderlying9⟩
instance tyRtSs32 : Sl.StT Tryz.prog 32 [(0, 1), (1, 1), (2, 1)] := ⟨⟨_, Tryz.runUnderlying32, fun w => by simp [Tryz.sizeOf4, Tryz.sizeOf9]⟩⟩
instance tyRtUl3 : Sl.Ul Tryz.prog 3 (.int .i64) := ⟨Tryz.runUnderlying3⟩
instance tyRtUl5 : Sl.Ul Tryz.prog 5 (.int .u8) := ⟨Tryz.runUnderlying5⟩
instance tyRtZv32 : Sl.Zv Tryz.prog 32 (.agg [.string ⟨#[]⟩, .string ⟨#[]⟩, .bool false].toArray) := ⟨Tryz.zeroValue32⟩
instance tyRtZv39 : Sl.Zv Tryz.prog 39 (.agg [.string ⟨#[]⟩, .int .u8 0, .int .u8 0, .int .u8 0, .int .u8 0, .int .u8 0, .int .u8 0, .int .u8 0, .int .u8 0, .int .u8 0, .int .u8 0, .int .u8 0, .int .u8 0, .int .u8 0, .int .u8 0, .int .u8 0, .int .u8 0, .int .u8 0, .int .u8 0, .int .u8 0, .int .u8 0, .int .u8 0, .int .u8 0, .int .u8 0, .int .u8 0, .int .u8 0, .int .u8 0, .int .u8 0, .int .u8 0, .int .u8 0, .int .u8 0, .int .u8 0, .int .u8 0, .int .u8 0].toArray) := ⟨Tryz.zeroValue39⟩
set_option maxRecDepth 4000
/-- The names that a law gives to its branches. -/
def bd2 (i : Nat) : List UInt8 := [UInt8.ofNat (48 + i / 10), UInt8.ofNat (48 + i % 10)]
def bn (i : Nat) : Str := (⟨#[98]⟩ : Str) ++ ⟨(bd2 i).toArray⟩
theorem bn_mk (i : Nat) : bn i = ⟨(98 :: bd2 i).toArray⟩ := by
  apply ByteArray.ext
  apply Array.ext'
  simp [bn]
theorem bd_ok : ∀ i : Fin 60, (bd2 i.1).all chOk = true := by decide +kernel
theorem bd_lt : ∀ i j : Fin 60, j.1 < i.1 → Op.bytesLess (bd2 j.1) (bd2 i.1) = true := by decide +kernel
theorem gname_bn {i : Nat} (h : i < 60) : gname (bn i) = true := by
  have h1 := bd_ok ⟨i, h⟩
  rw [bn_mk]
  simp only [gname, size_mk, List.length_cons]
  simp only [List.all_cons, h1, show chOk 98 = true from by decide, show (bd2 i).length = 2 from rfl]
  decide
theorem slt_bn {i j : Nat} (h : j < i) (hi : i < 60) : slt (bn j) (bn i) = true := by
  have h1 := bd_lt ⟨i, hi⟩ ⟨j, by omega⟩ h
  rw [bn_mk, bn_mk]
  unfold slt
  rw [toList_data, toList_data]
  simp only [Op.bytesLess]
  simp [h1]
theorem bn_size (i : Nat) : (bn i).size = 3 := by rw [bn_mk, size_mk]; rfl
def brs (t : Str) (n : Nat) : Prs := (List.range n).map fun j => (bn j, t)
theorem srt_brs {t : Str} {n : Nat} (h : n ≤ 60) : Srt (brs t n) := by
  unfold Srt brs
  rw [List.pairwise_map]
  refine (List.pairwise_lt_range (n := n)).imp_of_mem ?_
  intro a b ha hb hab
  exact slt_bn hab (by have := List.mem_range.1 hb; omega)
theorem doneP_last {pl : Prs} (h : Srt pl) (w : Wr) (hw : w.2.2 = false) (hlt : ∀ p ∈ pl, slt p.1 w.1 = true) : doneP pl w = pl ++ [(w.1, w.2.1)] := by
  rw [doneP_eq h, hw]
  have e1 : pl.filter (fun p => slt p.1 w.1) = pl := List.filter_eq_self.2 hlt
  have e2 : pl.filter (fun p => slt w.1 p.1) = [] := by
    rw [List.filter_eq_nil_iff]
    intro p hp q
    rw [slt_asymm (hlt p hp)] at q; cases q
  rw [e1, e2]; simp
theorem doneP_brs {t : Str} {n : Nat} (h : n < 60) : doneP (brs t n) (bn n, t, false) = brs t (n + 1) := by
  rw [doneP_last (srt_brs (by omega)) _ rfl (fun p hp => by
    obtain ⟨j, hj, rfl⟩ := List.mem_map.1 hp
    exact slt_bn (List.mem_range.1 hj) h)]
  simp [brs, List.range_succ]
theorem key_lt_s (n : Str) : slt (keyS n) ⟨#[115]⟩ = true := by
  rw [keyS_mk]
  unfold slt
  rw [toList_data, toList_data]
  simp [Op.bytesLess]
theorem q_lt_r : slt ⟨#[113]⟩ ⟨#[114]⟩ = true := by unfold slt; rw [toList_data, toList_data]; rfl
theorem s_ge_r : slt ⟨#[115]⟩ ⟨#[114]⟩ = false := by unfold slt; rw [toList_data, toList_data]; rfl
theorem key_ge_r (n : Str) : slt (keyS n) ⟨#[114]⟩ = false := head_lt (headR_key n)
theorem filter_kf (ps : Prs) : (ps.map kf).filter (fun p => !slt p.1 ⟨#[114]⟩) = ps.map kf := by
  apply List.filter_eq_self.2
  intro p hp
  obtain ⟨q, _, rfl⟩ := List.mem_map.1 hp
  simp [kf, key_ge_r]
theorem many_scan {ps : Prs} (h : Srt ps) : scanP (doneP (doneP (ps.map kf) (⟨#[115]⟩, ⟨#[]⟩, false)) (⟨#[113]⟩, ⟨#[]⟩, false)) ⟨#[114]⟩ 33 = (ps.map kf ++ ([(⟨#[115]⟩, ⟨#[]⟩)] : Prs)).take 33 := by
  unfold scanP
  rw [filter_doneP (doneP_srt (srt_kf h) _), if_pos q_lt_r, filter_doneP (srt_kf h), if_neg (by rw [s_ge_r]; simp), filter_kf]
  rw [doneP_last (srt_kf h) _ rfl (fun p hp => by
    obtain ⟨q, _, rfl⟩ := List.mem_map.1 hp
    exact key_lt_s _)]
  rfl
theorem brs_at {t : Str} {n i : Nat} (h : i < n) : (brs t n)[i]? = some (bn i, t) := by
  unfold brs; simp [h]
theorem brs_good {k : UInt8} {bs : List UInt8} (hb : bs.length = 32) (hg : goodId k bs = true) {n : Nat} (h : n ≤ 60) : ∀ p ∈ brs (txt k bs) n, GoodBr p := by
  intro p hp
  obtain ⟨j, hj, rfl⟩ := List.mem_map.1 hp
  exact ⟨gname_bn (by have := List.mem_range.1 hj; omega), by simp only [parse_txt hb hg]; rfl⟩
theorem many_few {k : UInt8} {bs : List UInt8} (hb : bs.length = 32) (hg : goodId k bs = true) {n : Nat} (h : n ≤ 32) :
    listGo (((brs (txt k bs) n).map kf ++ ([(⟨#[115]⟩, ⟨#[]⟩)] : Prs)).take 33) [] = ((List.range n).map (fun j => (bn j, k, bs)), 0) := by
  rw [List.take_of_length_le (by simp [brs]; omega), listGo_map (brs_good hb hg (by omega)) (by simp [brs]; omega) (fun p hp => by simp at hp; subst hp; decide)]
  simp only [List.nil_append, brs, List.map_map]
  congr 1
  apply List.map_congr_left
  intro j _
  simp [brOf, parse_txt hb hg]
theorem many_more {k : UInt8} {bs : List UInt8} (hb : bs.length = 32) (hg : goodId k bs = true) {n : Nat} (h : 32 < n) (h2 : n ≤ 60) :
    listGo (((brs (txt k bs) n).map kf ++ ([(⟨#[115]⟩, ⟨#[]⟩)] : Prs)).take 33) [] = ([], 4) := by
  rw [List.take_append_of_le_length (by simp [brs]; omega), ← List.map_take]
  have := listGo_many (ps := (brs (txt k bs) n).take 33) (zs := []) (out := []) (fun p hp => brs_good hb hg h2 p (List.mem_of_mem_take hp)) (by simp) (by simp [brs]; omega)
  simpa using this
theorem memNext_one {l : Prs} {w : Wr} (h : memBad [w] = false) : memNext l [w] = memDo l w := by rw [memNext, h]; rfl
theorem memBad_key {n : Str} {k : UInt8} {bs : List UInt8} (hn : gname n = true) : memBad [(keyS n, txt k bs, false)] = false := by
  have h1 := gname_size hn
  have h2 := txt_size k bs
  have h3 : (keyS n).size = 1 + n.size := by rw [keyS_mk, size_mk, sz_list]; simp; omega
  simp [memBad, badW, h3]; omega
theorem hbn {n : Nat} : ((List.range n).map (fun j => ((bn j, (0 : UInt8), ([] : List UInt8)) : Br))).length = n := by simp

theorem many_is (sortH : SortHyp) (n : Int) (k : UInt8) (bs : List UInt8) (hb : bs.length = 32) :
    Fnc Tryz.prog 3 [.int .i64 n, .agg (idc k bs).toArray] [] (fun v L' => v = .bool true ∧ L' = []) := by
  refine Sl.fn_intro Tryz.func3 rfl Tryz.ntmps3 rfl (fun g F => ?_)
  simp only [Sl.slotsOf, List.cons_append, List.nil_append, Nat.reduceAdd]
  refine Sl.sq ?_
  refine Sl.rg ?_
  refine Sl.bxa (vs := idc k bs) rfl rfl (fun b3 => ?_)
  refine Sl.asg rfl rfl ?_
  refine Sl.en ?_
  refine Sl.thenN ?_
  refine Sl.sq ?_
  refine Sl.sq ?_
  refine Sl.rg ?_
  refine Sl.cl (alive_is) rfl rfl ?_
  rintro _ _ ⟨rfl, rfl⟩
  simp only [List.cons_append, List.nil_append]
  refine Sl.nt rfl rfl ?_
  refine Sl.en ?_
  refine Sl.thenN ?_
  refine Sl.cdF rfl ?_
  refine Sl.sk ?_
  refine Sl.thenN ?_
  refine Sl.sq ?_
  refine Sl.sq ?_
  refine Sl.rg ?_
  refine Sl.mv rfl rfl ?_
  refine Sl.lss rfl rfl rfl ?_
  refine Sl.mv rfl rfl ?_
  refine Sl.split (t := 15) rfl (fun h15 => ?_) (fun h15 => ?_)
  · skip
    have h15 := of_decide_eq_true h15
    refine Sl.gskip rfl rfl rfl rfl rfl rfl ?_
    refine Sl.gskip rfl rfl rfl rfl rfl rfl ?_
    refine Sl.pk rfl rfl rfl ?_
    refine Sl.mv rfl rfl ?_
    refine Sl.split (t := 19) rfl (fun h19 => ?_) (fun h19 => ?_)
    · skip
      skip
      refine Sl.gskip rfl rfl rfl rfl rfl rfl ?_
      refine Sl.gskip rfl rfl rfl rfl rfl rfl ?_
      refine Sl.gskip rfl rfl rfl rfl rfl rfl ?_
      refine Sl.pk rfl rfl rfl ?_
      refine Sl.en ?_
      refine Sl.thenN ?_
      refine Sl.cdT rfl ?_
      refine Sl.sq ?_
      refine Sl.rg ?_
      refine Sl.asg rfl rfl ?_
      refine Sl.en ?_
      refine Sl.thenN ?_
      refine Sl.rt ?_
      refine Sl.thenR ?_
      exact Sl.ret1 [] Tryz.results3 rfl ⟨rfl, rfl⟩ Sl.perm
    · skip
      cases h19 --closed
  · skip
    have h15 := of_decide_eq_false h15
    refine Sl.gdo rfl rfl ?_
    refine Sl.mv rfl rfl ?_
    refine Sl.gdo rfl rfl ?_
    refine Sl.gtr rfl rfl rfl ?_
    refine Sl.pk rfl rfl rfl ?_
    refine Sl.mv rfl rfl ?_
    refine Sl.split (t := 19) rfl (fun h19 => ?_) (fun h19 => ?_)
    · skip
      skip
      refine Sl.gskip rfl rfl rfl rfl rfl rfl ?_
      refine Sl.gskip rfl rfl rfl rfl rfl rfl ?_
      refine Sl.gskip rfl rfl rfl rfl rfl rfl ?_
      refine Sl.pk rfl rfl rfl ?_
      refine Sl.en ?_
      refine Sl.thenN ?_
      refine Sl.cdT rfl ?_
      refine Sl.sq ?_
      refine Sl.rg ?_
      refine Sl.asg rfl rfl ?_
      refine Sl.en ?_
      refine Sl.thenN ?_
      refine Sl.rt ?_
      refine Sl.thenR ?_
      exact Sl.ret1 [] Tryz.results3 rfl ⟨rfl, rfl⟩ Sl.perm
    · skip
      have h19 := of_decide_eq_false h19
      refine Sl.gdo rfl rfl ?_
      refine Sl.lda rfl rfl (Sl.sub_all (idc_len hb)) ?_
      refine Sl.gdo rfl rfl ?_
      refine Sl.cl (name14_is k bs hb) rfl rfl ?_
      rintro _ _ ⟨rfl, rfl⟩
      simp only [List.cons_append, List.nil_append]
      refine Sl.gdo rfl rfl ?_
      refine Sl.eqlS rfl rfl rfl ?_
      refine Sl.pk rfl rfl rfl ?_
      refine Sl.en ?_
      refine Sl.thenN ?_
      refine Sl.cdP rfl (fun h23 => ?_) (fun h23 => ?_)
      · skip
        refine Sl.sq ?_
        refine Sl.rg ?_
        refine Sl.asg rfl rfl ?_
        refine Sl.en ?_
        refine Sl.thenN ?_
        refine Sl.rt ?_
        refine Sl.thenR ?_
        exact Sl.ret1 [] Tryz.results3 rfl ⟨rfl, rfl⟩ Sl.perm
      · skip
        have hg := txt_good h23
        obtain ⟨n, rfl⟩ : ∃ m : Nat, n = (m : Int) := ⟨n.toNat, by omega⟩
        have hn60 : n ≤ 60 := by omega
        obtain ⟨t, ht⟩ : ∃ t, t = txt k bs := ⟨_, rfl⟩
        refine Sl.sk ?_
        refine Sl.thenN ?_
        refine Sl.sq ?_
        refine Sl.rg ?_
        refine Sl.cl (fresh_is) rfl rfl ?_
        rintro _ _ ⟨cb, sb, most, rfl, rfl⟩
        simp only [List.cons_append, List.nil_append]
        refine Sl.asg rfl rfl ?_
        refine Sl.en ?_
        refine Sl.thenN ?_
        refine Sl.sq ?_
        refine Sl.sq ?_
        refine Sl.rg ?_
        refine Sl.asg rfl rfl ?_
        refine Sl.en ?_
        refine Sl.thenN ?_
        refine Sl.bl ?_
        refine Sl.lp0 (fun m s L => ∃ (j : Nat) (l : Prs), j ≤ n ∧ m = n - j ∧ Rel ((brs t j).map kf) l ∧ (keysOf l).Nodup ∧
            s = [(6, .int .i64 (j : Nat)), (0, .int .i64 (n : Nat)), (5, .pointer (some ⟨cb, 0, none⟩)), (3, .pointer (some ⟨b3, 0, none⟩))] ∧ L = [cachM cb sb most l, memS sb l, blk b3 24 (idc k bs), F])
            n _ _ ⟨0, [], Nat.zero_le _, rfl, rel_nil, by simp [keysOf], rfl, rfl⟩ ⟨rfl, rfl, rfl, rfl, trivial⟩ Sl.perm ?_
        rintro m s L ⟨j, l, hj, rfl, hr, hnd, rfl, rfl⟩
        refine Sl.sq ?_
        refine Sl.sq ?_
        refine Sl.rg ?_
        refine Sl.mv rfl rfl ?_
        refine Sl.mv rfl rfl ?_
        refine Sl.lss rfl rfl rfl ?_
        refine Sl.en ?_
        refine Sl.thenN ?_
        refine Sl.cdP rfl (fun h27 => ?_) (fun h27 => ?_)
        · skip
          refine Sl.sk ?_
          refine Sl.thenN ?_
          refine Sl.sq ?_
          refine Sl.bl ?_
          refine Sl.sq ?_
          refine Sl.rg ?_
          refine Sl.mv rfl rfl ?_
          refine Sl.mv rfl rfl ?_
          refine Sl.qt rfl rfl rfl (by omega) (by omega) (Sl.fits_i64 (by omega)) ?_
          refine Sl.add rfl rfl rfl (Sl.fits_i64 (by omega)) ?_
          refine Sl.cvI rfl rfl (Sl.fits_u8 (by omega)) ?_
          refine Sl.mv rfl rfl ?_
          refine Sl.rm rfl rfl rfl (by omega) (by omega) ?_
          refine Sl.add rfl rfl rfl (Sl.fits_i64 (by omega)) ?_
          refine Sl.cvI rfl rfl (Sl.fits_u8 (by omega)) ?_
          refine Sl.bsL (k := 1) (zv := .int .u8 0) [.int .u8 (48 + (j : Int) / 10), .int .u8 (48 + (j : Int) % 10)] (flat encB (bd2 j)) rfl (by decide) rfl rfl rfl (by simp) (by intro v hv; simp at hv; rcases hv with rfl | rfl <;> rfl) (by simp) (by
            have e1 : (UInt8.ofNat (48 + j / 10)).toNat = 48 + j / 10 := by rw [UInt8.toNat_ofNat']; omega
            have e2 : (UInt8.ofNat (48 + j % 10)).toNat = 48 + j % 10 := by rw [UInt8.toNat_ofNat']; omega
            simp only [bd2, flat, List.flatMap_cons, List.flatMap_nil, encB, cellsL, List.append_nil, List.cons_append, List.nil_append, e1, e2]
            simp) (fun b39 => ?_)
          refine Sl.cvBSb (bs := bd2 j) rfl rfl rfl rfl ?_
          refine Sl.addS rfl rfl rfl (by (have : ByteArray.size ⟨(bd2 j).toArray⟩ = 2 := by rw [size_mk]; rfl); show 1 + ByteArray.size _ ≤ _; omega) ?_
          rw [show (⟨#[98]⟩ : Str) ++ ⟨(bd2 j).toArray⟩ = bn j from rfl]
          refine Sl.lda rfl rfl (Sl.sub_all (idc_len hb)) ?_
          refine Sl.cl (set_is (bn j) (by rw [bn_size]; decide) k bs hb) rfl rfl ?_
          rintro _ _ ⟨rfl, rfl⟩
          simp only [List.cons_append, List.nil_append]
          refine Sl.bs1a (vs := encW (keyS (bn j), txt k bs, false)) (by rfl) (by decide) (by decide) rfl rfl (by rfl) (fun b44 => ?_)
          have hbad : memBad [(keyS (bn j), txt k bs, false)] = false := memBad_key (gname_bn (by omega))
          refine Sl.cl (capply_is (blk b44 32 (encW (keyS (bn j), txt k bs, false))) (some ⟨b44, 0, none⟩) 1 cb sb most [(keyS (bn j), txt k bs, false)] l
            (blk_is (enc := encW) (o := 0) rfl (fun _ _ => rfl) (fun i hi => by simp [flat])) (by simp) hnd) rfl rfl ?_
          rintro _ _ ⟨rfl, rfl⟩
          simp only [List.cons_append, List.nil_append]
          simp only [memNext_one hbad, hbad, Bool.false_eq_true, if_false]
          refine Sl.neqI rfl rfl rfl ?_
          refine Sl.en ?_
          refine Sl.thenN ?_
          refine Sl.cdF rfl ?_
          refine Sl.sk ?_
          refine Sl.blkN ?_
          refine Sl.thenN ?_
          refine Sl.rg ?_
          refine Sl.mv rfl rfl ?_
          refine Sl.add rfl rfl rfl (Sl.fits_i64 (by omega)) ?_
          refine Sl.asg rfl rfl ?_
          refine Sl.en ?_
          refine Sl.thenN ?_
          exact Sl.again (m' := n - (j + 1)) ⟨j + 1, memDo l (keyS (bn j), txt k bs, false), by omega, rfl, by
            have := rel_do hr hnd (keyS (bn j), txt k bs, false)
            rw [doneP_kf (srt_brs (by omega)), ← ht, doneP_brs (by omega)] at this
            rw [← ht]; exact this, memDo_nodup hnd _, rfl, rfl⟩ (by omega) ⟨rfl, rfl, rfl, rfl, trivial⟩ Sl.perm
        · skip
          refine Sl.xi ?_
          refine Sl.thenE ?_
          refine Sl.thenE ?_
          refine Sl.blkE ?_
          refine Sl.thenN ?_
          refine Sl.sq ?_
          obtain rfl : j = n := by omega
          have hsrt := srt_brs (t := t) hn60
          refine Sl.rg ?_
          refine Sl.mv rfl rfl ?_
          refine Sl.bd (vs := encW (⟨#[115]⟩, ⟨#[]⟩, false)) rfl rfl rfl ?_
          refine Sl.bd (vs := encW (⟨#[113]⟩, ⟨#[]⟩, false)) rfl rfl rfl ?_
          refine Sl.bsL (k := 3) (zv := .agg #[.string ⟨#[]⟩, .string ⟨#[]⟩, .bool false]) [.agg (encW (⟨#[115]⟩, ⟨#[]⟩, false)).toArray, .agg (encW (⟨#[113]⟩, ⟨#[]⟩, false)).toArray] (flat encW [(⟨#[115]⟩, ⟨#[]⟩, false), (⟨#[113]⟩, ⟨#[]⟩, false)]) rfl (by decide) rfl rfl rfl (by simp) (by intro v hv; simp at hv; rcases hv with rfl | rfl <;> rfl) (by decide) rfl (fun b50 => ?_)
          have hbad : memBad [(⟨#[115]⟩, ⟨#[]⟩, false), (⟨#[113]⟩, ⟨#[]⟩, false)] = false := by decide
          refine Sl.cl (capply_is (blk b50 32 (flat encW [(⟨#[115]⟩, ⟨#[]⟩, false), (⟨#[113]⟩, ⟨#[]⟩, false)])) (some ⟨b50, 0, none⟩) 2 cb sb most [(⟨#[115]⟩, ⟨#[]⟩, false), (⟨#[113]⟩, ⟨#[]⟩, false)] l
            (blk_is (enc := encW) (o := 0) rfl (fun _ _ => rfl) (fun i hi => by simp)) (by simp) hnd) rfl rfl ?_
          rintro _ _ ⟨rfl, rfl⟩
          simp only [List.cons_append, List.nil_append]
          obtain ⟨l2, hl2⟩ : ∃ l2, l2 = memNext l [(⟨#[115]⟩, ⟨#[]⟩, false), (⟨#[113]⟩, ⟨#[]⟩, false)] := ⟨_, rfl⟩
          rw [← hl2]
          have hnd2 : (keysOf l2).Nodup := by rw [hl2]; exact memNext_nodup hnd
          have hr2 : Rel (doneP (doneP ((brs t j).map kf) (⟨#[115]⟩, ⟨#[]⟩, false)) (⟨#[113]⟩, ⟨#[]⟩, false)) l2 := by
            rw [hl2, memNext, hbad]
            exact rel_app (ws := [(⟨#[115]⟩, ⟨#[]⟩, false), (⟨#[113]⟩, ⟨#[]⟩, false)]) hr hnd
          obtain ⟨pl2, hpl2⟩ : ∃ pl2, pl2 = doneP (doneP ((brs t j).map kf) (⟨#[115]⟩, ⟨#[]⟩, false)) (⟨#[113]⟩, ⟨#[]⟩, false) := ⟨_, rfl⟩
          rw [← hpl2] at hr2
          have hll : l2.length ≤ 62 := by
            rw [← Rel.len hr2 hnd2, hpl2]
            have h1 := doneP_len (doneP_srt (srt_kf hsrt) (⟨#[115]⟩, ⟨#[]⟩, false)) (⟨#[113]⟩, ⟨#[]⟩, false)
            have h2 := doneP_len (srt_kf hsrt) (⟨#[115]⟩, ⟨#[]⟩, false)
            have h3 : ((brs t j).map kf).length = j := by simp [brs]
            omega
          refine Sl.en ?_
          refine Sl.thenN ?_
          refine Sl.sq ?_
          refine Sl.rg ?_
          refine Sl.mv rfl rfl ?_
          refine Sl.cl (rlist_is sortH cb sb most l2 pl2 hr2 (by omega)) rfl rfl ?_
          rintro _ _ ⟨ra, rc, RA, rfl, hRA, rfl⟩
          simp only [List.cons_append, List.nil_append]
          rw [hpl2, many_scan hsrt, ht] at hRA ⊢
          refine Sl.mv rfl rfl ?_
          refine Sl.xt rfl rfl rfl ?_
          refine Sl.xt rfl rfl rfl ?_
          refine Sl.asg rfl rfl ?_
          refine Sl.asg rfl rfl ?_
          refine Sl.en ?_
          refine Sl.thenN ?_
          refine Sl.sq ?_
          refine Sl.sq ?_
          refine Sl.rg ?_
          refine Sl.mv rfl rfl ?_
          refine Sl.gtr rfl rfl rfl ?_
          refine Sl.en ?_
          refine Sl.thenN ?_
          refine Sl.cdP rfl (fun h58 => ?_) (fun h58 => ?_)
          · skip
            rw [many_more hb hg (by omega) hn60] at hRA ⊢
            refine Sl.sq ?_
            refine Sl.rg ?_
            refine Sl.mv rfl rfl ?_
            refine Sl.eqlI rfl rfl rfl ?_
            refine Sl.mv rfl rfl ?_
            refine Sl.split (t := 61) rfl (fun h61 => ?_) (fun h61 => ?_)
            · skip
              refine Sl.gdo rfl rfl ?_
              refine Sl.mv rfl rfl ?_
              refine Sl.gdo rfl rfl ?_
              refine Sl.lnL rfl rfl ?_
              refine Sl.gdo rfl rfl ?_
              refine Sl.eqlI rfl rfl rfl ?_
              refine Sl.pk rfl rfl rfl ?_
              refine Sl.asg rfl rfl ?_
              refine Sl.en ?_
              refine Sl.thenN ?_
              refine Sl.rt ?_
              refine Sl.thenR ?_
              exact Sl.ret1 [] Tryz.results3 rfl ⟨rfl, rfl⟩ Sl.perm
            · skip
              exact absurd h61 (by decide) --closed
          · skip
            rw [many_few hb hg (by omega)] at hRA ⊢
            obtain ⟨out, hout⟩ : ∃ out : List Br, out = (List.range j).map (fun i => (bn i, k, bs)) := ⟨_, rfl⟩
            rw [← hout] at hRA ⊢
            replace hRA : SlIs RA encR 34 ra out.length out := hRA
            have hol : out.length = j := by rw [hout]; simp
            refine Sl.sk ?_
            refine Sl.thenN ?_
            refine Sl.sq ?_
            refine Sl.sq ?_
            refine Sl.rg ?_
            refine Sl.mv rfl rfl ?_
            refine Sl.lnL rfl rfl ?_
            refine Sl.mv rfl rfl ?_
            refine Sl.en ?_
            refine Sl.thenN ?_
            refine Sl.bl ?_
            refine Sl.lp0 (fun m s L => ∃ i : Nat, i ≤ out.length ∧ m = out.length - i ∧
                s = [(68, .int .i64 (i : Nat)), (67, .int .i64 (out.length : Nat)), (66, .slice ra out.length rc), (7, .slice ra out.length rc), (8, .int .i64 0), (0, .int .i64 (j : Nat)), (3, .pointer (some ⟨b3, 0, none⟩))] ∧ L = [RA, blk b3 24 (idc k bs), F])
                out.length _ _ ⟨0, Nat.zero_le _, rfl, rfl, rfl⟩ ⟨rfl, rfl, rfl, rfl, rfl, rfl, rfl, trivial⟩ Sl.perm ?_
            rintro m s L ⟨i, hi, rfl, rfl, rfl⟩
            refine Sl.sq ?_
            refine Sl.rg ?_
            refine Sl.lss rfl rfl rfl ?_
            refine Sl.en ?_
            refine Sl.thenN ?_
            refine Sl.sq ?_
            refine Sl.cdP rfl (fun h69 => ?_) (fun h69 => ?_)
            · skip
              refine Sl.sk ?_
              refine Sl.thenN ?_
              refine Sl.sq ?_
              refine Sl.bl ?_
              refine Sl.sq ?_
              have hw : out[i]? = some (bn i, k, bs) := by rw [hout, List.getElem?_map, List.getElem?_range (by omega)]; rfl
              refine Sl.slAddr RA hRA (by omega) (fun ab ao ha => ?_)
              subst ha
              refine Sl.rg ?_
              refine Sl.mv rfl rfl ?_
              refine Sl.ia rfl rfl rfl (by omega) ?_
              refine Sl.ldEa RA hRA i hw rfl rfl rfl ?_
              refine Sl.al rfl (fun b10 => ?_)
              refine Sl.asg rfl rfl ?_
              refine Sl.sta rfl rfl (encR_len hb) encR_one (setR_full (by rw [encR_len hb]; rfl)) ?_
              refine Sl.en ?_
              refine Sl.thenN ?_
              refine Sl.sq ?_
              refine Sl.rgQ (by kernel_rfl) (by kernel_rfl) ?_
              refine Sl.faQ rfl rfl ?_
              refine Sl.ldaQ (vs := idc k bs) rfl rfl (Sl.sub_all (idc_len hb)) ?_
              refine Sl.ldaQ rfl rfl (Sl.sub_all (idc_len hb)) ?_
              refine Sl.neqGQ rfl rfl rfl Tryz.eqGuardType24 (eqId hb hb) ?_
              refine Sl.mvQ rfl rfl ?_
              refine Sl.splitQ (t := 77) rfl (fun h77 => ?_) (fun h77 => ?_)
              · skip
                exact absurd h77 (by simp) --closed
              · skip
                refine Sl.gdoQ rfl rfl ?_
                refine Sl.mvQ rfl rfl ?_
                refine Sl.gdoQ rfl rfl ?_
                refine Sl.gtrQ rfl rfl rfl ?_
                refine Sl.gdoQ rfl rfl ?_
                refine Sl.mvQ rfl rfl ?_
                refine Sl.splitQ (t := 80) rfl (fun h80 => ?_) (fun h80 => ?_)
                · skip
                  have h80 := of_decide_eq_true h80
                  obtain ⟨q, hq⟩ : ∃ q, i = q + 1 := ⟨i - 1, by omega⟩
                  have hw2 : out[q]? = some (bn q, k, bs) := by rw [hout, List.getElem?_map, List.getElem?_range (by omega)]; rfl
                  refine Sl.gdoQ rfl rfl ?_
                  refine Sl.mvQ rfl rfl ?_
                  refine Sl.gdoQ rfl rfl ?_
                  refine Sl.mvQ rfl rfl ?_
                  refine Sl.gdoQ rfl rfl ?_
                  refine Sl.sbQ rfl rfl rfl (Sl.fits_i64 (by omega)) ?_
                  refine Sl.gdoQ rfl rfl ?_
                  refine Sl.iaQ rfl rfl rfl (by omega) ?_
                  refine Sl.gdoQ rfl rfl ?_
                  refine Sl.faQ rfl rfl ?_
                  refine Sl.gdoQ rfl rfl ?_
                  refine Sl.ldCQ RA rfl rfl (v := .string (bn q)) (by rw [show ao + ((i : Int) - 1).toNat * 34 + 0 = ao + q * 34 + 0 from by omega]; exact SlIs.cell hRA hw2 (by decide) rfl) ?_
                  refine Sl.gdoQ rfl rfl ?_
                  refine Sl.faQ rfl rfl ?_
                  refine Sl.gdoQ rfl rfl ?_
                  refine Sl.ldQ (v := .string (bn i)) rfl rfl rfl ?_
                  refine Sl.gdoQ rfl rfl ?_
                  refine Sl.geqSQ rfl rfl rfl ?_
                  rw [show slt (bn q) (bn i) = true from slt_bn (by omega) (by omega)]
                  refine Sl.gdoQ rfl rfl ?_
                  refine Sl.pkQ rfl rfl rfl ?_
                  refine Sl.pkQ rfl rfl rfl ?_
                  refine Sl.enQ ?_
                  refine Sl.thenN ?_
                  refine Sl.cdF rfl ?_
                  refine Sl.sk ?_
                  refine Sl.blkN ?_
                  refine Sl.thenN ?_
                  refine Sl.rg ?_
                  refine Sl.add rfl rfl rfl (Sl.fits_i64 (by omega)) ?_
                  refine Sl.mv rfl rfl ?_
                  refine Sl.en ?_
                  refine Sl.thenN ?_
                  exact Sl.again (m' := out.length - (i + 1)) ⟨i + 1, by omega, rfl, rfl, rfl⟩ (by omega) ⟨rfl, rfl, rfl, rfl, rfl, rfl, rfl, trivial⟩ Sl.perm
                · skip
                  refine Sl.gskipQ rfl rfl rfl rfl rfl rfl ?_
                  refine Sl.gskipQ rfl rfl rfl rfl rfl rfl ?_
                  refine Sl.gskipQ rfl rfl rfl rfl rfl rfl ?_
                  refine Sl.gskipQ rfl rfl rfl rfl rfl rfl ?_
                  refine Sl.gskipQ rfl rfl rfl rfl rfl rfl ?_
                  refine Sl.gskipQ rfl rfl rfl rfl rfl rfl ?_
                  refine Sl.gskipQ rfl rfl rfl rfl rfl rfl ?_
                  refine Sl.gskipQ rfl rfl rfl rfl rfl rfl ?_
                  refine Sl.gskipQ rfl rfl rfl rfl rfl rfl ?_
                  refine Sl.gdoQ rfl rfl ?_
                  refine Sl.pkQ rfl rfl rfl ?_
                  refine Sl.pkQ rfl rfl rfl ?_
                  refine Sl.enQ ?_
                  refine Sl.thenN ?_
                  refine Sl.cdF rfl ?_
                  refine Sl.sk ?_
                  refine Sl.blkN ?_
                  refine Sl.thenN ?_
                  refine Sl.rg ?_
                  refine Sl.add rfl rfl rfl (Sl.fits_i64 (by omega)) ?_
                  refine Sl.mv rfl rfl ?_
                  refine Sl.en ?_
                  refine Sl.thenN ?_
                  exact Sl.again (m' := out.length - (i + 1)) ⟨i + 1, by omega, rfl, rfl, rfl⟩ (by omega) ⟨rfl, rfl, rfl, rfl, rfl, rfl, rfl, trivial⟩ Sl.perm
            · skip
              refine Sl.xi ?_
              refine Sl.thenE ?_
              refine Sl.thenE ?_
              refine Sl.blkE ?_
              refine Sl.thenN ?_
              refine Sl.sq ?_
              have hiq : i = j := by omega
              refine Sl.rg ?_
              refine Sl.mv rfl rfl ?_
              refine Sl.eqlI rfl rfl rfl ?_
              refine Sl.mv rfl rfl ?_
              refine Sl.split (t := 95) rfl (fun h95 => ?_) (fun h95 => ?_)
              · skip
                refine Sl.gdo rfl rfl ?_
                refine Sl.mv rfl rfl ?_
                refine Sl.gdo rfl rfl ?_
                refine Sl.lnL rfl rfl ?_
                refine Sl.gdo rfl rfl ?_
                refine Sl.mv rfl rfl ?_
                refine Sl.gdo rfl rfl ?_
                refine Sl.eqlI rfl rfl rfl ?_
                refine Sl.pk rfl rfl rfl ?_
                refine Sl.asg rfl rfl ?_
                refine Sl.en ?_
                refine Sl.thenN ?_
                refine Sl.rt ?_
                exact Sl.ret1 [] Tryz.results3 rfl ⟨by rw [hol]; simp, rfl⟩ Sl.perm
              · skip
                exact absurd h95 (by decide) --closed
end Go.Proofs.YtdcjlbfmdkgcpaaGreatDoor
