/- References of a cache that is not there. -/
import Derived.Test.YtdcjlbfmdkgcpaaGreatDoorProg
import Derived.Test.YtdcjlbfmdkgcpaaGreatDoorR0
set_option linter.unusedSimpArgs false
set_option linter.unusedVariables false
namespace Go.Proofs.YtdcjlbfmdkgcpaaGreatDoor
open Go.Sl
instance tyRnAg24 : Sl.Ag Tryz.prog 24 33 := ⟨Tryz.isAgg24, Tryz.sizeOf24⟩
instance tyRnAg52 : Sl.Ag Tryz.prog 52 1 := ⟨Tryz.isAgg52, Tryz.sizeOf52⟩
instance tyRnCa26 : Sl.Ca Tryz.prog 26 := ⟨Tryz.call26⟩
instance tyRnCa32 : Sl.Ca Tryz.prog 32 := ⟨Tryz.call32⟩
instance tyRnCa34 : Sl.Ca Tryz.prog 34 := ⟨Tryz.call34⟩
instance tyRnCa37 : Sl.Ca Tryz.prog 37 := ⟨Tryz.call37⟩
instance tyRnCa39 : Sl.Ca Tryz.prog 39 := ⟨Tryz.call39⟩
instance tyRnCa40 : Sl.Ca Tryz.prog 40 := ⟨Tryz.call40⟩
instance tyRnFa52_0 : Sl.Fa Tryz.prog 52 0 0 := Sl.Fa.mk' Tryz.runUnderlying52 rfl rfl rfl Tryz.sizeOf27 (by decide)
instance tyRnPt27 : Sl.PtrT Tryz.prog 27 := Sl.PtrT.mk' Tryz.underlying27
instance tyRnSc27 : Sl.Sc Tryz.prog 27 := ⟨Tryz.isAgg27, Tryz.sizeOf27⟩
instance tyRnSs24 : Sl.StT Tryz.prog 24 [(0, 1), (1, 32)] := ⟨⟨_, Tryz.runUnderlying24, fun w => by simp [Tryz.sizeOf22, Tryz.sizeOf5]⟩⟩
instance tyRnZv24 : Sl.Zv Tryz.prog 24 (.agg [.int .u8 0, .int .u8 0, .int .u8 0, .int .u8 0, .int .u8 0, .int .u8 0, .int .u8 0, .int .u8 0, .int .u8 0, .int .u8 0, .int .u8 0, .int .u8 0, .int .u8 0, .int .u8 0, .int .u8 0, .int .u8 0, .int .u8 0, .int .u8 0, .int .u8 0, .int .u8 0, .int .u8 0, .int .u8 0, .int .u8 0, .int .u8 0, .int .u8 0, .int .u8 0, .int .u8 0, .int .u8 0, .int .u8 0, .int .u8 0, .int .u8 0, .int .u8 0, .int .u8 0].toArray) := ⟨Tryz.zeroValue24⟩
theorem cgetN_is (key : Str) : Fnc Tryz.prog 37 [.pointer none, .string key] [] (fun v L' => v = .tuple [.string ⟨#[]⟩, .bool false, .int .i64 2].toArray ∧ L' = []) := by
  refine Sl.fn_intro Tryz.func37 rfl Tryz.ntmps37 rfl (fun g F => ?_)
  simp only [Sl.slotsOf, List.cons_append, List.nil_append, Nat.reduceAdd]
  refine Sl.sq ?_
  refine Sl.rg ?_
  refine Sl.asg rfl rfl ?_
  refine Sl.asg rfl rfl ?_
  refine Sl.asg rfl rfl ?_
  refine Sl.en ?_
  refine Sl.thenN ?_
  refine Sl.sq ?_
  refine Sl.sq ?_
  refine Sl.rg ?_
  refine Sl.mv rfl rfl ?_
  refine Sl.eqlPN rfl rfl rfl ?_
  refine Sl.en ?_
  refine Sl.thenN ?_
  refine Sl.cdT rfl ?_
  refine Sl.sq ?_
  refine Sl.rg ?_
  refine Sl.asg rfl rfl ?_
  refine Sl.asg rfl rfl ?_
  refine Sl.asg rfl rfl ?_
  refine Sl.en ?_
  refine Sl.thenN ?_
  refine Sl.rt ?_
  refine Sl.thenR ?_
  exact Sl.ret3 [] Tryz.results37 rfl rfl rfl ⟨rfl, rfl⟩ Sl.perm

theorem cscanN_is (key : Str) (n : Int) : Fnc Tryz.prog 34 [.pointer none, .string key, .int .i64 n] [] (fun v L' => v = .tuple [.slice none 0 0, .int .i64 2].toArray ∧ L' = []) := by
  refine Sl.fn_intro Tryz.func34 rfl Tryz.ntmps34 rfl (fun g F => ?_)
  simp only [Sl.slotsOf, List.cons_append, List.nil_append, Nat.reduceAdd]
  refine Sl.sq ?_
  refine Sl.rg ?_
  refine Sl.asg rfl rfl ?_
  refine Sl.asg rfl rfl ?_
  refine Sl.en ?_
  refine Sl.thenN ?_
  refine Sl.sq ?_
  refine Sl.sq ?_
  refine Sl.rg ?_
  refine Sl.mv rfl rfl ?_
  refine Sl.eqlPN rfl rfl rfl ?_
  refine Sl.en ?_
  refine Sl.thenN ?_
  refine Sl.cdT rfl ?_
  refine Sl.sq ?_
  refine Sl.rg ?_
  refine Sl.asg rfl rfl ?_
  refine Sl.asg rfl rfl ?_
  refine Sl.en ?_
  refine Sl.thenN ?_
  refine Sl.rt ?_
  refine Sl.thenR ?_
  exact Sl.ret2 [] Tryz.results34 rfl rfl ⟨rfl, rfl⟩ Sl.perm

theorem rgetN_is (name : Str) (hg : gname name = true) : Fnc Tryz.prog 14 [.pointer none, .string name] [] (fun v L' => v = .tuple [.agg (idc 0 (zer 32)).toArray, .int .i64 2].toArray ∧ L' = []) := by
  refine Sl.fn_intro Tryz.func14 rfl Tryz.ntmps14 rfl (fun g F => ?_)
  simp only [Sl.slotsOf, List.cons_append, List.nil_append, Nat.reduceAdd]
  refine Sl.sq ?_
  refine Sl.rg ?_
  refine Sl.al rfl (fun b4 => ?_)
  refine Sl.asg rfl rfl ?_
  refine Sl.en ?_
  refine Sl.thenN ?_
  refine Sl.sq ?_
  refine Sl.sq ?_
  refine Sl.rg ?_
  refine Sl.mv rfl rfl ?_
  refine Sl.cl (good_is_r name) rfl rfl ?_
  rintro _ _ ⟨rfl, rfl⟩
  simp only [List.cons_append, List.nil_append]
  refine Sl.nt rfl rfl ?_
  refine Sl.en ?_
  refine Sl.thenN ?_
  refine Sl.cd rfl (fun h13 => ?_) (fun h13 => ?_)
  · skip
    exact absurd h13 (by simp [hg]) --closed
  · skip
    refine Sl.sk ?_
    refine Sl.thenN ?_
    refine Sl.sq ?_
    refine Sl.rg ?_
    refine Sl.mv rfl rfl ?_
    refine Sl.mv rfl rfl ?_
    refine Sl.cl (key_is name (by have := gname_size hg; omega)) rfl rfl ?_
    rintro _ _ ⟨rfl, rfl⟩
    simp only [List.cons_append, List.nil_append]
    refine Sl.cl (cgetN_is (keyS name)) rfl rfl ?_
    rintro _ _ ⟨rfl, rfl⟩
    simp only [List.cons_append, List.nil_append]
    refine Sl.mv rfl rfl ?_
    refine Sl.xt rfl rfl rfl ?_
    refine Sl.xt rfl rfl rfl ?_
    refine Sl.xt rfl rfl rfl ?_
    refine Sl.asg rfl rfl ?_
    refine Sl.asg rfl rfl ?_
    refine Sl.asg rfl rfl ?_
    refine Sl.en ?_
    refine Sl.thenN ?_
    refine Sl.sq ?_
    refine Sl.sq ?_
    refine Sl.rg ?_
    refine Sl.mv rfl rfl ?_
    refine Sl.neqI rfl rfl rfl ?_
    refine Sl.en ?_
    refine Sl.thenN ?_
    refine Sl.cdP rfl (fun h24 => ?_) (fun h24 => ?_)
    · skip
      refine Sl.sq ?_
      refine Sl.rg ?_
      refine Sl.bd rfl rfl rfl ?_
      refine Sl.mv rfl rfl ?_
      refine Sl.sta rfl rfl rfl (by simp [Value.oneCell']) rfl ?_
      refine Sl.asg rfl rfl ?_
      refine Sl.en ?_
      refine Sl.thenN ?_
      refine Sl.rt ?_
      refine Sl.thenR ?_
      exact Sl.retC1 [] Tryz.results14 rfl (vs := idc 0 (zer 32)) (Sl.sub_all (idc_len (k := 0) (bs := zer 32) (by simp [zer]))) rfl ⟨rfl, rfl⟩ Sl.perm
    · skip
      exact absurd h24 (by decide) --closed

theorem rlistN_is : Fnc Tryz.prog 11 [.pointer none] [] (fun v L' => v = .tuple [.slice none 0 0, .int .i64 2].toArray ∧ L' = []) := by
  refine Sl.fn_intro Tryz.func11 rfl Tryz.ntmps11 rfl (fun g F => ?_)
  simp only [Sl.slotsOf, List.cons_append, List.nil_append, Nat.reduceAdd]
  refine Sl.sq ?_
  refine Sl.rg ?_
  refine Sl.asg rfl rfl ?_
  refine Sl.asg rfl rfl ?_
  refine Sl.en ?_
  refine Sl.thenN ?_
  refine Sl.sq ?_
  refine Sl.rg ?_
  refine Sl.mv rfl rfl ?_
  refine Sl.cl (key_is ⟨#[]⟩ (by decide)) rfl rfl ?_
  rintro _ _ ⟨rfl, rfl⟩
  simp only [List.cons_append, List.nil_append]
  refine Sl.cl (cscanN_is (keyS ⟨#[]⟩) 33) rfl rfl ?_
  rintro _ _ ⟨rfl, rfl⟩
  simp only [List.cons_append, List.nil_append]
  refine Sl.mv rfl rfl ?_
  refine Sl.xt rfl rfl rfl ?_
  refine Sl.xt rfl rfl rfl ?_
  refine Sl.asg rfl rfl ?_
  refine Sl.asg rfl rfl ?_
  refine Sl.en ?_
  refine Sl.thenN ?_
  refine Sl.sq ?_
  refine Sl.sq ?_
  refine Sl.rg ?_
  refine Sl.mv rfl rfl ?_
  refine Sl.neqI rfl rfl rfl ?_
  refine Sl.en ?_
  refine Sl.thenN ?_
  refine Sl.cdP rfl (fun h18 => ?_) (fun h18 => ?_)
  · skip
    refine Sl.sq ?_
    refine Sl.rg ?_
    refine Sl.mv rfl rfl ?_
    refine Sl.asg rfl rfl ?_
    refine Sl.asg rfl rfl ?_
    refine Sl.en ?_
    refine Sl.thenN ?_
    refine Sl.rt ?_
    refine Sl.thenR ?_
    exact Sl.ret2 [] Tryz.results11 rfl rfl ⟨rfl, rfl⟩ Sl.perm
  · skip
    exact absurd h18 (by decide) --closed

theorem robjN_is (k : UInt8) (bs : List UInt8) (hb : bs.length = 32) (hg : goodId k bs = true) :
    Fnc Tryz.prog 19 [.agg #[.pointer none], .agg (idc k bs).toArray] [] (fun v L' => v = .tuple [.string ⟨#[]⟩, .int .i64 2].toArray ∧ L' = []) := by
  refine Sl.fn_intro Tryz.func19 rfl Tryz.ntmps19 rfl (fun g F => ?_)
  simp only [Sl.slotsOf, List.cons_append, List.nil_append, Nat.reduceAdd]
  refine Sl.sq ?_
  refine Sl.rg ?_
  refine Sl.bxa (vs := [.pointer none]) rfl rfl (fun b2 => ?_)
  refine Sl.bxa rfl rfl (fun b3 => ?_)
  refine Sl.asg rfl rfl ?_
  refine Sl.asg rfl rfl ?_
  refine Sl.en ?_
  refine Sl.thenN ?_
  refine Sl.sq ?_
  refine Sl.sq ?_
  refine Sl.rg ?_
  refine Sl.lda rfl rfl (Sl.sub_all (idc_len hb)) ?_
  refine Sl.cl (good_is k bs hb) rfl rfl ?_
  rintro _ _ ⟨rfl, rfl⟩
  simp only [List.nil_append]
  refine Sl.nt rfl rfl ?_
  refine Sl.en ?_
  refine Sl.thenN ?_
  refine Sl.cd rfl (fun h11 => ?_) (fun h11 => ?_)
  · skip
    exact absurd h11 (by simp [hg]) --closed
  · skip
    refine Sl.sk ?_
    refine Sl.thenN ?_
    refine Sl.sq ?_
    refine Sl.rgT ([blk b2 52 [.pointer none], blk b3 24 (idc k bs)]) [0, 1, 2, 3, 4, 5, 6, 7, 8, 9, 10] [0, 1, 2, 5, 6, 7, 8, 9, 10, 11] (by kernel_rfl) (by kernel_rfl) (by kernel_rfl) ?_
    refine Sl.tk 0 (lst' := [true, false, false, false, false, false, false, false, false, false, false, false]) rfl (Sl.faY rfl) rfl rfl rfl rfl (by kernel_rfl) (by kernel_rfl) Sl.perm rfl ?_
    refine Sl.tk 1 (lst' := [true, true, false, false, false, false, false, false, false, false, false, false]) rfl (Sl.ldY (v := .pointer none) rfl rfl) rfl rfl rfl rfl (by kernel_rfl) (by kernel_rfl) Sl.perm rfl ?_
    refine Sl.tk 2 (lst' := [true, true, true, false, false, false, false, false, false, false, false, false]) rfl (Sl.ldaY rfl (Sl.sub_all (idc_len hb))) rfl rfl rfl rfl (by kernel_rfl) (by kernel_rfl) Sl.perm rfl ?_
    refine Sl.rn1 3 (lst' := [true, true, true, true, false, false, false, false, false, false, false, false]) (by kernel_rfl) rfl rfl (fun hk hs hQ => ?_)
    refine Sl.cl (objkey_is k bs hb) rfl rfl ?_
    rintro _ _ ⟨rfl, rfl⟩
    simp only [List.nil_append]
    refine Sl.en ?_
    refine Sl.thenN ?_
    refine Sl.bk hk hs hQ (fun _ => Sl.perm) ?_
    refine Sl.rn1 4 (lst' := [true, true, true, true, true, false, false, false, false, false, false, false]) (by kernel_rfl) rfl rfl (fun hk hs hQ => ?_)
    refine Sl.cl (cgetN_is (objS k bs)) rfl rfl ?_
    rintro _ _ ⟨rfl, rfl⟩
    simp only [List.cons_append, List.nil_append]
    refine Sl.en ?_
    refine Sl.thenN ?_
    refine Sl.bk hk hs hQ (fun _ => Sl.perm) ?_
    refine Sl.tk 5 (lst' := [true, true, true, true, true, true, false, false, false, false, false, false]) rfl (Sl.mvY rfl) rfl rfl rfl rfl (by kernel_rfl) (by kernel_rfl) Sl.perm rfl ?_
    refine Sl.tk 6 (lst' := [true, true, true, true, true, true, true, false, false, false, false, false]) rfl (Sl.xtY rfl rfl) rfl rfl rfl rfl (by kernel_rfl) (by kernel_rfl) Sl.perm rfl ?_
    refine Sl.tk 7 (lst' := [true, true, true, true, true, true, true, true, false, false, false, false]) rfl (Sl.xtY rfl rfl) rfl rfl rfl rfl (by kernel_rfl) (by kernel_rfl) Sl.perm rfl ?_
    refine Sl.tk 8 (lst' := [true, true, true, true, true, true, true, true, true, false, false, false]) rfl (Sl.xtY rfl rfl) rfl rfl rfl rfl (by kernel_rfl) (by kernel_rfl) Sl.perm rfl ?_
    refine Sl.tk 9 (lst' := [true, true, true, true, true, true, true, true, true, true, false, false]) rfl (Sl.asgY rfl) rfl rfl rfl rfl (by kernel_rfl) (by kernel_rfl) Sl.perm rfl ?_
    refine Sl.tk 10 (lst' := [true, true, true, true, true, true, true, true, true, true, true, false]) rfl (Sl.asgY rfl) rfl rfl rfl rfl (by kernel_rfl) (by kernel_rfl) Sl.perm rfl ?_
    refine Sl.tk 11 (lst' := [true, true, true, true, true, true, true, true, true, true, true, true]) rfl (Sl.asgY rfl) rfl rfl rfl rfl (by kernel_rfl) (by kernel_rfl) Sl.perm rfl ?_
    refine Sl.dn (by kernel_rfl) ?_
    refine Sl.thenN ?_
    refine Sl.sq ?_
    refine Sl.sq ?_
    refine Sl.rg ?_
    refine Sl.mv rfl rfl ?_
    refine Sl.eqlI rfl rfl rfl ?_
    refine Sl.mv rfl rfl ?_
    refine Sl.split (t := 23) rfl (fun h23 => ?_) (fun h23 => ?_)
    · skip
      exact absurd h23 (by decide) --closed
    · skip
      refine Sl.gskip rfl rfl rfl rfl rfl rfl ?_
      refine Sl.gskip rfl rfl rfl rfl rfl rfl ?_
      refine Sl.pk rfl rfl rfl ?_
      refine Sl.en ?_
      refine Sl.thenN ?_
      refine Sl.cdF rfl ?_
      refine Sl.sk ?_
      refine Sl.thenN ?_
      refine Sl.sq ?_
      refine Sl.rg ?_
      refine Sl.mv rfl rfl ?_
      refine Sl.mv rfl rfl ?_
      refine Sl.asg rfl rfl ?_
      refine Sl.asg rfl rfl ?_
      refine Sl.en ?_
      refine Sl.thenN ?_
      refine Sl.rt ?_
      exact Sl.ret2 [] Tryz.results19 rfl rfl ⟨rfl, rfl⟩ Sl.perm
end Go.Proofs.YtdcjlbfmdkgcpaaGreatDoor
