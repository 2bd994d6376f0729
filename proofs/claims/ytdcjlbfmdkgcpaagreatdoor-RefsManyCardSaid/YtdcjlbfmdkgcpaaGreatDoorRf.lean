/- Names and references: what the functions of package refs and of their reference packages compute. -/
import Derived.Test.YtdcjlbfmdkgcpaaGreatDoorProg
import Derived.Test.YtdcjlbfmdkgcpaaGreatDoorId
import Derived.Test.YtdcjlbfmdkgcpaaGreatDoorSt
import Derived.Test.YtdcjlbfmdkgcpaaGreatDoorNd
set_option linter.unusedSimpArgs false
set_option linter.unusedVariables false
namespace Go.Proofs.YtdcjlbfmdkgcpaaGreatDoor
open Go.Sl
instance tyRfAg132 : Sl.Ag Tryz.prog 132 8 := ⟨Tryz.isAgg132, Tryz.sizeOf132⟩
instance tyRfAg22 : Sl.Ag Tryz.prog 22 32 := ⟨Tryz.isAgg22, Tryz.sizeOf22⟩
instance tyRfAg24 : Sl.Ag Tryz.prog 24 33 := ⟨Tryz.isAgg24, Tryz.sizeOf24⟩
instance tyRfAg32 : Sl.Ag Tryz.prog 32 3 := ⟨Tryz.isAgg32, Tryz.sizeOf32⟩
instance tyRfAg65 : Sl.Ag Tryz.prog 65 34 := ⟨Tryz.isAgg65, Tryz.sizeOf65⟩
instance tyRfAr132 : Sl.ArrT Tryz.prog 132 8 5 1 := ⟨Tryz.runUnderlying132, Tryz.sizeOf5⟩
instance tyRfAr22 : Sl.ArrT Tryz.prog 22 32 5 1 := ⟨Tryz.runUnderlying22, Tryz.sizeOf5⟩
instance tyRfBy5 : Sl.ByT Tryz.prog 5 1 := ⟨fun w => ⟨_, Tryz.typeInfo5 w, rfl⟩⟩
instance tyRfBt34 : Sl.BytT Tryz.prog 34 5 := ⟨Tryz.runUnderlying34, Tryz.runUnderlying5⟩
instance tyRfCa27 : Sl.Ca Tryz.prog 27 := ⟨Tryz.call27⟩
instance tyRfCa32 : Sl.Ca Tryz.prog 32 := ⟨Tryz.call32⟩
instance tyRfCa33 : Sl.Ca Tryz.prog 33 := ⟨Tryz.call33⟩
instance tyRfCa40 : Sl.Ca Tryz.prog 40 := ⟨Tryz.call40⟩
instance tyRfCa41 : Sl.Ca Tryz.prog 41 := ⟨Tryz.call41⟩
instance tyRfCa42 : Sl.Ca Tryz.prog 42 := ⟨Tryz.call42⟩
instance tyRfCa48 : Sl.Ca Tryz.prog 48 := ⟨Tryz.call48⟩
instance tyRfCa51 : Sl.Ca Tryz.prog 51 := ⟨Tryz.call51⟩
instance tyRfCa52 : Sl.Ca Tryz.prog 52 := ⟨Tryz.call52⟩
instance tyRfCa61 : Sl.Ca Tryz.prog 61 := ⟨Tryz.call61⟩
instance tyRfFa24_0 : Sl.Fa Tryz.prog 24 0 0 := Sl.Fa.mk' Tryz.runUnderlying24 rfl rfl rfl Tryz.sizeOf5 (by decide)
instance tyRfFa24_1 : Sl.Fa Tryz.prog 24 1 1 := Sl.Fa.mk' Tryz.runUnderlying24 rfl rfl rfl Tryz.sizeOf22 (by decide)
instance tyRfFa65_0 : Sl.Fa Tryz.prog 65 0 0 := Sl.Fa.mk' Tryz.runUnderlying65 rfl rfl rfl Tryz.sizeOf24 (by decide)
instance tyRfFa65_1 : Sl.Fa Tryz.prog 65 1 33 := Sl.Fa.mk' Tryz.runUnderlying65 rfl rfl rfl Tryz.sizeOf9 (by decide)
instance tyRfSc5 : Sl.Sc Tryz.prog 5 := ⟨Tryz.isAgg5, Tryz.sizeOf5⟩
instance tyRfSc9 : Sl.Sc Tryz.prog 9 := ⟨Tryz.isAgg9, Tryz.sizeOf9⟩
instance tyRfSl34 : Sl.SlT Tryz.prog 34 5 1 := ⟨Tryz.runUnderlying34, Tryz.sizeOf5⟩
instance tyRfSt9 : Sl.StrT Tryz.prog 9 := ⟨Tryz.runUnderlying9⟩
instance tyRfSs24 : Sl.StT Tryz.prog 24 [(0, 1), (1, 32)] := ⟨⟨_, Tryz.runUnderlying24, fun w => by simp [Tryz.sizeOf22, Tryz.sizeOf5]⟩⟩
instance tyRfSs32 : Sl.StT Tryz.prog 32 [(0, 1), (1, 1), (2, 1)] := ⟨⟨_, Tryz.runUnderlying32, fun w => by simp [Tryz.sizeOf4, Tryz.sizeOf9]⟩⟩
instance tyRfUl113 : Sl.Ul Tryz.prog 113 (.int .u64) := ⟨Tryz.runUnderlying113⟩
instance tyRfUl5 : Sl.Ul Tryz.prog 5 (.int .u8) := ⟨Tryz.runUnderlying5⟩
instance tyRfZv132 : Sl.Zv Tryz.prog 132 (.agg [.int .u8 0, .int .u8 0, .int .u8 0, .int .u8 0, .int .u8 0, .int .u8 0, .int .u8 0, .int .u8 0].toArray) := ⟨Tryz.zeroValue132⟩
instance tyRfZv24 : Sl.Zv Tryz.prog 24 (.agg [.int .u8 0, .int .u8 0, .int .u8 0, .int .u8 0, .int .u8 0, .int .u8 0, .int .u8 0, .int .u8 0, .int .u8 0, .int .u8 0, .int .u8 0, .int .u8 0, .int .u8 0, .int .u8 0, .int .u8 0, .int .u8 0, .int .u8 0, .int .u8 0, .int .u8 0, .int .u8 0, .int .u8 0, .int .u8 0, .int .u8 0, .int .u8 0, .int .u8 0, .int .u8 0, .int .u8 0, .int .u8 0, .int .u8 0, .int .u8 0, .int .u8 0, .int .u8 0, .int .u8 0].toArray) := ⟨Tryz.zeroValue24⟩
instance tyRfZv32 : Sl.Zv Tryz.prog 32 (.agg [.string ⟨#[]⟩, .string ⟨#[]⟩, .bool false].toArray) := ⟨Tryz.zeroValue32⟩
instance tyRfZv5 : Sl.Zv Tryz.prog 5 (.int .u8 0) := ⟨Tryz.zeroValue5⟩
def keyS (name : Str) : Str := ⟨#[114]⟩ ++ name
def objS (k : UInt8) (bs : List UInt8) : Str := ⟨#[111]⟩ ++ txt k bs
theorem txt_size (k : UInt8) (bs : List UInt8) : (txt k bs).size ≤ 33 := by
  have := szOf_le k.toNat
  unfold txt; split <;> simp [ByteArray.size] <;> omega

theorem key_is (name : Str) (h : name.size ≤ 4611686018427387904) : Fnc Tryz.prog 32 [.string name] [] (fun v L' => v = .string (keyS name) ∧ L' = []) := by
  refine Sl.fn_intro Tryz.func32 rfl Tryz.ntmps32 rfl (fun g F => ?_)
  simp only [Sl.slotsOf, List.cons_append, List.nil_append, Nat.reduceAdd]
  refine Sl.sq ?_
  refine Sl.rg ?_
  refine Sl.asg rfl rfl ?_
  refine Sl.en ?_
  refine Sl.thenN ?_
  refine Sl.sq ?_
  refine Sl.rg ?_
  refine Sl.mv rfl rfl ?_
  refine Sl.addS rfl rfl rfl (by show 1 + name.size ≤ _; omega) ?_
  refine Sl.asg rfl rfl ?_
  refine Sl.en ?_
  refine Sl.thenN ?_
  refine Sl.rt ?_
  exact Sl.ret1 [] Tryz.results32 rfl ⟨rfl, rfl⟩ Sl.perm

theorem objkey_is (k : UInt8) (bs : List UInt8) (hb : bs.length = 32) : Fnc Tryz.prog 40 [.agg (idc k bs).toArray] [] (fun v L' => v = .string (objS k bs) ∧ L' = []) := by
  refine Sl.fn_intro Tryz.func40 rfl Tryz.ntmps40 rfl (fun g F => ?_)
  simp only [Sl.slotsOf, List.cons_append, List.nil_append, Nat.reduceAdd]
  refine Sl.sq ?_
  refine Sl.rg ?_
  refine Sl.bxa rfl rfl (fun b1 => ?_)
  refine Sl.asg rfl rfl ?_
  refine Sl.en ?_
  refine Sl.thenN ?_
  refine Sl.sq ?_
  refine Sl.rg ?_
  refine Sl.lda rfl rfl (Sl.sub_all (by simp [idc, hb])) ?_
  refine Sl.cl (text_is k bs hb) rfl rfl ?_
  rintro _ _ ⟨rfl, rfl⟩
  simp only [List.nil_append]
  refine Sl.addS rfl rfl rfl (by show 1 + (txt k bs).size ≤ _; have := txt_size k bs; omega) ?_
  refine Sl.asg rfl rfl ?_
  refine Sl.en ?_
  refine Sl.thenN ?_
  refine Sl.rt ?_
  exact Sl.ret1 [] Tryz.results40 rfl ⟨rfl, rfl⟩ Sl.perm

theorem set_is (name : Str) (h : name.size ≤ 4611686018427387904) (k : UInt8) (bs : List UInt8) (hb : bs.length = 32) : Fnc Tryz.prog 10 [.string name, .agg (idc k bs).toArray] [] (fun v L' => v = .agg (encW (keyS name, txt k bs, false)).toArray ∧ L' = []) := by
  refine Sl.fn_intro Tryz.func10 rfl Tryz.ntmps10 rfl (fun g F => ?_)
  simp only [Sl.slotsOf, List.cons_append, List.nil_append, Nat.reduceAdd]
  refine Sl.sq ?_
  refine Sl.rg ?_
  refine Sl.bxa rfl rfl (fun b3 => ?_)
  refine Sl.al rfl (fun b4 => ?_)
  refine Sl.en ?_
  refine Sl.thenN ?_
  refine Sl.sq ?_
  refine Sl.rgT ([blk b3 24 (idc k bs)]) [0, 1, 2, 3, 4] [0, 2, 4] (by kernel_rfl) (by kernel_rfl) (by kernel_rfl) ?_
  refine Sl.tk 0 (lst' := [true, false, false, false, false, false]) rfl (Sl.mvY rfl) rfl rfl rfl rfl (by kernel_rfl) (by kernel_rfl) Sl.perm rfl ?_
  refine Sl.tk 2 (lst' := [true, false, true, false, false, false]) rfl (Sl.ldaY rfl (Sl.sub_all (by simp [idc, hb]))) rfl rfl rfl rfl (by kernel_rfl) (by kernel_rfl) Sl.perm rfl ?_
  refine Sl.rn1 1 (lst' := [true, true, true, false, false, false]) (by kernel_rfl) rfl rfl (fun hk hs hQ => ?_)
  refine Sl.cl (key_is name h) rfl rfl ?_
  rintro _ _ ⟨rfl, rfl⟩
  simp only [List.nil_append]
  refine Sl.en ?_
  refine Sl.thenN ?_
  refine Sl.bk hk hs hQ (fun _ => Sl.perm) ?_
  refine Sl.rn1 3 (lst' := [true, true, true, true, false, false]) (by kernel_rfl) rfl rfl (fun hk hs hQ => ?_)
  refine Sl.cl (text_is k bs hb) rfl rfl ?_
  rintro _ _ ⟨rfl, rfl⟩
  simp only [List.nil_append]
  refine Sl.en ?_
  refine Sl.thenN ?_
  refine Sl.bk hk hs hQ (fun _ => Sl.perm) ?_
  refine Sl.tk 4 (lst' := [true, true, true, true, true, false]) rfl (Sl.bdY rfl rfl) rfl rfl rfl rfl (by kernel_rfl) (by kernel_rfl) Sl.perm rfl ?_
  refine Sl.rn1 5 (lst' := [true, true, true, true, true, true]) (by kernel_rfl) rfl rfl (fun hk hs hQ => ?_)
  refine Sl.sta rfl rfl rfl (by simp [Value.oneCell']) rfl ?_
  refine Sl.en ?_
  refine Sl.thenN ?_
  refine Sl.bk hk hs hQ (fun h => absurd h (by decide)) ?_
  refine Sl.dn (by kernel_rfl) ?_
  refine Sl.thenN ?_
  refine Sl.rt ?_
  exact Sl.retC [] Tryz.results10 rfl rfl ⟨rfl, rfl⟩ Sl.perm

theorem drop_is (name : Str) (h : name.size ≤ 4611686018427387904) : Fnc Tryz.prog 25 [.string name] [] (fun v L' => v = .agg (encW (keyS name, ⟨#[]⟩, true)).toArray ∧ L' = []) := by
  refine Sl.fn_intro Tryz.func25 rfl Tryz.ntmps25 rfl (fun g F => ?_)
  simp only [Sl.slotsOf, List.cons_append, List.nil_append, Nat.reduceAdd]
  refine Sl.sq ?_
  refine Sl.rg ?_
  refine Sl.al rfl (fun b2 => ?_)
  refine Sl.en ?_
  refine Sl.thenN ?_
  refine Sl.sq ?_
  refine Sl.rg ?_
  refine Sl.mv rfl rfl ?_
  refine Sl.cl (key_is name h) rfl rfl ?_
  rintro _ _ ⟨rfl, rfl⟩
  simp only [List.nil_append]
  refine Sl.bd rfl rfl rfl ?_
  refine Sl.sta rfl rfl rfl (by simp [Value.oneCell']) rfl ?_
  refine Sl.en ?_
  refine Sl.thenN ?_
  refine Sl.rt ?_
  exact Sl.retC [] Tryz.results25 rfl rfl ⟨rfl, rfl⟩ Sl.perm

theorem put_is (k : UInt8) (bs : List UInt8) (hb : bs.length = 32) (data : Str) : Fnc Tryz.prog 23 [.agg (idc k bs ++ [Value.string data]).toArray] [] (fun v L' => v = .agg (encW (objS k bs, data, false)).toArray ∧ L' = []) := by
  refine Sl.fn_intro Tryz.func23 rfl Tryz.ntmps23 rfl (fun g F => ?_)
  simp only [Sl.slotsOf, List.cons_append, List.nil_append, Nat.reduceAdd]
  refine Sl.sq ?_
  refine Sl.rg ?_
  refine Sl.bxa rfl rfl (fun b1 => ?_)
  refine Sl.al rfl (fun b2 => ?_)
  refine Sl.en ?_
  refine Sl.thenN ?_
  refine Sl.sq ?_
  refine Sl.rgT ([blk b1 65 (idc k bs ++ [Value.string data])]) [0, 1, 2, 3, 4, 5] [0, 1, 3, 4, 5] (by kernel_rfl) (by kernel_rfl) (by kernel_rfl) ?_
  refine Sl.tk 0 (lst' := [true, false, false, false, false, false, false]) rfl (Sl.faY rfl) rfl rfl rfl rfl (by kernel_rfl) (by kernel_rfl) Sl.perm rfl ?_
  refine Sl.tk 1 (lst' := [true, true, false, false, false, false, false]) rfl (Sl.ldaY (vs := idc k bs) rfl (by have := sub_all (l := idc k bs) (k := 33) (by simp [idc, hb]); exact sub_app this)) rfl rfl rfl rfl (by kernel_rfl) (by kernel_rfl) Sl.perm rfl ?_
  refine Sl.tk 3 (lst' := [true, true, false, true, false, false, false]) rfl (Sl.faY rfl) rfl rfl rfl rfl (by kernel_rfl) (by kernel_rfl) Sl.perm rfl ?_
  refine Sl.tk 4 (lst' := [true, true, false, true, true, false, false]) rfl (Sl.ldY (v := .string data) rfl (by rw [nth_eq]; simp [idc, hb])) rfl rfl rfl rfl (by kernel_rfl) (by kernel_rfl) Sl.perm rfl ?_
  refine Sl.rn1 2 (lst' := [true, true, true, true, true, false, false]) (by kernel_rfl) rfl rfl (fun hk hs hQ => ?_)
  refine Sl.cl (objkey_is k bs hb) rfl rfl ?_
  rintro _ _ ⟨rfl, rfl⟩
  simp only [List.nil_append]
  refine Sl.en ?_
  refine Sl.thenN ?_
  refine Sl.bk hk hs hQ (fun _ => Sl.perm) ?_
  refine Sl.tk 5 (lst' := [true, true, true, true, true, true, false]) rfl (Sl.bdY rfl rfl) rfl rfl rfl rfl (by kernel_rfl) (by kernel_rfl) Sl.perm rfl ?_
  refine Sl.rn1 6 (lst' := [true, true, true, true, true, true, true]) (by kernel_rfl) rfl rfl (fun hk hs hQ => ?_)
  refine Sl.sta rfl rfl rfl (by simp [Value.oneCell']) rfl ?_
  refine Sl.en ?_
  refine Sl.thenN ?_
  refine Sl.bk hk hs hQ (fun h => absurd h (by decide)) ?_
  refine Sl.dn (by kernel_rfl) ?_
  refine Sl.thenN ?_
  refine Sl.rt ?_
  exact Sl.retC [] Tryz.results23 rfl rfl ⟨rfl, rfl⟩ Sl.perm

theorem size14_is (k : Nat) : Fnc Tryz.prog 27 [.int .u8 (k : Nat)] [] (fun v L' => v = .int .i64 (szOf k : Nat) ∧ L' = []) := by
  refine Sl.fn_intro Tryz.func27 rfl Tryz.ntmps27 rfl (fun g F => ?_)
  simp only [Sl.slotsOf, List.cons_append, List.nil_append, Nat.reduceAdd]
  refine Sl.sq ?_
  refine Sl.rg ?_
  refine Sl.asg rfl rfl ?_
  refine Sl.en ?_
  refine Sl.thenN ?_
  refine Sl.sq ?_
  refine Sl.sq ?_
  refine Sl.rg ?_
  refine Sl.mv rfl rfl ?_
  refine Sl.eqlI rfl rfl rfl ?_
  refine Sl.en ?_
  refine Sl.thenN ?_
  refine Sl.cdP rfl (fun h4 => ?_) (fun h4 => ?_)
  · skip
    refine Sl.sq ?_
    refine Sl.rg ?_
    refine Sl.asg rfl rfl ?_
    refine Sl.en ?_
    refine Sl.thenN ?_
    refine Sl.rt ?_
    refine Sl.thenR ?_
    exact Sl.ret1 [] Tryz.results27 rfl ⟨by (rw [show szOf k = 8 from by (unfold szOf; split <;> (try split) <;> omega)]; rfl), rfl⟩ Sl.perm
  · skip
    refine Sl.sk ?_
    refine Sl.thenN ?_
    refine Sl.sq ?_
    refine Sl.sq ?_
    refine Sl.rg ?_
    refine Sl.mv rfl rfl ?_
    refine Sl.eqlI rfl rfl rfl ?_
    refine Sl.en ?_
    refine Sl.thenN ?_
    refine Sl.cdP rfl (fun h6 => ?_) (fun h6 => ?_)
    · skip
      refine Sl.sq ?_
      refine Sl.rg ?_
      refine Sl.asg rfl rfl ?_
      refine Sl.en ?_
      refine Sl.thenN ?_
      refine Sl.rt ?_
      refine Sl.thenR ?_
      exact Sl.ret1 [] Tryz.results27 rfl ⟨by (rw [show szOf k = 32 from by (unfold szOf; split <;> (try split) <;> omega)]; rfl), rfl⟩ Sl.perm
    · skip
      refine Sl.sk ?_
      refine Sl.thenN ?_
      refine Sl.sq ?_
      refine Sl.rg ?_
      refine Sl.asg rfl rfl ?_
      refine Sl.en ?_
      refine Sl.thenN ?_
      refine Sl.rt ?_
      exact Sl.ret1 [] Tryz.results27 rfl ⟨by (rw [show szOf k = 0 from by (unfold szOf; split <;> (try split) <;> omega)]; rfl), rfl⟩ Sl.perm

theorem sz_list (s : Str) : s.size = s.data.toList.length := by rw [Array.length_toList]; rfl
theorem u8_sz (k : UInt8) : szOf k.toNat ≤ 32 := szOf_le _
theorem getSome {bs : List UInt8} {j : Nat} (h : j < bs.length) : ∃ c, bs[j]? = some c := ⟨bs[j], by simp [h]⟩

theorem name14_is (k : UInt8) (bs : List UInt8) (hb : bs.length = 32) : Fnc Tryz.prog 7 [.agg (idc k bs).toArray] [] (fun v L' => v = .string (txt k bs) ∧ L' = []) := by
  refine Sl.fn_intro Tryz.func7 rfl Tryz.ntmps7 rfl (fun g F => ?_)
  simp only [Sl.slotsOf, List.cons_append, List.nil_append, Nat.reduceAdd]
  refine Sl.sq ?_
  refine Sl.rg ?_
  refine Sl.bxa rfl rfl (fun b1 => ?_)
  refine Sl.asg rfl rfl ?_
  refine Sl.en ?_
  refine Sl.thenN ?_
  refine Sl.sq ?_
  refine Sl.rg ?_
  refine Sl.fa rfl rfl ?_
  refine Sl.ld (v := .int .u8 (k.toNat : Nat)) rfl rfl rfl ?_
  refine Sl.cl (size14_is k.toNat) rfl rfl ?_
  rintro _ _ ⟨rfl, rfl⟩
  simp only [List.nil_append]
  have hsz := szOf_le k.toNat
  refine Sl.asg rfl rfl ?_
  refine Sl.en ?_
  refine Sl.thenN ?_
  refine Sl.sq ?_
  refine Sl.rg ?_
  refine Sl.fa rfl rfl ?_
  refine Sl.ld (v := .int .u8 (k.toNat : Nat)) rfl rfl rfl ?_
  refine Sl.bs1 rfl rfl rfl rfl (fun b12 => ?_)
  refine Sl.cvBSb (bs := [k]) rfl rfl rfl rfl ?_
  refine Sl.asg rfl rfl ?_
  refine Sl.en ?_
  refine Sl.thenN ?_
  refine Sl.sq ?_
  refine Sl.sq ?_
  refine Sl.rg ?_
  refine Sl.fa rfl rfl ?_
  refine Sl.lda (vs := bs.map fun c => .int .u8 (c.toNat : Nat)) rfl rfl (by have : sub (bs.map fun c => Value.int .u8 (c.toNat : Nat)) 0 32 = _ := sub_all (by simp [hb]); cases bs <;> simpa [idc, sub] using this) ?_
  refine Sl.mv rfl rfl ?_
  refine Sl.en ?_
  refine Sl.thenN ?_
  refine Sl.bl ?_
  refine Sl.lp0 (fun m s L => ∃ j : Nat, j ≤ 32 ∧ m = 32 - j ∧ (∀ i, szOf k.toNat + i < j → bs[szOf k.toNat + i]? = some 0) ∧
      s = [(16, .int .i64 (j : Nat)), (15, .agg (bs.map fun c => Value.int .u8 (c.toNat : Nat)).toArray), (3, .int .i64 (szOf k.toNat : Nat)), (4, .string ⟨(k :: bs.take (min j (szOf k.toNat))).toArray⟩)] ∧ L = [F])
      32 _ _ ⟨0, by omega, rfl, by intro i hi; omega, rfl, rfl⟩ ⟨rfl, rfl, rfl, by simp [Sl.look]; rfl, trivial⟩ Sl.perm ?_
  rintro m s L ⟨j, hj, rfl, hz, rfl, rfl⟩
  refine Sl.sq ?_
  refine Sl.rg ?_
  refine Sl.lss rfl rfl rfl ?_
  refine Sl.en ?_
  refine Sl.thenN ?_
  refine Sl.sq ?_
  refine Sl.cdP rfl (fun h17 => ?_) (fun h17 => ?_)
  · skip
    refine Sl.sk ?_
    refine Sl.thenN ?_
    refine Sl.sq ?_
    refine Sl.bl ?_
    refine Sl.sq ?_
    obtain ⟨c, hc⟩ := getSome (bs := bs) (j := j) (by omega)
    refine Sl.rg ?_
    refine Sl.mv rfl rfl ?_
    refine Sl.ixA rfl rfl rfl (by omega) (by simp [hc]; rfl) ?_
    refine Sl.asg rfl rfl ?_
    refine Sl.asg rfl rfl ?_
    refine Sl.en ?_
    refine Sl.thenN ?_
    refine Sl.sq ?_
    refine Sl.rg ?_
    refine Sl.mv rfl rfl ?_
    refine Sl.mv rfl rfl ?_
    refine Sl.lss rfl rfl rfl ?_
    refine Sl.en ?_
    refine Sl.thenN ?_
    refine Sl.cdP rfl (fun h22 => ?_) (fun h22 => ?_)
    · skip
      refine Sl.rg ?_
      refine Sl.mv rfl rfl ?_
      refine Sl.mv rfl rfl ?_
      refine Sl.bs1 rfl rfl rfl rfl (fun b25 => ?_)
      refine Sl.cvBSb (bs := [c]) rfl rfl rfl rfl ?_
      refine Sl.addS rfl rfl rfl (by rw [size_mk, size_mk]; simp; omega) ?_
      refine Sl.asg rfl rfl ?_
      refine Sl.en ?_
      refine Sl.blkN ?_
      refine Sl.thenN ?_
      refine Sl.rg ?_
      refine Sl.add rfl rfl rfl (Sl.fits_i64 (by omega)) ?_
      refine Sl.mv rfl rfl ?_
      refine Sl.en ?_
      refine Sl.thenN ?_
      exact Sl.again (m' := 32 - (j + 1)) ⟨j + 1, by omega, rfl, fun i hi => by (rcases Nat.lt_succ_iff_lt_or_eq.1 hi with q | q; exact hz i q; omega), rfl, rfl⟩ (by omega) ⟨rfl, rfl, rfl, by (simp only [Sl.look]; rw [show min (j + 1) (szOf k.toNat) = j + 1 from by omega, show min j (szOf k.toNat) = j from by omega, take_snoc hc, append_mk]; rfl), trivial⟩ Sl.perm
    · skip
      refine Sl.sq ?_
      refine Sl.rg ?_
      refine Sl.mv rfl rfl ?_
      refine Sl.neqI rfl rfl rfl ?_
      refine Sl.en ?_
      refine Sl.thenN ?_
      refine Sl.cdP rfl (fun h29 => ?_) (fun h29 => ?_)
      · skip
        refine Sl.sq ?_
        refine Sl.rg ?_
        refine Sl.asg rfl rfl ?_
        refine Sl.en ?_
        refine Sl.thenN ?_
        refine Sl.rt ?_
        refine Sl.blkR ?_
        refine Sl.thenR ?_
        refine Sl.thenR ?_
        refine Sl.blkR ?_
        refine Sl.thenR ?_
        exact Sl.ret1 [] Tryz.results7 rfl ⟨by rw [show txt k bs = ⟨#[]⟩ from by
          have : goodId k bs = false := by
            unfold goodId; simp; intro q
            exact absurd (q (j - szOf k.toNat) (by omega)) (by rw [show szOf k.toNat + (j - szOf k.toNat) = j from by omega, hc]; intro e; simp at e; subst e; simp at h29)
          simp [txt, this]], rfl⟩ Sl.perm
      · skip
        refine Sl.sk ?_
        refine Sl.blkN ?_
        refine Sl.thenN ?_
        refine Sl.rg ?_
        refine Sl.add rfl rfl rfl (Sl.fits_i64 (by omega)) ?_
        refine Sl.mv rfl rfl ?_
        refine Sl.en ?_
        refine Sl.thenN ?_
        exact Sl.again (m' := 32 - (j + 1)) ⟨j + 1, by omega, rfl, fun i hi => by (rcases Nat.lt_succ_iff_lt_or_eq.1 hi with q | q; exact hz i q; rw [q, hc, u8_zero (c := c) (by simpa using h29)]), rfl, rfl⟩ (by omega) ⟨rfl, rfl, rfl, by (simp only [Sl.look]; rw [show min (j + 1) (szOf k.toNat) = min j (szOf k.toNat) from by omega]; rfl), trivial⟩ Sl.perm
  · skip
    refine Sl.xi ?_
    refine Sl.thenE ?_
    refine Sl.thenE ?_
    refine Sl.blkE ?_
    refine Sl.thenN ?_
    refine Sl.sq ?_
    refine Sl.sq ?_
    refine Sl.rg ?_
    refine Sl.mv rfl rfl ?_
    refine Sl.eqlI rfl rfl rfl ?_
    refine Sl.en ?_
    refine Sl.thenN ?_
    refine Sl.cdP rfl (fun h32 => ?_) (fun h32 => ?_)
    · skip
      refine Sl.sq ?_
      refine Sl.rg ?_
      refine Sl.asg rfl rfl ?_
      refine Sl.en ?_
      refine Sl.thenN ?_
      refine Sl.rt ?_
      refine Sl.thenR ?_
      exact Sl.ret1 [] Tryz.results7 rfl ⟨by rw [show txt k bs = ⟨#[]⟩ from by
        have : goodId k bs = false := by (unfold goodId; simp; intro _; omega)
        simp [txt, this]], rfl⟩ Sl.perm
    · skip
      refine Sl.sk ?_
      refine Sl.thenN ?_
      refine Sl.sq ?_
      refine Sl.rg ?_
      refine Sl.mv rfl rfl ?_
      refine Sl.asg rfl rfl ?_
      refine Sl.en ?_
      refine Sl.thenN ?_
      refine Sl.rt ?_
      obtain rfl : j = 32 := by omega
      have hg : goodId k bs = true := by (unfold goodId; simp; exact ⟨fun i hi => hz i (by omega), by omega⟩)
      exact Sl.ret1 [] Tryz.results7 rfl ⟨by rw [show txt k bs = _ from by simp [txt, hg]; rfl, show min 32 (szOf k.toNat) = szOf k.toNat from by omega], rfl⟩ Sl.perm

theorem step_is (h b : Int) : Fnc Tryz.prog 61 [.int .u64 h, .int .u8 b] [] (fun v L' => (∃ r, v = .int .u64 r) ∧ L' = []) := by
  refine Sl.fn_intro Tryz.func61 rfl Tryz.ntmps61 rfl (fun g F => ?_)
  simp only [Sl.slotsOf, List.cons_append, List.nil_append, Nat.reduceAdd]
  refine Sl.sq ?_
  refine Sl.rg ?_
  refine Sl.asg rfl rfl ?_
  refine Sl.en ?_
  refine Sl.thenN ?_
  refine Sl.sq ?_
  refine Sl.rg ?_
  refine Sl.mv rfl rfl ?_
  refine Sl.mv rfl rfl ?_
  refine Sl.arE rfl rfl rfl (Sl.some_rem _ _ (by decide)) (fun r => ?_)
  refine Sl.arE rfl rfl rfl (Sl.some_sub _ _ _) (fun r => ?_)
  refine Sl.mv rfl rfl ?_
  refine Sl.arE rfl rfl rfl (Sl.some_rem _ _ (by decide)) (fun r => ?_)
  refine Sl.cvIW rfl rfl ?_
  refine Sl.mv rfl rfl ?_
  refine Sl.arE rfl rfl rfl (Sl.some_xor _ _ _) (fun r => ?_)
  refine Sl.cvIW rfl rfl ?_
  refine Sl.arE rfl rfl rfl (Sl.some_add _ _ _) (fun r => ?_)
  refine Sl.asg rfl rfl ?_
  refine Sl.en ?_
  refine Sl.thenN ?_
  refine Sl.sq ?_
  refine Sl.rg ?_
  refine Sl.mv rfl rfl ?_
  refine Sl.arE rfl rfl rfl (Sl.some_shl _ _ (by decide)) (fun r => ?_)
  refine Sl.mv rfl rfl ?_
  refine Sl.arE rfl rfl rfl (Sl.some_shl _ _ (by decide)) (fun r => ?_)
  refine Sl.arE rfl rfl rfl (Sl.some_add _ _ _) (fun r => ?_)
  refine Sl.mv rfl rfl ?_
  refine Sl.arE rfl rfl rfl (Sl.some_mul _ _ _) (fun r => ?_)
  refine Sl.arE rfl rfl rfl (Sl.some_add _ _ _) (fun r => ?_)
  refine Sl.asg rfl rfl ?_
  refine Sl.en ?_
  refine Sl.thenN ?_
  refine Sl.rt ?_
  exact Sl.ret1 [] Tryz.results61 rfl ⟨⟨_, rfl⟩, rfl⟩ Sl.perm

theorem sum_is (s : Str) (hs : s.size ≤ 4611686018427387904) : Fnc Tryz.prog 52 [.string s] [] (fun v L' => (∃ r, v = .int .u64 r) ∧ L' = []) := by
  refine Sl.fn_intro Tryz.func52 rfl Tryz.ntmps52 rfl (fun g F => ?_)
  simp only [Sl.slotsOf, List.cons_append, List.nil_append, Nat.reduceAdd]
  refine Sl.sq ?_
  refine Sl.rg ?_
  refine Sl.asg rfl rfl ?_
  refine Sl.en ?_
  refine Sl.thenN ?_
  refine Sl.sq ?_
  refine Sl.rg ?_
  refine Sl.asg rfl rfl ?_
  refine Sl.en ?_
  refine Sl.thenN ?_
  refine Sl.sq ?_
  refine Sl.sq ?_
  refine Sl.rg ?_
  refine Sl.asg rfl rfl ?_
  refine Sl.en ?_
  refine Sl.thenN ?_
  refine Sl.bl ?_
  refine Sl.lp0 (fun m s' L => ∃ (j : Nat) (h : Int), j ≤ s.size ∧ m = s.size - j ∧ s' = [(4, .int .i64 (j : Nat)), (3, .int .u64 h), (0, .string s)] ∧ L = [F])
      s.size _ _ ⟨0, _, Nat.zero_le _, rfl, rfl, rfl⟩ ⟨rfl, rfl, rfl, trivial⟩ Sl.perm ?_
  rintro m s' L ⟨j, h, hj, rfl, rfl, rfl⟩
  refine Sl.sq ?_
  refine Sl.sq ?_
  refine Sl.rg ?_
  refine Sl.mv rfl rfl ?_
  refine Sl.mv rfl rfl ?_
  refine Sl.lnS rfl rfl ?_
  refine Sl.lss rfl rfl rfl ?_
  refine Sl.en ?_
  refine Sl.thenN ?_
  refine Sl.cdP rfl (fun h8 => ?_) (fun h8 => ?_)
  · skip
    refine Sl.sk ?_
    refine Sl.thenN ?_
    refine Sl.sq ?_
    refine Sl.bl ?_
    obtain ⟨c, hc⟩ : ∃ c, s.data.toList[j]? = some c := getSome (bs := s.data.toList) (by rw [← sz_list]; omega)
    refine Sl.rg ?_
    refine Sl.mv rfl rfl ?_
    refine Sl.mv rfl rfl ?_
    refine Sl.mv rfl rfl ?_
    refine Sl.ixC (i := j) rfl rfl rfl rfl hc ?_
    refine Sl.cl (step_is h c.toNat) rfl rfl ?_
    rintro _ _ ⟨⟨r, rfl⟩, rfl⟩
    simp only [List.nil_append]
    refine Sl.asg rfl rfl ?_
    refine Sl.en ?_
    refine Sl.blkN ?_
    refine Sl.thenN ?_
    refine Sl.rg ?_
    refine Sl.mv rfl rfl ?_
    refine Sl.add rfl rfl rfl (Sl.fits_i64 (by omega)) ?_
    refine Sl.asg rfl rfl ?_
    refine Sl.en ?_
    refine Sl.thenN ?_
    exact Sl.again (m' := s.size - (j + 1)) ⟨j + 1, _, by omega, rfl, rfl, rfl⟩ (by omega) ⟨rfl, rfl, rfl, trivial⟩ Sl.perm
  · skip
    refine Sl.xi ?_
    refine Sl.thenE ?_
    refine Sl.thenE ?_
    refine Sl.blkE ?_
    refine Sl.thenN ?_
    refine Sl.sq ?_
    refine Sl.rg ?_
    refine Sl.mv rfl rfl ?_
    refine Sl.asg rfl rfl ?_
    refine Sl.en ?_
    refine Sl.thenN ?_
    refine Sl.rt ?_
    exact Sl.ret1 [] Tryz.results52 rfl ⟨⟨_, rfl⟩, rfl⟩ Sl.perm

theorem wrap_u8 (x : Int) : ∃ c : UInt8, IntKind.u8.wrap x = (c.toNat : Nat) := by
  refine ⟨UInt8.ofNat (x % 256).toNat, ?_⟩
  rw [IntKind.wrap_u8, UInt8.toNat_ofNat']
  omega
theorem setN_map {c : UInt8} : ∀ {bs : List UInt8} {i : Nat}, i < bs.length → setN (bs.map fun c => Value.int .u8 (c.toNat : Nat)) i (.int .u8 (c.toNat : Nat)) = some ((bs.set i c).map fun c => Value.int .u8 (c.toNat : Nat))
  | [], i, h => by simp at h
  | b :: bs, 0, h => by simp [setN]
  | b :: bs, i + 1, h => by simp only [List.map_cons, setN, List.set_cons_succ]; rw [setN_map (bs := bs) (by simpa using h)]

theorem bytes_is (h : Int) : Fnc Tryz.prog 51 [.int .u64 h] [] (fun v L' => (∃ bs : List UInt8, bs.length = 8 ∧ v = .string ⟨bs.toArray⟩) ∧ L' = []) := by
  refine Sl.fn_intro Tryz.func51 rfl Tryz.ntmps51 rfl (fun g F => ?_)
  simp only [Sl.slotsOf, List.cons_append, List.nil_append, Nat.reduceAdd]
  refine Sl.sq ?_
  refine Sl.rg ?_
  refine Sl.asg rfl rfl ?_
  refine Sl.en ?_
  refine Sl.thenN ?_
  refine Sl.sq ?_
  refine Sl.rg ?_
  refine Sl.al rfl (fun b3 => ?_)
  refine Sl.en ?_
  refine Sl.thenN ?_
  refine Sl.sq ?_
  refine Sl.sq ?_
  refine Sl.rg ?_
  refine Sl.asg rfl rfl ?_
  refine Sl.en ?_
  refine Sl.thenN ?_
  refine Sl.bl ?_
  refine Sl.weakL (L' := [blk b3 132 ((List.replicate 8 (0 : UInt8)).map fun c : UInt8 => Value.int .u8 (c.toNat : Nat)), F]) (fun h q => q) ?_
  refine Sl.lp0 (fun m s' L => ∃ (j : Nat) (h : Int) (bs : List UInt8), bs.length = 8 ∧ j ≤ 8 ∧ m = j ∧ s' = [(4, .int .i64 ((j : Nat) - 1 : Int)), (3, .pointer (some ⟨b3, 0, none⟩)), (0, .int .u64 h)] ∧ L = [blk b3 132 (bs.map fun c => Value.int .u8 (c.toNat : Nat)), F])
      8 _ _ ⟨8, h, List.replicate 8 0, rfl, by omega, rfl, rfl, rfl⟩ ⟨rfl, rfl, rfl, trivial⟩ Sl.perm ?_
  rintro m s' L ⟨j, h, bs, hb, hj, rfl, rfl, rfl⟩
  refine Sl.sq ?_
  refine Sl.sq ?_
  refine Sl.rg ?_
  refine Sl.mv rfl rfl ?_
  refine Sl.geq rfl rfl rfl ?_
  refine Sl.en ?_
  refine Sl.thenN ?_
  refine Sl.cdP rfl (fun h6 => ?_) (fun h6 => ?_)
  · skip
    refine Sl.sk ?_
    refine Sl.thenN ?_
    refine Sl.sq ?_
    refine Sl.bl ?_
    refine Sl.sq ?_
    refine Sl.rg ?_
    refine Sl.mv rfl rfl ?_
    refine Sl.mv rfl rfl ?_
    refine Sl.arE rfl rfl rfl (Sl.some_rem _ _ (by decide)) (fun r => ?_)
    obtain ⟨c, hc⟩ := wrap_u8 r
    refine Sl.cvIW rfl rfl ?_
    rw [hc]
    refine Sl.iaA rfl rfl rfl (by omega) ?_
    refine Sl.st rfl rfl rfl (setN_map (by omega)) ?_
    refine Sl.en ?_
    refine Sl.thenN ?_
    refine Sl.rg ?_
    refine Sl.mv rfl rfl ?_
    refine Sl.arE rfl rfl rfl (Sl.some_quo _ _ (by decide)) (fun r => ?_)
    refine Sl.asg rfl rfl ?_
    refine Sl.en ?_
    refine Sl.blkN ?_
    refine Sl.thenN ?_
    refine Sl.rg ?_
    refine Sl.mv rfl rfl ?_
    refine Sl.sb rfl rfl rfl (Sl.fits_i64 (by omega)) ?_
    refine Sl.asg rfl rfl ?_
    refine Sl.en ?_
    refine Sl.thenN ?_
    exact Sl.again (m' := m - 1) ⟨m - 1, _, bs.set (0 + ((m : Int) - 1).toNat * 1) c, by simpa using hb, by omega, rfl, rfl, rfl⟩ (by omega) ⟨by (simp only [Sl.look]; rw [show ((m - 1 : Nat) : Int) - 1 = (m : Int) - 1 - 1 from by omega]; rfl), rfl, rfl, trivial⟩ Sl.perm
  · skip
    refine Sl.xi ?_
    refine Sl.thenE ?_
    refine Sl.thenE ?_
    refine Sl.blkE ?_
    refine Sl.thenN ?_
    refine Sl.sq ?_
    refine Sl.rg ?_
    refine Sl.slA rfl rfl ?_
    refine Sl.cvBSb (bs := bs) (by rw [flat_encB]) (by omega) rfl rfl ?_
    refine Sl.asg rfl rfl ?_
    refine Sl.en ?_
    refine Sl.thenN ?_
    refine Sl.rt ?_
    exact Sl.ret1 [] Tryz.results51 rfl ⟨⟨_, hb, rfl⟩, rfl⟩ Sl.perm

theorem text14_is (s : Str) (hs : s.size ≤ 4611686018427387904) : Fnc Tryz.prog 42 [.int .u8 1, .string s] [] (fun v L' => (∃ bs : List UInt8, bs.length = 8 ∧ v = .string ⟨(1 :: bs).toArray⟩) ∧ L' = []) := by
  refine Sl.fn_intro Tryz.func42 rfl Tryz.ntmps42 rfl (fun g F => ?_)
  simp only [Sl.slotsOf, List.cons_append, List.nil_append, Nat.reduceAdd]
  refine Sl.sq ?_
  refine Sl.rg ?_
  refine Sl.asg rfl rfl ?_
  refine Sl.en ?_
  refine Sl.thenN ?_
  refine Sl.sq ?_
  refine Sl.sq ?_
  refine Sl.rg ?_
  refine Sl.mv rfl rfl ?_
  refine Sl.eqlI rfl rfl rfl ?_
  refine Sl.en ?_
  refine Sl.thenN ?_
  refine Sl.cdT rfl ?_
  refine Sl.sq ?_
  refine Sl.rg ?_
  refine Sl.mv rfl rfl ?_
  refine Sl.cl (sum_is s hs) rfl rfl ?_
  rintro _ _ ⟨⟨h, rfl⟩, rfl⟩
  simp only [List.nil_append]
  refine Sl.cl (bytes_is h) rfl rfl ?_
  rintro _ _ ⟨⟨bs, hb, rfl⟩, rfl⟩
  simp only [List.nil_append]
  refine Sl.addS rfl rfl rfl (by show 1 + ByteArray.size ⟨bs.toArray⟩ ≤ _; rw [size_mk]; omega) ?_
  refine Sl.asg rfl rfl ?_
  refine Sl.en ?_
  refine Sl.thenN ?_
  refine Sl.rt ?_
  refine Sl.thenR ?_
  exact Sl.ret1 [] Tryz.results42 rfl ⟨⟨bs, hb, by rw [show (⟨#[1]⟩ : Str) = ⟨[1].toArray⟩ from rfl, append_mk]; rfl⟩, rfl⟩ Sl.perm

theorem idc_one {k : UInt8} {bs : List UInt8} : ∀ v ∈ idc k bs, v.oneCell' = true := fun v hv => by
  simp only [idc, List.mem_cons, List.mem_map] at hv
  rcases hv with rfl | ⟨c, _, rfl⟩ <;> rfl
theorem setR_full {vs cs : List Value} (h : vs.length = cs.length) : setR cs 0 vs = some vs := by
  have := setR_app (vs := vs) (l1 := []) (l2 := cs) (by omega)
  rw [h, List.drop_length] at this
  simpa using this
theorem idc_len {k : UInt8} {bs : List UInt8} (h : bs.length = 32) : (idc k bs).length = 33 := by simp [idc, h]
def zer (n : Nat) : List UInt8 := List.replicate n 0
theorem setN_idc {k c : UInt8} {bs : List UInt8} {i : Nat} (h : i < bs.length) : setN (idc k bs) (i + 1) (.int .u8 (c.toNat : Nat)) = some (idc k (bs.set i c)) := by
  simp only [idc, setN, setN_map h]
theorem set_pad {r : List UInt8} {j n : Nat} {c : UInt8} (hj : j < n) (hc : r[j]? = some c) : (r.take j ++ zer (n - j)).set j c = r.take (j + 1) ++ zer (n - (j + 1)) := by
  have hlt : j < r.length := by
    rcases Nat.lt_or_ge j r.length with q | q
    · exact q
    · rw [List.getElem?_eq_none q] at hc; cases hc
  rw [List.set_append_right _ _ (by rw [List.length_take]; omega), take_snoc hc, List.append_assoc]
  congr 1
  rw [List.length_take, Nat.min_eq_left (by omega), Nat.sub_self]
  obtain ⟨m, hm⟩ : ∃ m, n - j = m + 1 := ⟨n - j - 1, by omega⟩
  rw [hm, show n - (j + 1) = m from by omega]
  simp [zer, List.replicate_succ]

theorem id14_is (k : UInt8) (r : List UInt8) (hr : r.length ≤ 32) : Fnc Tryz.prog 41 [.string ⟨(k :: r).toArray⟩] [] (fun v L' => v = .agg (idc k (r ++ zer (32 - r.length))).toArray ∧ L' = []) := by
  refine Sl.fn_intro Tryz.func41 rfl Tryz.ntmps41 rfl (fun g F => ?_)
  simp only [Sl.slotsOf, List.cons_append, List.nil_append, Nat.reduceAdd]
  refine Sl.sq ?_
  refine Sl.rg ?_
  refine Sl.al rfl (fun b2 => ?_)
  refine Sl.en ?_
  refine Sl.thenN ?_
  refine Sl.sq ?_
  refine Sl.rg ?_
  refine Sl.al rfl (fun b3 => ?_)
  refine Sl.en ?_
  refine Sl.thenN ?_
  refine Sl.sq ?_
  refine Sl.sq ?_
  refine Sl.rg ?_
  refine Sl.mv rfl rfl ?_
  refine Sl.eqlS rfl rfl rfl ?_
  refine Sl.en ?_
  refine Sl.thenN ?_
  refine Sl.cdP rfl (fun h6 => ?_) (fun h6 => ?_)
  · skip
    exact absurd h6 (by simp) --closed
  · skip
    refine Sl.sk ?_
    refine Sl.thenN ?_
    refine Sl.sq ?_
    refine Sl.rg ?_
    refine Sl.mv rfl rfl ?_
    refine Sl.ixC (i := 0) (c := k) rfl rfl rfl rfl rfl ?_
    refine Sl.fa rfl rfl ?_
    refine Sl.st rfl rfl rfl rfl ?_
    refine Sl.en ?_
    refine Sl.thenN ?_
    refine Sl.sq ?_
    refine Sl.sq ?_
    refine Sl.rg ?_
    refine Sl.asg rfl rfl ?_
    refine Sl.en ?_
    refine Sl.thenN ?_
    refine Sl.bl ?_
    refine Sl.weakL (L' := [blk b3 24 (idc k (r.take 0 ++ zer (32 - 0))), blk b2 24 (idc 0 (zer 32)), F]) (fun h q => q) ?_
    refine Sl.lp0 (fun m s' L => ∃ j : Nat, j ≤ r.length ∧ m = r.length - j ∧ s' = [(4, .int .i64 ((j + 1 : Nat))), (3, .pointer (some ⟨b3, 0, none⟩)), (2, .pointer (some ⟨b2, 0, none⟩)), (0, .string ⟨(k :: r).toArray⟩)] ∧
        L = [blk b3 24 (idc k (r.take j ++ zer (32 - j))), blk b2 24 (idc 0 (zer 32)), F])
        r.length _ _ ⟨0, Nat.zero_le _, rfl, rfl, rfl⟩ ⟨rfl, rfl, rfl, rfl, trivial⟩ Sl.perm ?_
    rintro m s' L ⟨j, hj, rfl, rfl, rfl⟩
    refine Sl.sq ?_
    refine Sl.sq ?_
    refine Sl.rg ?_
    refine Sl.mv rfl rfl ?_
    refine Sl.mv rfl rfl ?_
    refine Sl.lnS rfl rfl ?_
    refine Sl.lss rfl rfl rfl ?_
    refine Sl.en ?_
    refine Sl.thenN ?_
    refine Sl.cdP rfl (fun h14 => ?_) (fun h14 => ?_)
    · skip
      have hlt : j < r.length := by (rw [size_mk] at h14; simp at h14; omega)
      obtain ⟨c, hc⟩ := getSome hlt
      refine Sl.sk ?_
      refine Sl.thenN ?_
      refine Sl.sq ?_
      refine Sl.bl ?_
      refine Sl.rg ?_
      refine Sl.mv rfl rfl ?_
      refine Sl.sb rfl rfl rfl (Sl.fits_i64 (by omega)) ?_
      refine Sl.mv rfl rfl ?_
      refine Sl.mv rfl rfl ?_
      refine Sl.ixC (i := j + 1) (c := c) rfl rfl rfl rfl (by simpa using hc) ?_
      refine Sl.fa rfl rfl ?_
      refine Sl.iaA rfl rfl rfl (by omega) ?_
      refine Sl.st rfl rfl rfl (cs' := idc k ((r.take j ++ zer (32 - j)).set j c)) (by rw [show 0 + 1 + (((j + 1 : Nat) : Int) - 1).toNat * 1 = j + 1 from by omega]; exact setN_idc (by simp [zer]; omega)) ?_
      refine Sl.en ?_
      refine Sl.blkN ?_
      refine Sl.thenN ?_
      refine Sl.rg ?_
      refine Sl.mv rfl rfl ?_
      refine Sl.add rfl rfl rfl (Sl.fits_i64 (by omega)) ?_
      refine Sl.asg rfl rfl ?_
      refine Sl.en ?_
      refine Sl.thenN ?_
      exact Sl.again (m' := r.length - (j + 1)) ⟨j + 1, by omega, rfl, rfl, rfl⟩ (by omega) ⟨rfl, rfl, rfl, rfl, trivial⟩ (by rw [← set_pad (n := 32) (by omega) hc]; exact Sl.perm)
    · skip
      have hge : j = r.length := by (rw [size_mk] at h14; simp at h14; omega)
      refine Sl.xi ?_
      refine Sl.thenE ?_
      refine Sl.thenE ?_
      refine Sl.blkE ?_
      refine Sl.thenN ?_
      refine Sl.sq ?_
      refine Sl.rg ?_
      refine Sl.lda rfl rfl (Sl.sub_all (by simp [idc, zer]; omega)) ?_
      refine Sl.sta rfl rfl (idc_len (by simp [zer]; omega)) idc_one (setR_full (by rw [idc_len (by simp [zer]; omega)]; rfl)) ?_
      refine Sl.en ?_
      refine Sl.thenN ?_
      refine Sl.rt ?_
      subst hge
      exact Sl.retC [] Tryz.results41 rfl (Sl.sub_all (by simp [idc, zer]; omega)) ⟨by rw [List.take_length], rfl⟩ Sl.perm

theorem of14_is (s : Str) (hs : s.size ≤ 4611686018427387904) : Fnc Tryz.prog 21 [.int .u8 1, .string s] [] (fun v L' => (∃ bs : List UInt8, bs.length = 8 ∧ v = .agg (idc 1 (bs ++ zer 24)).toArray) ∧ L' = []) := by
  refine Sl.fn_intro Tryz.func21 rfl Tryz.ntmps21 rfl (fun g F => ?_)
  simp only [Sl.slotsOf, List.cons_append, List.nil_append, Nat.reduceAdd]
  refine Sl.sq ?_
  refine Sl.rg ?_
  refine Sl.al rfl (fun b4 => ?_)
  refine Sl.en ?_
  refine Sl.thenN ?_
  refine Sl.sq ?_
  refine Sl.rg ?_
  refine Sl.mv rfl rfl ?_
  refine Sl.mv rfl rfl ?_
  refine Sl.cl (text14_is s hs) rfl rfl ?_
  rintro _ _ ⟨⟨bs, hb, rfl⟩, rfl⟩
  simp only [List.nil_append]
  refine Sl.cl (id14_is 1 bs (by omega)) rfl rfl ?_
  rintro _ _ ⟨rfl, rfl⟩
  simp only [List.nil_append, hb]
  refine Sl.sta rfl rfl (idc_len (by simp [zer, hb])) idc_one (setR_full (by rw [idc_len (by simp [zer, hb])]; rfl)) ?_
  refine Sl.en ?_
  refine Sl.thenN ?_
  refine Sl.rt ?_
  exact Sl.retC [] Tryz.results21 rfl (Sl.sub_all (idc_len (by simp [zer, hb]))) ⟨⟨bs, hb, rfl⟩, rfl⟩ Sl.perm

/-- What a text names: a kind and a sum. -/
def parseT (t : Str) : Option (UInt8 × List UInt8) := match t.data.toList with
  | [] => none
  | k :: r => if 0 < szOf k.toNat ∧ r.length = szOf k.toNat then some (k, r ++ zer (32 - r.length)) else none
def idOf : Option (UInt8 × List UInt8) → List Value
  | some (k, bs) => idc k bs
  | none => idc 0 (zer 32)
theorem parse_mk (k : UInt8) (r : List UInt8) : parseT ⟨(k :: r).toArray⟩ = if 0 < szOf k.toNat ∧ r.length = szOf k.toNat then some (k, r ++ zer (32 - r.length)) else none := rfl
theorem str_cons {t : Str} (h : t.size ≠ 0) : ∃ k r, t = ⟨(k :: r).toArray⟩ := by
  obtain ⟨⟨l⟩⟩ := t
  cases l with
  | nil => exact absurd rfl h
  | cons k r => exact ⟨k, r, rfl⟩
theorem extract_tail (k : UInt8) (r : List UInt8) : ByteArray.extract ⟨(k :: r).toArray⟩ 1 (ByteArray.size ⟨(k :: r).toArray⟩) = ⟨r.toArray⟩ := by
  apply ByteArray.ext
  rw [ByteArray.data_extract, size_mk]
  apply Array.ext'
  simp
theorem bytesOf_mk (r : List UInt8) : bytesOf ⟨r.toArray⟩ = r.map fun c => .int .u8 (c.toNat : Nat) := by simp [bytesOf]
theorem setR_idc {k : UInt8} {r : List UInt8} (h : r.length ≤ 32) : setR (idc k (zer 32)) 1 (r.map fun c => .int .u8 (c.toNat : Nat)) = some (idc k (r ++ zer (32 - r.length))) := by
  have := setR_app (vs := r.map fun c => Value.int .u8 (c.toNat : Nat)) (l1 := [Value.int .u8 (k.toNat : Nat)]) (l2 := (zer 32).map fun c => Value.int .u8 (c.toNat : Nat)) (by simp [zer]; omega)
  have e1 : [Value.int .u8 (k.toNat : Nat)] ++ (zer 32).map (fun c => Value.int .u8 (c.toNat : Nat)) = idc k (zer 32) := rfl
  rw [e1] at this
  refine this.trans ?_
  rw [List.length_map, ← List.map_drop, show (zer 32).drop r.length = zer (32 - r.length) from List.drop_replicate]
  simp [idc]

theorem parse_is (t : Str) : Fnc Tryz.prog 35 [.string t] [] (fun v L' => v = .tuple [.agg (idOf (parseT t)).toArray, .bool (parseT t).isSome].toArray ∧ L' = []) := by
  refine Sl.fn_intro Tryz.func35 rfl Tryz.ntmps35 rfl (fun g F => ?_)
  simp only [Sl.slotsOf, List.cons_append, List.nil_append, Nat.reduceAdd]
  refine Sl.sq ?_
  refine Sl.rg ?_
  refine Sl.al rfl (fun b2 => ?_)
  refine Sl.asg rfl rfl ?_
  refine Sl.en ?_
  refine Sl.thenN ?_
  refine Sl.sq ?_
  refine Sl.sq ?_
  refine Sl.rg ?_
  refine Sl.mv rfl rfl ?_
  refine Sl.lnS rfl rfl ?_
  refine Sl.eqlI rfl rfl rfl ?_
  refine Sl.mv rfl rfl ?_
  refine Sl.split (t := 8) rfl (fun h8 => ?_) (fun h8 => ?_)
  · skip
    have hn : parseT t = none := by
      have h0 : t.size = 0 := by (have := of_decide_eq_true h8; omega)
      have : t.data.toList = [] := List.eq_nil_of_length_eq_zero (by rw [← sz_list]; exact h0)
      unfold parseT; rw [this]
    refine Sl.gskip rfl rfl rfl rfl rfl rfl ?_
    refine Sl.gskip rfl rfl rfl rfl rfl rfl ?_
    refine Sl.gskip rfl rfl rfl rfl rfl rfl ?_
    refine Sl.gskip rfl rfl rfl rfl rfl rfl ?_
    refine Sl.pk rfl rfl rfl ?_
    refine Sl.mv rfl rfl ?_
    refine Sl.split (t := 14) rfl (fun h14 => ?_) (fun h14 => ?_)
    · skip
      refine Sl.gskip rfl rfl rfl rfl rfl rfl ?_
      refine Sl.gskip rfl rfl rfl rfl rfl rfl ?_
      refine Sl.gskip rfl rfl rfl rfl rfl rfl ?_
      refine Sl.gskip rfl rfl rfl rfl rfl rfl ?_
      refine Sl.gskip rfl rfl rfl rfl rfl rfl ?_
      refine Sl.gskip rfl rfl rfl rfl rfl rfl ?_
      refine Sl.gskip rfl rfl rfl rfl rfl rfl ?_
      refine Sl.pk rfl rfl rfl ?_
      refine Sl.en ?_
      refine Sl.thenN ?_
      refine Sl.cdT rfl ?_
      refine Sl.sq ?_
      refine Sl.rg ?_
      refine Sl.bd rfl rfl rfl ?_
      refine Sl.sta rfl rfl rfl (by simp [Value.oneCell']) rfl ?_
      refine Sl.asg rfl rfl ?_
      refine Sl.en ?_
      refine Sl.thenN ?_
      refine Sl.rt ?_
      refine Sl.thenR ?_
      exact Sl.retC1 [] Tryz.results35 rfl (Sl.sub_all (idc_len (k := 0) (bs := zer 32) (by simp [zer]))) rfl ⟨by rw [hn]; rfl, rfl⟩ Sl.perm
    · skip
      cases h14 --closed
  · skip
    have h0 : t.size ≠ 0 := by (have := of_decide_eq_false h8; omega)
    obtain ⟨k, r, rfl⟩ := str_cons h0
    refine Sl.gdo rfl rfl ?_
    refine Sl.mv rfl rfl ?_
    refine Sl.gdo rfl rfl ?_
    refine Sl.ixC (i := 0) (c := k) rfl rfl rfl rfl rfl ?_
    refine Sl.gdo rfl rfl ?_
    refine Sl.cl (size_is k.toNat) rfl rfl ?_
    rintro _ _ ⟨rfl, rfl⟩
    simp only [List.nil_append]
    have hsz := szOf_le k.toNat
    refine Sl.gdo rfl rfl ?_
    refine Sl.eqlI rfl rfl rfl ?_
    refine Sl.pk rfl rfl rfl ?_
    refine Sl.mv rfl rfl ?_
    refine Sl.split (t := 14) rfl (fun h14 => ?_) (fun h14 => ?_)
    · skip
      have hn : parseT ⟨(k :: r).toArray⟩ = none := by (have := of_decide_eq_true h14; rw [parse_mk, if_neg (by omega)])
      refine Sl.gskip rfl rfl rfl rfl rfl rfl ?_
      refine Sl.gskip rfl rfl rfl rfl rfl rfl ?_
      refine Sl.gskip rfl rfl rfl rfl rfl rfl ?_
      refine Sl.gskip rfl rfl rfl rfl rfl rfl ?_
      refine Sl.gskip rfl rfl rfl rfl rfl rfl ?_
      refine Sl.gskip rfl rfl rfl rfl rfl rfl ?_
      refine Sl.gskip rfl rfl rfl rfl rfl rfl ?_
      refine Sl.pk rfl rfl rfl ?_
      refine Sl.en ?_
      refine Sl.thenN ?_
      refine Sl.cdT rfl ?_
      refine Sl.sq ?_
      refine Sl.rg ?_
      refine Sl.bd rfl rfl rfl ?_
      refine Sl.sta rfl rfl rfl (by simp [Value.oneCell']) rfl ?_
      refine Sl.asg rfl rfl ?_
      refine Sl.en ?_
      refine Sl.thenN ?_
      refine Sl.rt ?_
      refine Sl.thenR ?_
      exact Sl.retC1 [] Tryz.results35 rfl (Sl.sub_all (idc_len (k := 0) (bs := zer 32) (by simp [zer]))) rfl ⟨by rw [hn]; rfl, rfl⟩ Sl.perm
    · skip
      have hpos : 0 < szOf k.toNat := by (have := of_decide_eq_false h14; omega)
      refine Sl.gdo rfl rfl ?_
      refine Sl.mv rfl rfl ?_
      refine Sl.gdo rfl rfl ?_
      refine Sl.lnS rfl rfl ?_
      refine Sl.gdo rfl rfl ?_
      refine Sl.mv rfl rfl ?_
      refine Sl.gdo rfl rfl ?_
      refine Sl.ixC (i := 0) (c := k) rfl rfl rfl rfl rfl ?_
      refine Sl.gdo rfl rfl ?_
      refine Sl.cl (size_is k.toNat) rfl rfl ?_
      rintro _ _ ⟨rfl, rfl⟩
      simp only [List.nil_append]
      have hsz := szOf_le k.toNat
      refine Sl.gdo rfl rfl ?_
      refine Sl.add rfl rfl rfl (Sl.fits_i64 (by omega)) ?_
      refine Sl.gdo rfl rfl ?_
      refine Sl.neqI rfl rfl rfl ?_
      refine Sl.pk rfl rfl rfl ?_
      refine Sl.en ?_
      refine Sl.thenN ?_
      refine Sl.cdP rfl (fun h22 => ?_) (fun h22 => ?_)
      · skip
        have hn : parseT ⟨(k :: r).toArray⟩ = none := by (rw [parse_mk, if_neg]; rintro ⟨_, e⟩; apply h22; rw [size_mk]; simp; omega)
        refine Sl.sq ?_
        refine Sl.rg ?_
        refine Sl.bd rfl rfl rfl ?_
        refine Sl.sta rfl rfl rfl (by simp [Value.oneCell']) rfl ?_
        refine Sl.asg rfl rfl ?_
        refine Sl.en ?_
        refine Sl.thenN ?_
        refine Sl.rt ?_
        refine Sl.thenR ?_
        exact Sl.retC1 [] Tryz.results35 rfl (Sl.sub_all (idc_len (k := 0) (bs := zer 32) (by simp [zer]))) rfl ⟨by rw [hn]; rfl, rfl⟩ Sl.perm
      · skip
        have hl : r.length = szOf k.toNat := by (rw [size_mk] at h22; simp at h22; omega)
        have hy : parseT ⟨(k :: r).toArray⟩ = some (k, r ++ zer (32 - r.length)) := by rw [parse_mk, if_pos ⟨hpos, hl⟩]
        refine Sl.sk ?_
        refine Sl.thenN ?_
        refine Sl.sq ?_
        refine Sl.rg ?_
        refine Sl.mv rfl rfl ?_
        refine Sl.ixC (i := 0) (c := k) rfl rfl rfl rfl rfl ?_
        refine Sl.bd rfl rfl rfl ?_
        refine Sl.al rfl (fun b4 => ?_)
        refine Sl.sta rfl rfl rfl (by simp [Value.oneCell']) rfl ?_
        refine Sl.en ?_
        refine Sl.thenN ?_
        refine Sl.sq ?_
        refine Sl.rgT ([]) [0, 1, 2, 3, 4] [0, 1, 2, 3] (by kernel_rfl) (by kernel_rfl) (by kernel_rfl) ?_
        refine Sl.tk 0 (lst' := [true, false, false, false, false]) rfl (Sl.faY rfl) rfl rfl rfl rfl (by kernel_rfl) (by kernel_rfl) Sl.perm rfl ?_
        refine Sl.tk 1 (lst' := [true, true, false, false, false]) rfl (Sl.slAY rfl) rfl rfl rfl rfl (by kernel_rfl) (by kernel_rfl) Sl.perm rfl ?_
        refine Sl.tk 2 (lst' := [true, true, true, false, false]) rfl (Sl.mvY rfl) rfl rfl rfl rfl (by kernel_rfl) (by kernel_rfl) Sl.perm rfl ?_
        refine Sl.tk 3 (lst' := [true, true, true, true, false]) rfl (Sl.slSlY rfl rfl (by rw [size_mk]; simp; omega)) rfl rfl rfl rfl (by kernel_rfl) (by kernel_rfl) Sl.perm rfl ?_
        refine Sl.rn1 4 (lst' := [true, true, true, true, true]) (by kernel_rfl) rfl rfl (fun hk hs hQ => ?_)
        refine Sl.cpS (cs' := idc k (r ++ zer (32 - r.length))) rfl rfl rfl (by rw [show (1 : Int).toNat = 1 from rfl, extract_tail, bytesOf_mk, size_mk, show Nat.min r.length 32 = r.length from Nat.min_eq_left (by omega), List.take_of_length_le (by simp)]; exact setR_idc (by omega)) ?_
        refine Sl.en ?_
        refine Sl.thenN ?_
        refine Sl.bk hk hs hQ (fun _ => Sl.perm) ?_
        refine Sl.dn (by kernel_rfl) ?_
        refine Sl.thenN ?_
        refine Sl.sq ?_
        refine Sl.rg ?_
        refine Sl.lda rfl rfl (Sl.sub_all (idc_len (by simp [zer]; omega))) ?_
        refine Sl.sta rfl rfl (idc_len (by simp [zer]; omega)) idc_one (setR_full (by rw [idc_len (by simp [zer]; omega)]; rfl)) ?_
        refine Sl.asg rfl rfl ?_
        refine Sl.en ?_
        refine Sl.thenN ?_
        refine Sl.rt ?_
        exact Sl.retC1 [] Tryz.results35 rfl (Sl.sub_all (idc_len (by simp [zer]; omega))) rfl ⟨by rw [hy]; rfl, rfl⟩ Sl.perm

def chOk (c : UInt8) : Bool := (decide (97 ≤ c.toNat) && decide (c.toNat ≤ 122)) || (decide (48 ≤ c.toNat) && decide (c.toNat ≤ 57)) || decide (c.toNat = 45)
/-- A good name. -/
def gname (s : Str) : Bool := decide (0 < s.size) && decide (s.size ≤ 16) && s.data.toList.all chOk
theorem gname_bad {s : Str} {j : Nat} {c : UInt8} (hc : s.data.toList[j]? = some c) (hb : chOk c = false) : gname s = false := by
  have : s.data.toList.all chOk = false := List.all_eq_false.2 ⟨c, List.mem_of_getElem? hc, by simp [hb]⟩
  simp [gname, this]
theorem all_take {f : UInt8 → Bool} {l : List UInt8} {j : Nat} {c : UInt8} (hc : l[j]? = some c) (h : (l.take j).all f = true) (hf : f c = true) : (l.take (j + 1)).all f = true := by
  rw [take_snoc hc]; simp [hf]; simpa using h
theorem nil_size {s : Str} (h : s = ⟨#[]⟩) : s.size = 0 := by subst h; rfl
theorem size_nil {s : Str} (h : ¬ s = ⟨#[]⟩) : 0 < s.size := by
  rcases Nat.eq_zero_or_pos s.size with q | q
  · exfalso; apply h; apply ByteArray.ext; exact Array.eq_empty_of_size_eq_zero q
  · exact q

theorem good18_is (s : Str) : Fnc Tryz.prog 22 [.string s] [] (fun v L' => v = .bool (gname s) ∧ L' = []) := by
  refine Sl.fn_intro Tryz.func22 rfl Tryz.ntmps22 rfl (fun g F => ?_)
  simp only [Sl.slotsOf, List.cons_append, List.nil_append, Nat.reduceAdd]
  refine Sl.sq ?_
  refine Sl.rg ?_
  refine Sl.asg rfl rfl ?_
  refine Sl.en ?_
  refine Sl.thenN ?_
  refine Sl.sq ?_
  refine Sl.sq ?_
  refine Sl.rg ?_
  refine Sl.mv rfl rfl ?_
  refine Sl.eqlS rfl rfl rfl ?_
  refine Sl.mv rfl rfl ?_
  refine Sl.split (t := 9) rfl (fun h9 => ?_) (fun h9 => ?_)
  · skip
    have hbad : gname s = false := by (have := nil_size (s := s) (by simpa using h9); simp [gname, this])
    refine Sl.gskip rfl rfl rfl rfl rfl rfl ?_
    refine Sl.gskip rfl rfl rfl rfl rfl rfl ?_
    refine Sl.gskip rfl rfl rfl rfl rfl rfl ?_
    refine Sl.pk rfl rfl rfl ?_
    refine Sl.en ?_
    refine Sl.thenN ?_
    refine Sl.cdT rfl ?_
    refine Sl.sq ?_
    refine Sl.rg ?_
    refine Sl.asg rfl rfl ?_
    refine Sl.en ?_
    refine Sl.thenN ?_
    refine Sl.rt ?_
    refine Sl.thenR ?_
    exact Sl.ret1 [] Tryz.results22 rfl ⟨by rw [hbad], rfl⟩ Sl.perm
  · skip
    have hpos : 0 < s.size := size_nil (by simpa using h9)
    refine Sl.gdo rfl rfl ?_
    refine Sl.mv rfl rfl ?_
    refine Sl.gdo rfl rfl ?_
    refine Sl.lnS rfl rfl ?_
    refine Sl.gdo rfl rfl ?_
    refine Sl.gtr rfl rfl rfl ?_
    refine Sl.pk rfl rfl rfl ?_
    refine Sl.en ?_
    refine Sl.thenN ?_
    refine Sl.cdP rfl (fun h13 => ?_) (fun h13 => ?_)
    · skip
      have hbad : gname s = false := by (simp [gname]; omega)
      refine Sl.sq ?_
      refine Sl.rg ?_
      refine Sl.asg rfl rfl ?_
      refine Sl.en ?_
      refine Sl.thenN ?_
      refine Sl.rt ?_
      refine Sl.thenR ?_
      exact Sl.ret1 [] Tryz.results22 rfl ⟨by rw [hbad], rfl⟩ Sl.perm
    · skip
      refine Sl.sk ?_
      refine Sl.thenN ?_
      refine Sl.sq ?_
      refine Sl.sq ?_
      refine Sl.rg ?_
      refine Sl.asg rfl rfl ?_
      refine Sl.en ?_
      refine Sl.thenN ?_
      refine Sl.bl ?_
      refine Sl.lp0 (fun m s' L => ∃ j : Nat, j ≤ s.size ∧ m = s.size - j ∧ (s.data.toList.take j).all chOk = true ∧ s' = [(3, .int .i64 (j : Nat)), (0, .string s)] ∧ L = [F])
          s.size _ _ ⟨0, Nat.zero_le _, rfl, rfl, rfl, rfl⟩ ⟨rfl, rfl, trivial⟩ Sl.perm ?_
      rintro m s' L ⟨j, hj, rfl, hall, rfl, rfl⟩
      refine Sl.sq ?_
      refine Sl.sq ?_
      refine Sl.rg ?_
      refine Sl.mv rfl rfl ?_
      refine Sl.mv rfl rfl ?_
      refine Sl.lnS rfl rfl ?_
      refine Sl.lss rfl rfl rfl ?_
      refine Sl.en ?_
      refine Sl.thenN ?_
      refine Sl.cdP rfl (fun h17 => ?_) (fun h17 => ?_)
      · skip
        refine Sl.sk ?_
        refine Sl.thenN ?_
        refine Sl.sq ?_
        refine Sl.bl ?_
        refine Sl.sq ?_
        obtain ⟨c, hc⟩ : ∃ c, s.data.toList[j]? = some c := getSome (bs := s.data.toList) (by rw [← sz_list]; omega)
        refine Sl.rg ?_
        refine Sl.mv rfl rfl ?_
        refine Sl.mv rfl rfl ?_
        refine Sl.ixC (i := j) (c := c) rfl rfl rfl rfl hc ?_
        refine Sl.asg rfl rfl ?_
        refine Sl.en ?_
        refine Sl.thenN ?_
        refine Sl.sq ?_
        refine Sl.rg ?_
        refine Sl.mv rfl rfl ?_
        refine Sl.geq rfl rfl rfl ?_
        refine Sl.mv rfl rfl ?_
        refine Sl.split (t := 25) rfl (fun h25 => ?_) (fun h25 => ?_)
        · skip
          refine Sl.gdo rfl rfl ?_
          refine Sl.mv rfl rfl ?_
          refine Sl.gdo rfl rfl ?_
          refine Sl.leq rfl rfl rfl ?_
          refine Sl.pk rfl rfl rfl ?_
          refine Sl.asg rfl rfl ?_
          refine Sl.en ?_
          refine Sl.thenN ?_
          refine Sl.sq ?_
          refine Sl.rg ?_
          refine Sl.mv rfl rfl ?_
          refine Sl.geq rfl rfl rfl ?_
          refine Sl.mv rfl rfl ?_
          refine Sl.split (t := 31) rfl (fun h31 => ?_) (fun h31 => ?_)
          · skip
            refine Sl.gdo rfl rfl ?_
            refine Sl.mv rfl rfl ?_
            refine Sl.gdo rfl rfl ?_
            refine Sl.leq rfl rfl rfl ?_
            refine Sl.pk rfl rfl rfl ?_
            refine Sl.asg rfl rfl ?_
            refine Sl.en ?_
            refine Sl.thenN ?_
            refine Sl.sq ?_
            refine Sl.rg ?_
            refine Sl.mv rfl rfl ?_
            refine Sl.nt rfl rfl ?_
            refine Sl.mv rfl rfl ?_
            refine Sl.split (t := 37) rfl (fun h37 => ?_) (fun h37 => ?_)
            · skip
              refine Sl.gdo rfl rfl ?_
              refine Sl.mv rfl rfl ?_
              refine Sl.gdo rfl rfl ?_
              refine Sl.nt rfl rfl ?_
              refine Sl.pk rfl rfl rfl ?_
              refine Sl.mv rfl rfl ?_
              refine Sl.split (t := 41) rfl (fun h41 => ?_) (fun h41 => ?_)
              · skip
                refine Sl.gdo rfl rfl ?_
                refine Sl.mv rfl rfl ?_
                refine Sl.gdo rfl rfl ?_
                refine Sl.neqI rfl rfl rfl ?_
                refine Sl.pk rfl rfl rfl ?_
                refine Sl.en ?_
                refine Sl.thenN ?_
                refine Sl.cd rfl (fun h44 => ?_) (fun h44 => ?_)
                · skip
                  replace hall := ()
                  have hbad : chOk c = false := by (simp_all [chOk]) <;> omega
                  refine Sl.sq ?_
                  refine Sl.rg ?_
                  refine Sl.asg rfl rfl ?_
                  refine Sl.en ?_
                  refine Sl.thenN ?_
                  refine Sl.rt ?_
                  refine Sl.blkR ?_
                  refine Sl.thenR ?_
                  refine Sl.thenR ?_
                  refine Sl.blkR ?_
                  refine Sl.thenR ?_
                  exact Sl.ret1 [] Tryz.results22 rfl ⟨by rw [gname_bad hc hbad], rfl⟩ Sl.perm
                · skip
                  have hall2 := hall
                  replace hall := ()
                  have hok : chOk c = true := by (simp_all [chOk]) <;> omega
                  replace hall := hall2
                  refine Sl.sk ?_
                  refine Sl.blkN ?_
                  refine Sl.thenN ?_
                  refine Sl.rg ?_
                  refine Sl.mv rfl rfl ?_
                  refine Sl.add rfl rfl rfl (Sl.fits_i64 (by omega)) ?_
                  refine Sl.asg rfl rfl ?_
                  refine Sl.en ?_
                  refine Sl.thenN ?_
                  exact Sl.again (m' := s.size - (j + 1)) ⟨j + 1, by omega, rfl, all_take hc hall hok, rfl, rfl⟩ (by omega) ⟨rfl, rfl, trivial⟩ Sl.perm
              · skip
                refine Sl.gskip rfl rfl rfl rfl rfl rfl ?_
                refine Sl.gskip rfl rfl rfl rfl rfl rfl ?_
                refine Sl.pk rfl rfl rfl ?_
                refine Sl.en ?_
                refine Sl.thenN ?_
                refine Sl.cd rfl (fun h44 => ?_) (fun h44 => ?_)
                · skip
                  replace hall := ()
                  have hbad : chOk c = false := by (simp_all [chOk]) <;> omega
                  refine Sl.sq ?_
                  refine Sl.rg ?_
                  refine Sl.asg rfl rfl ?_
                  refine Sl.en ?_
                  refine Sl.thenN ?_
                  refine Sl.rt ?_
                  refine Sl.blkR ?_
                  refine Sl.thenR ?_
                  refine Sl.thenR ?_
                  refine Sl.blkR ?_
                  refine Sl.thenR ?_
                  exact Sl.ret1 [] Tryz.results22 rfl ⟨by rw [gname_bad hc hbad], rfl⟩ Sl.perm
                · skip
                  have hall2 := hall
                  replace hall := ()
                  have hok : chOk c = true := by (simp_all [chOk]) <;> omega
                  replace hall := hall2
                  refine Sl.sk ?_
                  refine Sl.blkN ?_
                  refine Sl.thenN ?_
                  refine Sl.rg ?_
                  refine Sl.mv rfl rfl ?_
                  refine Sl.add rfl rfl rfl (Sl.fits_i64 (by omega)) ?_
                  refine Sl.asg rfl rfl ?_
                  refine Sl.en ?_
                  refine Sl.thenN ?_
                  exact Sl.again (m' := s.size - (j + 1)) ⟨j + 1, by omega, rfl, all_take hc hall hok, rfl, rfl⟩ (by omega) ⟨rfl, rfl, trivial⟩ Sl.perm
            · skip
              refine Sl.gskip rfl rfl rfl rfl rfl rfl ?_
              refine Sl.gskip rfl rfl rfl rfl rfl rfl ?_
              refine Sl.pk rfl rfl rfl ?_
              refine Sl.mv rfl rfl ?_
              refine Sl.split (t := 41) rfl (fun h41 => ?_) (fun h41 => ?_)
              · skip
                refine Sl.gdo rfl rfl ?_
                refine Sl.mv rfl rfl ?_
                refine Sl.gdo rfl rfl ?_
                refine Sl.neqI rfl rfl rfl ?_
                refine Sl.pk rfl rfl rfl ?_
                refine Sl.en ?_
                refine Sl.thenN ?_
                refine Sl.cd rfl (fun h44 => ?_) (fun h44 => ?_)
                · skip
                  replace hall := ()
                  have hbad : chOk c = false := by (simp_all [chOk]) <;> omega
                  refine Sl.sq ?_
                  refine Sl.rg ?_
                  refine Sl.asg rfl rfl ?_
                  refine Sl.en ?_
                  refine Sl.thenN ?_
                  refine Sl.rt ?_
                  refine Sl.blkR ?_
                  refine Sl.thenR ?_
                  refine Sl.thenR ?_
                  refine Sl.blkR ?_
                  refine Sl.thenR ?_
                  exact Sl.ret1 [] Tryz.results22 rfl ⟨by rw [gname_bad hc hbad], rfl⟩ Sl.perm
                · skip
                  have hall2 := hall
                  replace hall := ()
                  have hok : chOk c = true := by (simp_all [chOk]) <;> omega
                  replace hall := hall2
                  refine Sl.sk ?_
                  refine Sl.blkN ?_
                  refine Sl.thenN ?_
                  refine Sl.rg ?_
                  refine Sl.mv rfl rfl ?_
                  refine Sl.add rfl rfl rfl (Sl.fits_i64 (by omega)) ?_
                  refine Sl.asg rfl rfl ?_
                  refine Sl.en ?_
                  refine Sl.thenN ?_
                  exact Sl.again (m' := s.size - (j + 1)) ⟨j + 1, by omega, rfl, all_take hc hall hok, rfl, rfl⟩ (by omega) ⟨rfl, rfl, trivial⟩ Sl.perm
              · skip
                refine Sl.gskip rfl rfl rfl rfl rfl rfl ?_
                refine Sl.gskip rfl rfl rfl rfl rfl rfl ?_
                refine Sl.pk rfl rfl rfl ?_
                refine Sl.en ?_
                refine Sl.thenN ?_
                refine Sl.cd rfl (fun h44 => ?_) (fun h44 => ?_)
                · skip
                  replace hall := ()
                  have hbad : chOk c = false := by (simp_all [chOk]) <;> omega
                  refine Sl.sq ?_
                  refine Sl.rg ?_
                  refine Sl.asg rfl rfl ?_
                  refine Sl.en ?_
                  refine Sl.thenN ?_
                  refine Sl.rt ?_
                  refine Sl.blkR ?_
                  refine Sl.thenR ?_
                  refine Sl.thenR ?_
                  refine Sl.blkR ?_
                  refine Sl.thenR ?_
                  exact Sl.ret1 [] Tryz.results22 rfl ⟨by rw [gname_bad hc hbad], rfl⟩ Sl.perm
                · skip
                  have hall2 := hall
                  replace hall := ()
                  have hok : chOk c = true := by (simp_all [chOk]) <;> omega
                  replace hall := hall2
                  refine Sl.sk ?_
                  refine Sl.blkN ?_
                  refine Sl.thenN ?_
                  refine Sl.rg ?_
                  refine Sl.mv rfl rfl ?_
                  refine Sl.add rfl rfl rfl (Sl.fits_i64 (by omega)) ?_
                  refine Sl.asg rfl rfl ?_
                  refine Sl.en ?_
                  refine Sl.thenN ?_
                  exact Sl.again (m' := s.size - (j + 1)) ⟨j + 1, by omega, rfl, all_take hc hall hok, rfl, rfl⟩ (by omega) ⟨rfl, rfl, trivial⟩ Sl.perm
          · skip
            refine Sl.gskip rfl rfl rfl rfl rfl rfl ?_
            refine Sl.gskip rfl rfl rfl rfl rfl rfl ?_
            refine Sl.pk rfl rfl rfl ?_
            refine Sl.asg rfl rfl ?_
            refine Sl.en ?_
            refine Sl.thenN ?_
            refine Sl.sq ?_
            refine Sl.rg ?_
            refine Sl.mv rfl rfl ?_
            refine Sl.nt rfl rfl ?_
            refine Sl.mv rfl rfl ?_
            refine Sl.split (t := 37) rfl (fun h37 => ?_) (fun h37 => ?_)
            · skip
              refine Sl.gdo rfl rfl ?_
              refine Sl.mv rfl rfl ?_
              refine Sl.gdo rfl rfl ?_
              refine Sl.nt rfl rfl ?_
              refine Sl.pk rfl rfl rfl ?_
              refine Sl.mv rfl rfl ?_
              refine Sl.split (t := 41) rfl (fun h41 => ?_) (fun h41 => ?_)
              · skip
                refine Sl.gdo rfl rfl ?_
                refine Sl.mv rfl rfl ?_
                refine Sl.gdo rfl rfl ?_
                refine Sl.neqI rfl rfl rfl ?_
                refine Sl.pk rfl rfl rfl ?_
                refine Sl.en ?_
                refine Sl.thenN ?_
                refine Sl.cd rfl (fun h44 => ?_) (fun h44 => ?_)
                · skip
                  replace hall := ()
                  have hbad : chOk c = false := by (simp_all [chOk]) <;> omega
                  refine Sl.sq ?_
                  refine Sl.rg ?_
                  refine Sl.asg rfl rfl ?_
                  refine Sl.en ?_
                  refine Sl.thenN ?_
                  refine Sl.rt ?_
                  refine Sl.blkR ?_
                  refine Sl.thenR ?_
                  refine Sl.thenR ?_
                  refine Sl.blkR ?_
                  refine Sl.thenR ?_
                  exact Sl.ret1 [] Tryz.results22 rfl ⟨by rw [gname_bad hc hbad], rfl⟩ Sl.perm
                · skip
                  have hall2 := hall
                  replace hall := ()
                  have hok : chOk c = true := by (simp_all [chOk]) <;> omega
                  replace hall := hall2
                  refine Sl.sk ?_
                  refine Sl.blkN ?_
                  refine Sl.thenN ?_
                  refine Sl.rg ?_
                  refine Sl.mv rfl rfl ?_
                  refine Sl.add rfl rfl rfl (Sl.fits_i64 (by omega)) ?_
                  refine Sl.asg rfl rfl ?_
                  refine Sl.en ?_
                  refine Sl.thenN ?_
                  exact Sl.again (m' := s.size - (j + 1)) ⟨j + 1, by omega, rfl, all_take hc hall hok, rfl, rfl⟩ (by omega) ⟨rfl, rfl, trivial⟩ Sl.perm
              · skip
                refine Sl.gskip rfl rfl rfl rfl rfl rfl ?_
                refine Sl.gskip rfl rfl rfl rfl rfl rfl ?_
                refine Sl.pk rfl rfl rfl ?_
                refine Sl.en ?_
                refine Sl.thenN ?_
                refine Sl.cd rfl (fun h44 => ?_) (fun h44 => ?_)
                · skip
                  replace hall := ()
                  have hbad : chOk c = false := by (simp_all [chOk]) <;> omega
                  refine Sl.sq ?_
                  refine Sl.rg ?_
                  refine Sl.asg rfl rfl ?_
                  refine Sl.en ?_
                  refine Sl.thenN ?_
                  refine Sl.rt ?_
                  refine Sl.blkR ?_
                  refine Sl.thenR ?_
                  refine Sl.thenR ?_
                  refine Sl.blkR ?_
                  refine Sl.thenR ?_
                  exact Sl.ret1 [] Tryz.results22 rfl ⟨by rw [gname_bad hc hbad], rfl⟩ Sl.perm
                · skip
                  have hall2 := hall
                  replace hall := ()
                  have hok : chOk c = true := by (simp_all [chOk]) <;> omega
                  replace hall := hall2
                  refine Sl.sk ?_
                  refine Sl.blkN ?_
                  refine Sl.thenN ?_
                  refine Sl.rg ?_
                  refine Sl.mv rfl rfl ?_
                  refine Sl.add rfl rfl rfl (Sl.fits_i64 (by omega)) ?_
                  refine Sl.asg rfl rfl ?_
                  refine Sl.en ?_
                  refine Sl.thenN ?_
                  exact Sl.again (m' := s.size - (j + 1)) ⟨j + 1, by omega, rfl, all_take hc hall hok, rfl, rfl⟩ (by omega) ⟨rfl, rfl, trivial⟩ Sl.perm
            · skip
              refine Sl.gskip rfl rfl rfl rfl rfl rfl ?_
              refine Sl.gskip rfl rfl rfl rfl rfl rfl ?_
              refine Sl.pk rfl rfl rfl ?_
              refine Sl.mv rfl rfl ?_
              refine Sl.split (t := 41) rfl (fun h41 => ?_) (fun h41 => ?_)
              · skip
                refine Sl.gdo rfl rfl ?_
                refine Sl.mv rfl rfl ?_
                refine Sl.gdo rfl rfl ?_
                refine Sl.neqI rfl rfl rfl ?_
                refine Sl.pk rfl rfl rfl ?_
                refine Sl.en ?_
                refine Sl.thenN ?_
                refine Sl.cd rfl (fun h44 => ?_) (fun h44 => ?_)
                · skip
                  replace hall := ()
                  have hbad : chOk c = false := by (simp_all [chOk]) <;> omega
                  refine Sl.sq ?_
                  refine Sl.rg ?_
                  refine Sl.asg rfl rfl ?_
                  refine Sl.en ?_
                  refine Sl.thenN ?_
                  refine Sl.rt ?_
                  refine Sl.blkR ?_
                  refine Sl.thenR ?_
                  refine Sl.thenR ?_
                  refine Sl.blkR ?_
                  refine Sl.thenR ?_
                  exact Sl.ret1 [] Tryz.results22 rfl ⟨by rw [gname_bad hc hbad], rfl⟩ Sl.perm
                · skip
                  have hall2 := hall
                  replace hall := ()
                  have hok : chOk c = true := by (simp_all [chOk]) <;> omega
                  replace hall := hall2
                  refine Sl.sk ?_
                  refine Sl.blkN ?_
                  refine Sl.thenN ?_
                  refine Sl.rg ?_
                  refine Sl.mv rfl rfl ?_
                  refine Sl.add rfl rfl rfl (Sl.fits_i64 (by omega)) ?_
                  refine Sl.asg rfl rfl ?_
                  refine Sl.en ?_
                  refine Sl.thenN ?_
                  exact Sl.again (m' := s.size - (j + 1)) ⟨j + 1, by omega, rfl, all_take hc hall hok, rfl, rfl⟩ (by omega) ⟨rfl, rfl, trivial⟩ Sl.perm
              · skip
                refine Sl.gskip rfl rfl rfl rfl rfl rfl ?_
                refine Sl.gskip rfl rfl rfl rfl rfl rfl ?_
                refine Sl.pk rfl rfl rfl ?_
                refine Sl.en ?_
                refine Sl.thenN ?_
                refine Sl.cd rfl (fun h44 => ?_) (fun h44 => ?_)
                · skip
                  replace hall := ()
                  have hbad : chOk c = false := by (simp_all [chOk]) <;> omega
                  refine Sl.sq ?_
                  refine Sl.rg ?_
                  refine Sl.asg rfl rfl ?_
                  refine Sl.en ?_
                  refine Sl.thenN ?_
                  refine Sl.rt ?_
                  refine Sl.blkR ?_
                  refine Sl.thenR ?_
                  refine Sl.thenR ?_
                  refine Sl.blkR ?_
                  refine Sl.thenR ?_
                  exact Sl.ret1 [] Tryz.results22 rfl ⟨by rw [gname_bad hc hbad], rfl⟩ Sl.perm
                · skip
                  have hall2 := hall
                  replace hall := ()
                  have hok : chOk c = true := by (simp_all [chOk]) <;> omega
                  replace hall := hall2
                  refine Sl.sk ?_
                  refine Sl.blkN ?_
                  refine Sl.thenN ?_
                  refine Sl.rg ?_
                  refine Sl.mv rfl rfl ?_
                  refine Sl.add rfl rfl rfl (Sl.fits_i64 (by omega)) ?_
                  refine Sl.asg rfl rfl ?_
                  refine Sl.en ?_
                  refine Sl.thenN ?_
                  exact Sl.again (m' := s.size - (j + 1)) ⟨j + 1, by omega, rfl, all_take hc hall hok, rfl, rfl⟩ (by omega) ⟨rfl, rfl, trivial⟩ Sl.perm
        · skip
          refine Sl.gskip rfl rfl rfl rfl rfl rfl ?_
          refine Sl.gskip rfl rfl rfl rfl rfl rfl ?_
          refine Sl.pk rfl rfl rfl ?_
          refine Sl.asg rfl rfl ?_
          refine Sl.en ?_
          refine Sl.thenN ?_
          refine Sl.sq ?_
          refine Sl.rg ?_
          refine Sl.mv rfl rfl ?_
          refine Sl.geq rfl rfl rfl ?_
          refine Sl.mv rfl rfl ?_
          refine Sl.split (t := 31) rfl (fun h31 => ?_) (fun h31 => ?_)
          · skip
            refine Sl.gdo rfl rfl ?_
            refine Sl.mv rfl rfl ?_
            refine Sl.gdo rfl rfl ?_
            refine Sl.leq rfl rfl rfl ?_
            refine Sl.pk rfl rfl rfl ?_
            refine Sl.asg rfl rfl ?_
            refine Sl.en ?_
            refine Sl.thenN ?_
            refine Sl.sq ?_
            refine Sl.rg ?_
            refine Sl.mv rfl rfl ?_
            refine Sl.nt rfl rfl ?_
            refine Sl.mv rfl rfl ?_
            refine Sl.split (t := 37) rfl (fun h37 => ?_) (fun h37 => ?_)
            · skip
              refine Sl.gdo rfl rfl ?_
              refine Sl.mv rfl rfl ?_
              refine Sl.gdo rfl rfl ?_
              refine Sl.nt rfl rfl ?_
              refine Sl.pk rfl rfl rfl ?_
              refine Sl.mv rfl rfl ?_
              refine Sl.split (t := 41) rfl (fun h41 => ?_) (fun h41 => ?_)
              · skip
                refine Sl.gdo rfl rfl ?_
                refine Sl.mv rfl rfl ?_
                refine Sl.gdo rfl rfl ?_
                refine Sl.neqI rfl rfl rfl ?_
                refine Sl.pk rfl rfl rfl ?_
                refine Sl.en ?_
                refine Sl.thenN ?_
                refine Sl.cd rfl (fun h44 => ?_) (fun h44 => ?_)
                · skip
                  replace hall := ()
                  have hbad : chOk c = false := by (simp_all [chOk]) <;> omega
                  refine Sl.sq ?_
                  refine Sl.rg ?_
                  refine Sl.asg rfl rfl ?_
                  refine Sl.en ?_
                  refine Sl.thenN ?_
                  refine Sl.rt ?_
                  refine Sl.blkR ?_
                  refine Sl.thenR ?_
                  refine Sl.thenR ?_
                  refine Sl.blkR ?_
                  refine Sl.thenR ?_
                  exact Sl.ret1 [] Tryz.results22 rfl ⟨by rw [gname_bad hc hbad], rfl⟩ Sl.perm
                · skip
                  have hall2 := hall
                  replace hall := ()
                  have hok : chOk c = true := by (simp_all [chOk]) <;> omega
                  replace hall := hall2
                  refine Sl.sk ?_
                  refine Sl.blkN ?_
                  refine Sl.thenN ?_
                  refine Sl.rg ?_
                  refine Sl.mv rfl rfl ?_
                  refine Sl.add rfl rfl rfl (Sl.fits_i64 (by omega)) ?_
                  refine Sl.asg rfl rfl ?_
                  refine Sl.en ?_
                  refine Sl.thenN ?_
                  exact Sl.again (m' := s.size - (j + 1)) ⟨j + 1, by omega, rfl, all_take hc hall hok, rfl, rfl⟩ (by omega) ⟨rfl, rfl, trivial⟩ Sl.perm
              · skip
                refine Sl.gskip rfl rfl rfl rfl rfl rfl ?_
                refine Sl.gskip rfl rfl rfl rfl rfl rfl ?_
                refine Sl.pk rfl rfl rfl ?_
                refine Sl.en ?_
                refine Sl.thenN ?_
                refine Sl.cd rfl (fun h44 => ?_) (fun h44 => ?_)
                · skip
                  replace hall := ()
                  have hbad : chOk c = false := by (simp_all [chOk]) <;> omega
                  refine Sl.sq ?_
                  refine Sl.rg ?_
                  refine Sl.asg rfl rfl ?_
                  refine Sl.en ?_
                  refine Sl.thenN ?_
                  refine Sl.rt ?_
                  refine Sl.blkR ?_
                  refine Sl.thenR ?_
                  refine Sl.thenR ?_
                  refine Sl.blkR ?_
                  refine Sl.thenR ?_
                  exact Sl.ret1 [] Tryz.results22 rfl ⟨by rw [gname_bad hc hbad], rfl⟩ Sl.perm
                · skip
                  have hall2 := hall
                  replace hall := ()
                  have hok : chOk c = true := by (simp_all [chOk]) <;> omega
                  replace hall := hall2
                  refine Sl.sk ?_
                  refine Sl.blkN ?_
                  refine Sl.thenN ?_
                  refine Sl.rg ?_
                  refine Sl.mv rfl rfl ?_
                  refine Sl.add rfl rfl rfl (Sl.fits_i64 (by omega)) ?_
                  refine Sl.asg rfl rfl ?_
                  refine Sl.en ?_
                  refine Sl.thenN ?_
                  exact Sl.again (m' := s.size - (j + 1)) ⟨j + 1, by omega, rfl, all_take hc hall hok, rfl, rfl⟩ (by omega) ⟨rfl, rfl, trivial⟩ Sl.perm
            · skip
              refine Sl.gskip rfl rfl rfl rfl rfl rfl ?_
              refine Sl.gskip rfl rfl rfl rfl rfl rfl ?_
              refine Sl.pk rfl rfl rfl ?_
              refine Sl.mv rfl rfl ?_
              refine Sl.split (t := 41) rfl (fun h41 => ?_) (fun h41 => ?_)
              · skip
                refine Sl.gdo rfl rfl ?_
                refine Sl.mv rfl rfl ?_
                refine Sl.gdo rfl rfl ?_
                refine Sl.neqI rfl rfl rfl ?_
                refine Sl.pk rfl rfl rfl ?_
                refine Sl.en ?_
                refine Sl.thenN ?_
                refine Sl.cd rfl (fun h44 => ?_) (fun h44 => ?_)
                · skip
                  replace hall := ()
                  have hbad : chOk c = false := by (simp_all [chOk]) <;> omega
                  refine Sl.sq ?_
                  refine Sl.rg ?_
                  refine Sl.asg rfl rfl ?_
                  refine Sl.en ?_
                  refine Sl.thenN ?_
                  refine Sl.rt ?_
                  refine Sl.blkR ?_
                  refine Sl.thenR ?_
                  refine Sl.thenR ?_
                  refine Sl.blkR ?_
                  refine Sl.thenR ?_
                  exact Sl.ret1 [] Tryz.results22 rfl ⟨by rw [gname_bad hc hbad], rfl⟩ Sl.perm
                · skip
                  have hall2 := hall
                  replace hall := ()
                  have hok : chOk c = true := by (simp_all [chOk]) <;> omega
                  replace hall := hall2
                  refine Sl.sk ?_
                  refine Sl.blkN ?_
                  refine Sl.thenN ?_
                  refine Sl.rg ?_
                  refine Sl.mv rfl rfl ?_
                  refine Sl.add rfl rfl rfl (Sl.fits_i64 (by omega)) ?_
                  refine Sl.asg rfl rfl ?_
                  refine Sl.en ?_
                  refine Sl.thenN ?_
                  exact Sl.again (m' := s.size - (j + 1)) ⟨j + 1, by omega, rfl, all_take hc hall hok, rfl, rfl⟩ (by omega) ⟨rfl, rfl, trivial⟩ Sl.perm
              · skip
                refine Sl.gskip rfl rfl rfl rfl rfl rfl ?_
                refine Sl.gskip rfl rfl rfl rfl rfl rfl ?_
                refine Sl.pk rfl rfl rfl ?_
                refine Sl.en ?_
                refine Sl.thenN ?_
                refine Sl.cd rfl (fun h44 => ?_) (fun h44 => ?_)
                · skip
                  replace hall := ()
                  have hbad : chOk c = false := by (simp_all [chOk]) <;> omega
                  refine Sl.sq ?_
                  refine Sl.rg ?_
                  refine Sl.asg rfl rfl ?_
                  refine Sl.en ?_
                  refine Sl.thenN ?_
                  refine Sl.rt ?_
                  refine Sl.blkR ?_
                  refine Sl.thenR ?_
                  refine Sl.thenR ?_
                  refine Sl.blkR ?_
                  refine Sl.thenR ?_
                  exact Sl.ret1 [] Tryz.results22 rfl ⟨by rw [gname_bad hc hbad], rfl⟩ Sl.perm
                · skip
                  have hall2 := hall
                  replace hall := ()
                  have hok : chOk c = true := by (simp_all [chOk]) <;> omega
                  replace hall := hall2
                  refine Sl.sk ?_
                  refine Sl.blkN ?_
                  refine Sl.thenN ?_
                  refine Sl.rg ?_
                  refine Sl.mv rfl rfl ?_
                  refine Sl.add rfl rfl rfl (Sl.fits_i64 (by omega)) ?_
                  refine Sl.asg rfl rfl ?_
                  refine Sl.en ?_
                  refine Sl.thenN ?_
                  exact Sl.again (m' := s.size - (j + 1)) ⟨j + 1, by omega, rfl, all_take hc hall hok, rfl, rfl⟩ (by omega) ⟨rfl, rfl, trivial⟩ Sl.perm
          · skip
            refine Sl.gskip rfl rfl rfl rfl rfl rfl ?_
            refine Sl.gskip rfl rfl rfl rfl rfl rfl ?_
            refine Sl.pk rfl rfl rfl ?_
            refine Sl.asg rfl rfl ?_
            refine Sl.en ?_
            refine Sl.thenN ?_
            refine Sl.sq ?_
            refine Sl.rg ?_
            refine Sl.mv rfl rfl ?_
            refine Sl.nt rfl rfl ?_
            refine Sl.mv rfl rfl ?_
            refine Sl.split (t := 37) rfl (fun h37 => ?_) (fun h37 => ?_)
            · skip
              refine Sl.gdo rfl rfl ?_
              refine Sl.mv rfl rfl ?_
              refine Sl.gdo rfl rfl ?_
              refine Sl.nt rfl rfl ?_
              refine Sl.pk rfl rfl rfl ?_
              refine Sl.mv rfl rfl ?_
              refine Sl.split (t := 41) rfl (fun h41 => ?_) (fun h41 => ?_)
              · skip
                refine Sl.gdo rfl rfl ?_
                refine Sl.mv rfl rfl ?_
                refine Sl.gdo rfl rfl ?_
                refine Sl.neqI rfl rfl rfl ?_
                refine Sl.pk rfl rfl rfl ?_
                refine Sl.en ?_
                refine Sl.thenN ?_
                refine Sl.cd rfl (fun h44 => ?_) (fun h44 => ?_)
                · skip
                  replace hall := ()
                  have hbad : chOk c = false := by (simp_all [chOk]) <;> omega
                  refine Sl.sq ?_
                  refine Sl.rg ?_
                  refine Sl.asg rfl rfl ?_
                  refine Sl.en ?_
                  refine Sl.thenN ?_
                  refine Sl.rt ?_
                  refine Sl.blkR ?_
                  refine Sl.thenR ?_
                  refine Sl.thenR ?_
                  refine Sl.blkR ?_
                  refine Sl.thenR ?_
                  exact Sl.ret1 [] Tryz.results22 rfl ⟨by rw [gname_bad hc hbad], rfl⟩ Sl.perm
                · skip
                  have hall2 := hall
                  replace hall := ()
                  have hok : chOk c = true := by (simp_all [chOk]) <;> omega
                  replace hall := hall2
                  refine Sl.sk ?_
                  refine Sl.blkN ?_
                  refine Sl.thenN ?_
                  refine Sl.rg ?_
                  refine Sl.mv rfl rfl ?_
                  refine Sl.add rfl rfl rfl (Sl.fits_i64 (by omega)) ?_
                  refine Sl.asg rfl rfl ?_
                  refine Sl.en ?_
                  refine Sl.thenN ?_
                  exact Sl.again (m' := s.size - (j + 1)) ⟨j + 1, by omega, rfl, all_take hc hall hok, rfl, rfl⟩ (by omega) ⟨rfl, rfl, trivial⟩ Sl.perm
              · skip
                refine Sl.gskip rfl rfl rfl rfl rfl rfl ?_
                refine Sl.gskip rfl rfl rfl rfl rfl rfl ?_
                refine Sl.pk rfl rfl rfl ?_
                refine Sl.en ?_
                refine Sl.thenN ?_
                refine Sl.cd rfl (fun h44 => ?_) (fun h44 => ?_)
                · skip
                  replace hall := ()
                  have hbad : chOk c = false := by (simp_all [chOk]) <;> omega
                  refine Sl.sq ?_
                  refine Sl.rg ?_
                  refine Sl.asg rfl rfl ?_
                  refine Sl.en ?_
                  refine Sl.thenN ?_
                  refine Sl.rt ?_
                  refine Sl.blkR ?_
                  refine Sl.thenR ?_
                  refine Sl.thenR ?_
                  refine Sl.blkR ?_
                  refine Sl.thenR ?_
                  exact Sl.ret1 [] Tryz.results22 rfl ⟨by rw [gname_bad hc hbad], rfl⟩ Sl.perm
                · skip
                  have hall2 := hall
                  replace hall := ()
                  have hok : chOk c = true := by (simp_all [chOk]) <;> omega
                  replace hall := hall2
                  refine Sl.sk ?_
                  refine Sl.blkN ?_
                  refine Sl.thenN ?_
                  refine Sl.rg ?_
                  refine Sl.mv rfl rfl ?_
                  refine Sl.add rfl rfl rfl (Sl.fits_i64 (by omega)) ?_
                  refine Sl.asg rfl rfl ?_
                  refine Sl.en ?_
                  refine Sl.thenN ?_
                  exact Sl.again (m' := s.size - (j + 1)) ⟨j + 1, by omega, rfl, all_take hc hall hok, rfl, rfl⟩ (by omega) ⟨rfl, rfl, trivial⟩ Sl.perm
            · skip
              refine Sl.gskip rfl rfl rfl rfl rfl rfl ?_
              refine Sl.gskip rfl rfl rfl rfl rfl rfl ?_
              refine Sl.pk rfl rfl rfl ?_
              refine Sl.mv rfl rfl ?_
              refine Sl.split (t := 41) rfl (fun h41 => ?_) (fun h41 => ?_)
              · skip
                refine Sl.gdo rfl rfl ?_
                refine Sl.mv rfl rfl ?_
                refine Sl.gdo rfl rfl ?_
                refine Sl.neqI rfl rfl rfl ?_
                refine Sl.pk rfl rfl rfl ?_
                refine Sl.en ?_
                refine Sl.thenN ?_
                refine Sl.cd rfl (fun h44 => ?_) (fun h44 => ?_)
                · skip
                  replace hall := ()
                  have hbad : chOk c = false := by (simp_all [chOk]) <;> omega
                  refine Sl.sq ?_
                  refine Sl.rg ?_
                  refine Sl.asg rfl rfl ?_
                  refine Sl.en ?_
                  refine Sl.thenN ?_
                  refine Sl.rt ?_
                  refine Sl.blkR ?_
                  refine Sl.thenR ?_
                  refine Sl.thenR ?_
                  refine Sl.blkR ?_
                  refine Sl.thenR ?_
                  exact Sl.ret1 [] Tryz.results22 rfl ⟨by rw [gname_bad hc hbad], rfl⟩ Sl.perm
                · skip
                  have hall2 := hall
                  replace hall := ()
                  have hok : chOk c = true := by (simp_all [chOk]) <;> omega
                  replace hall := hall2
                  refine Sl.sk ?_
                  refine Sl.blkN ?_
                  refine Sl.thenN ?_
                  refine Sl.rg ?_
                  refine Sl.mv rfl rfl ?_
                  refine Sl.add rfl rfl rfl (Sl.fits_i64 (by omega)) ?_
                  refine Sl.asg rfl rfl ?_
                  refine Sl.en ?_
                  refine Sl.thenN ?_
                  exact Sl.again (m' := s.size - (j + 1)) ⟨j + 1, by omega, rfl, all_take hc hall hok, rfl, rfl⟩ (by omega) ⟨rfl, rfl, trivial⟩ Sl.perm
              · skip
                refine Sl.gskip rfl rfl rfl rfl rfl rfl ?_
                refine Sl.gskip rfl rfl rfl rfl rfl rfl ?_
                refine Sl.pk rfl rfl rfl ?_
                refine Sl.en ?_
                refine Sl.thenN ?_
                refine Sl.cd rfl (fun h44 => ?_) (fun h44 => ?_)
                · skip
                  replace hall := ()
                  have hbad : chOk c = false := by (simp_all [chOk]) <;> omega
                  refine Sl.sq ?_
                  refine Sl.rg ?_
                  refine Sl.asg rfl rfl ?_
                  refine Sl.en ?_
                  refine Sl.thenN ?_
                  refine Sl.rt ?_
                  refine Sl.blkR ?_
                  refine Sl.thenR ?_
                  refine Sl.thenR ?_
                  refine Sl.blkR ?_
                  refine Sl.thenR ?_
                  exact Sl.ret1 [] Tryz.results22 rfl ⟨by rw [gname_bad hc hbad], rfl⟩ Sl.perm
                · skip
                  have hall2 := hall
                  replace hall := ()
                  have hok : chOk c = true := by (simp_all [chOk]) <;> omega
                  replace hall := hall2
                  refine Sl.sk ?_
                  refine Sl.blkN ?_
                  refine Sl.thenN ?_
                  refine Sl.rg ?_
                  refine Sl.mv rfl rfl ?_
                  refine Sl.add rfl rfl rfl (Sl.fits_i64 (by omega)) ?_
                  refine Sl.asg rfl rfl ?_
                  refine Sl.en ?_
                  refine Sl.thenN ?_
                  exact Sl.again (m' := s.size - (j + 1)) ⟨j + 1, by omega, rfl, all_take hc hall hok, rfl, rfl⟩ (by omega) ⟨rfl, rfl, trivial⟩ Sl.perm
      · skip
        refine Sl.xi ?_
        refine Sl.thenE ?_
        refine Sl.thenE ?_
        refine Sl.blkE ?_
        refine Sl.thenN ?_
        refine Sl.sq ?_
        refine Sl.rg ?_
        refine Sl.asg rfl rfl ?_
        refine Sl.en ?_
        refine Sl.thenN ?_
        refine Sl.rt ?_
        obtain rfl : j = s.size := by omega
        rw [List.take_of_length_le (by rw [← sz_list]; exact Nat.le_refl _)] at hall
        exact Sl.ret1 [] Tryz.results22 rfl ⟨by (rw [show gname s = true from by (simp only [gname, hall]; simp; omega)]), rfl⟩ Sl.perm

theorem get_at {s : Str} {j : Nat} {c : UInt8} (hc : s.data.toList[j]? = some c) : s.get! (j + 0) = c := by
  rw [Nat.add_zero]
  show s.data[j]! = c
  have h : s.data[j]? = some c := by simpa using hc
  rw [getElem!_def, h]
theorem dec_low {s : Str} {j : Nat} {c : UInt8} (hc : s.data.toList[j]? = some c) (h : c.toNat < 128) : Utf8.decode s j = (c.toNat, 1) := by
  unfold Utf8.decode
  simp only [get_at hc]
  rw [if_pos (by omega)]
theorem dec_high {s : Str} {j : Nat} {c : UInt8} (hc : s.data.toList[j]? = some c) (h : ¬ c.toNat < 128) : 128 ≤ (Utf8.decode s j).1 := by
  unfold Utf8.decode
  simp only [get_at hc]
  rw [if_neg (by omega)]
  repeat' split
  all_goals simp only [Utf8.runeError, Bool.and_eq_true, decide_eq_true_eq] at *
  all_goals omega
theorem chOk_low {c : UInt8} (h : chOk c = true) : c.toNat < 128 := by
  simp [chOk] at h; omega

theorem chOk_iff {c : UInt8} : chOk c = true ↔ ((97 ≤ c.toNat ∧ c.toNat ≤ 122) ∨ (48 ≤ c.toNat ∧ c.toNat ≤ 57)) ∨ c.toNat = 45 := by simp only [chOk, Bool.or_eq_true, Bool.and_eq_true, decide_eq_true_eq]
theorem chOk_no {c : UInt8} (h : ¬ (((97 ≤ c.toNat ∧ c.toNat ≤ 122) ∨ (48 ≤ c.toNat ∧ c.toNat ≤ 57)) ∨ c.toNat = 45)) : chOk c = false := by
  rw [← chOk_iff] at h; simpa using h
theorem rune_no {s : Str} {j r : Nat} {c : UInt8} (hc : s.data.toList[j]? = some c) (hr : r = (Utf8.decode s j).1) (h : ¬ (((97 ≤ r ∧ r ≤ 122) ∨ (48 ≤ r ∧ r ≤ 57)) ∨ r = 45)) : chOk c = false := by
  apply chOk_no
  rcases Nat.lt_or_ge c.toNat 128 with q | q
  · rw [dec_low hc q] at hr; subst hr; exact h
  · omega
theorem rune_ok {s : Str} {j r : Nat} {c : UInt8} (hc : s.data.toList[j]? = some c) (hr : r = (Utf8.decode s j).1) (h : (((97 ≤ r ∧ r ≤ 122) ∨ (48 ≤ r ∧ r ≤ 57)) ∨ r = 45)) : chOk c = true ∧ (Utf8.decode s j).2 = 1 := by
  rcases Nat.lt_or_ge c.toNat 128 with q | q
  · rw [dec_low hc q] at hr ⊢; subst hr; exact ⟨chOk_iff.2 h, rfl⟩
  · have := dec_high hc (by omega); omega

theorem good_is_r (s : Str) : Fnc Tryz.prog 26 [.string s] [] (fun v L' => v = .bool (gname s) ∧ L' = []) := by
  refine Sl.fn_intro Tryz.func26 rfl Tryz.ntmps26 rfl (fun g F => ?_)
  simp only [Sl.slotsOf, List.cons_append, List.nil_append, Nat.reduceAdd]
  refine Sl.sq ?_
  refine Sl.rg ?_
  refine Sl.asg rfl rfl ?_
  refine Sl.en ?_
  refine Sl.thenN ?_
  refine Sl.sq ?_
  refine Sl.sq ?_
  refine Sl.rg ?_
  refine Sl.mv rfl rfl ?_
  refine Sl.rgs rfl rfl (fun it6 => ?_)
  refine Sl.en ?_
  refine Sl.thenN ?_
  refine Sl.bl ?_
  refine Sl.lp0 (fun m s' L => ∃ j : Nat, j ≤ s.size ∧ m = s.size - j ∧ (s.data.toList.take j).all chOk = true ∧ s' = [(6, .pointer (some ⟨it6, 0, none⟩)), (0, .string s)] ∧ L = [pt it6 (.stringIter s j), F])
      s.size _ _ ⟨0, Nat.zero_le _, rfl, rfl, rfl, rfl⟩ ⟨rfl, rfl, trivial⟩ Sl.perm ?_
  rintro m s' L ⟨j, hj, rfl, hall, rfl, rfl⟩
  refine Sl.sq ?_
  refine Sl.rg ?_
  refine Sl.nxs (p := j) (str := s) rfl rfl (fun hN7 => ?_) (fun hN7 => ?_)
  · skip
    refine Sl.xt rfl rfl rfl ?_
    refine Sl.en ?_
    refine Sl.thenN ?_
    refine Sl.sq ?_
    refine Sl.cdF rfl ?_
    refine Sl.xi ?_
    refine Sl.thenE ?_
    refine Sl.thenE ?_
    refine Sl.blkE ?_
    refine Sl.thenN ?_
    refine Sl.sq ?_
    refine Sl.rg ?_
    refine Sl.mv rfl rfl ?_
    refine Sl.lnS rfl rfl ?_
    refine Sl.gtr rfl rfl rfl ?_
    refine Sl.mv rfl rfl ?_
    refine Sl.split (t := 31) rfl (fun h31 => ?_) (fun h31 => ?_)
    · skip
      refine Sl.gdo rfl rfl ?_
      refine Sl.mv rfl rfl ?_
      refine Sl.gdo rfl rfl ?_
      refine Sl.lnS rfl rfl ?_
      refine Sl.gdo rfl rfl ?_
      refine Sl.leq rfl rfl rfl ?_
      refine Sl.pk rfl rfl rfl ?_
      refine Sl.asg rfl rfl ?_
      refine Sl.en ?_
      refine Sl.thenN ?_
      refine Sl.rt ?_
      have hall2 : s.data.toList.all chOk = true := by (rw [List.take_of_length_le (by rw [← sz_list]; exact hN7)] at hall; exact hall)
      have h31 : (0 : Int) < s.size := of_decide_eq_true h31
      exact Sl.ret1 [] Tryz.results26 rfl ⟨by simp [gname, hall2, show ((s.size : Int) ≤ 16) ↔ (s.size ≤ 16) from by omega, show 0 < s.size from by omega], rfl⟩ Sl.perm
    · skip
      refine Sl.gskip rfl rfl rfl rfl rfl rfl ?_
      refine Sl.gskip rfl rfl rfl rfl rfl rfl ?_
      refine Sl.gskip rfl rfl rfl rfl rfl rfl ?_
      refine Sl.pk rfl rfl rfl ?_
      refine Sl.asg rfl rfl ?_
      refine Sl.en ?_
      refine Sl.thenN ?_
      refine Sl.rt ?_
      have h31 := of_decide_eq_false h31
      exact Sl.ret1 [] Tryz.results26 rfl ⟨by (simp [gname, show ¬ 0 < s.size from by omega]), rfl⟩ Sl.perm
  · skip
    refine Sl.xt rfl rfl rfl ?_
    refine Sl.en ?_
    refine Sl.thenN ?_
    refine Sl.sq ?_
    refine Sl.cdT rfl ?_
    refine Sl.sk ?_
    refine Sl.thenN ?_
    refine Sl.bl ?_
    refine Sl.sq ?_
    obtain ⟨c, hc⟩ : ∃ c, s.data.toList[j]? = some c := getSome (bs := s.data.toList) (by rw [← sz_list]; omega)
    obtain ⟨r, hr⟩ : ∃ r, r = (Utf8.decode s j).1 := ⟨_, rfl⟩
    rw [← hr]
    refine Sl.rg ?_
    refine Sl.xt rfl rfl rfl ?_
    refine Sl.asg rfl rfl ?_
    refine Sl.en ?_
    refine Sl.thenN ?_
    refine Sl.sq ?_
    refine Sl.rg ?_
    refine Sl.mv rfl rfl ?_
    refine Sl.lss rfl rfl rfl ?_
    refine Sl.mv rfl rfl ?_
    refine Sl.split (t := 12) rfl (fun h12 => ?_) (fun h12 => ?_)
    · skip
      have ft12 : (r : Int) < 97 := of_decide_eq_true h12
      refine Sl.gskip rfl rfl rfl rfl rfl rfl ?_
      refine Sl.gskip rfl rfl rfl rfl rfl rfl ?_
      refine Sl.pk rfl rfl rfl ?_
      refine Sl.mv rfl rfl ?_
      refine Sl.split (t := 16) rfl (fun h16 => ?_) (fun h16 => ?_)
      · skip
        refine Sl.gdo rfl rfl ?_
        refine Sl.mv rfl rfl ?_
        refine Sl.gdo rfl rfl ?_
        refine Sl.lss rfl rfl rfl ?_
        refine Sl.gdo rfl rfl ?_
        refine Sl.mv rfl rfl ?_
        refine Sl.split (t := 19) rfl (fun h19 => ?_) (fun h19 => ?_)
        · skip
          have ft19 : (r : Int) < 48 := of_decide_eq_true h19
          refine Sl.gskip rfl rfl rfl rfl rfl rfl ?_
          refine Sl.gskip rfl rfl rfl rfl rfl rfl ?_
          refine Sl.gdo rfl rfl ?_
          refine Sl.pk rfl rfl rfl ?_
          refine Sl.pk rfl rfl rfl ?_
          refine Sl.mv rfl rfl ?_
          refine Sl.split (t := 24) rfl (fun h24 => ?_) (fun h24 => ?_)
          · skip
            refine Sl.gdo rfl rfl ?_
            refine Sl.mv rfl rfl ?_
            refine Sl.gdo rfl rfl ?_
            refine Sl.neqI rfl rfl rfl ?_
            refine Sl.pk rfl rfl rfl ?_
            refine Sl.en ?_
            refine Sl.thenN ?_
            refine Sl.cdP rfl (fun h27 => ?_) (fun h27 => ?_)
            · skip
              have hbad : chOk c = false := rune_no hc hr (by omega)
              refine Sl.sq ?_
              refine Sl.rg ?_
              refine Sl.asg rfl rfl ?_
              refine Sl.en ?_
              refine Sl.thenN ?_
              refine Sl.rt ?_
              refine Sl.blkR ?_
              refine Sl.thenR ?_
              refine Sl.blkR ?_
              refine Sl.thenR ?_
              exact Sl.ret1 [] Tryz.results26 rfl ⟨by rw [gname_bad hc hbad], rfl⟩ Sl.perm
            · skip
              have hok := rune_ok hc hr (by omega)
              refine Sl.sk ?_
              refine Sl.blkN ?_
              refine Sl.thenN ?_
              exact Sl.again (m' := s.size - (j + 1)) ⟨j + 1, by omega, rfl, all_take hc hall hok.1, rfl, rfl⟩ (by omega) ⟨rfl, rfl, trivial⟩ (by rw [hok.2]; exact Sl.perm)
          · skip
            cases h24 --closed
        · skip
          have ft19 : ¬ ((r : Int) < 48) := of_decide_eq_false h19
          refine Sl.gdo rfl rfl ?_
          refine Sl.mv rfl rfl ?_
          refine Sl.gdo rfl rfl ?_
          refine Sl.gtr rfl rfl rfl ?_
          refine Sl.gdo rfl rfl ?_
          refine Sl.pk rfl rfl rfl ?_
          refine Sl.pk rfl rfl rfl ?_
          refine Sl.mv rfl rfl ?_
          refine Sl.split (t := 24) rfl (fun h24 => ?_) (fun h24 => ?_)
          · skip
            have ft24 : 57 < (r : Int) := of_decide_eq_true h24
            refine Sl.gdo rfl rfl ?_
            refine Sl.mv rfl rfl ?_
            refine Sl.gdo rfl rfl ?_
            refine Sl.neqI rfl rfl rfl ?_
            refine Sl.pk rfl rfl rfl ?_
            refine Sl.en ?_
            refine Sl.thenN ?_
            refine Sl.cdP rfl (fun h27 => ?_) (fun h27 => ?_)
            · skip
              have hbad : chOk c = false := rune_no hc hr (by omega)
              refine Sl.sq ?_
              refine Sl.rg ?_
              refine Sl.asg rfl rfl ?_
              refine Sl.en ?_
              refine Sl.thenN ?_
              refine Sl.rt ?_
              refine Sl.blkR ?_
              refine Sl.thenR ?_
              refine Sl.blkR ?_
              refine Sl.thenR ?_
              exact Sl.ret1 [] Tryz.results26 rfl ⟨by rw [gname_bad hc hbad], rfl⟩ Sl.perm
            · skip
              have hok := rune_ok hc hr (by omega)
              refine Sl.sk ?_
              refine Sl.blkN ?_
              refine Sl.thenN ?_
              exact Sl.again (m' := s.size - (j + 1)) ⟨j + 1, by omega, rfl, all_take hc hall hok.1, rfl, rfl⟩ (by omega) ⟨rfl, rfl, trivial⟩ (by rw [hok.2]; exact Sl.perm)
          · skip
            have ft24 : ¬ (57 < (r : Int)) := of_decide_eq_false h24
            have hok := rune_ok hc hr (by omega)
            refine Sl.gskip rfl rfl rfl rfl rfl rfl ?_
            refine Sl.gskip rfl rfl rfl rfl rfl rfl ?_
            refine Sl.pk rfl rfl rfl ?_
            refine Sl.en ?_
            refine Sl.thenN ?_
            refine Sl.cdF rfl ?_
            refine Sl.sk ?_
            refine Sl.blkN ?_
            refine Sl.thenN ?_
            exact Sl.again (m' := s.size - (j + 1)) ⟨j + 1, by omega, rfl, all_take hc hall hok.1, rfl, rfl⟩ (by omega) ⟨rfl, rfl, trivial⟩ (by rw [hok.2]; exact Sl.perm)
      · skip
        cases h16 --closed
    · skip
      have ft12 : ¬ ((r : Int) < 97) := of_decide_eq_false h12
      refine Sl.gdo rfl rfl ?_
      refine Sl.mv rfl rfl ?_
      refine Sl.gdo rfl rfl ?_
      refine Sl.gtr rfl rfl rfl ?_
      refine Sl.pk rfl rfl rfl ?_
      refine Sl.mv rfl rfl ?_
      refine Sl.split (t := 16) rfl (fun h16 => ?_) (fun h16 => ?_)
      · skip
        have ft16 : 122 < (r : Int) := of_decide_eq_true h16
        refine Sl.gdo rfl rfl ?_
        refine Sl.mv rfl rfl ?_
        refine Sl.gdo rfl rfl ?_
        refine Sl.lss rfl rfl rfl ?_
        refine Sl.gdo rfl rfl ?_
        refine Sl.mv rfl rfl ?_
        refine Sl.split (t := 19) rfl (fun h19 => ?_) (fun h19 => ?_)
        · skip
          have ft19 : (r : Int) < 48 := of_decide_eq_true h19
          refine Sl.gskip rfl rfl rfl rfl rfl rfl ?_
          refine Sl.gskip rfl rfl rfl rfl rfl rfl ?_
          refine Sl.gdo rfl rfl ?_
          refine Sl.pk rfl rfl rfl ?_
          refine Sl.pk rfl rfl rfl ?_
          refine Sl.mv rfl rfl ?_
          refine Sl.split (t := 24) rfl (fun h24 => ?_) (fun h24 => ?_)
          · skip
            refine Sl.gdo rfl rfl ?_
            refine Sl.mv rfl rfl ?_
            refine Sl.gdo rfl rfl ?_
            refine Sl.neqI rfl rfl rfl ?_
            refine Sl.pk rfl rfl rfl ?_
            refine Sl.en ?_
            refine Sl.thenN ?_
            refine Sl.cdP rfl (fun h27 => ?_) (fun h27 => ?_)
            · skip
              have hbad : chOk c = false := rune_no hc hr (by omega)
              refine Sl.sq ?_
              refine Sl.rg ?_
              refine Sl.asg rfl rfl ?_
              refine Sl.en ?_
              refine Sl.thenN ?_
              refine Sl.rt ?_
              refine Sl.blkR ?_
              refine Sl.thenR ?_
              refine Sl.blkR ?_
              refine Sl.thenR ?_
              exact Sl.ret1 [] Tryz.results26 rfl ⟨by rw [gname_bad hc hbad], rfl⟩ Sl.perm
            · skip
              have hok := rune_ok hc hr (by omega)
              refine Sl.sk ?_
              refine Sl.blkN ?_
              refine Sl.thenN ?_
              exact Sl.again (m' := s.size - (j + 1)) ⟨j + 1, by omega, rfl, all_take hc hall hok.1, rfl, rfl⟩ (by omega) ⟨rfl, rfl, trivial⟩ (by rw [hok.2]; exact Sl.perm)
          · skip
            cases h24 --closed
        · skip
          have ft19 : ¬ ((r : Int) < 48) := of_decide_eq_false h19
          refine Sl.gdo rfl rfl ?_
          refine Sl.mv rfl rfl ?_
          refine Sl.gdo rfl rfl ?_
          refine Sl.gtr rfl rfl rfl ?_
          refine Sl.gdo rfl rfl ?_
          refine Sl.pk rfl rfl rfl ?_
          refine Sl.pk rfl rfl rfl ?_
          refine Sl.mv rfl rfl ?_
          refine Sl.split (t := 24) rfl (fun h24 => ?_) (fun h24 => ?_)
          · skip
            have ft24 : 57 < (r : Int) := of_decide_eq_true h24
            refine Sl.gdo rfl rfl ?_
            refine Sl.mv rfl rfl ?_
            refine Sl.gdo rfl rfl ?_
            refine Sl.neqI rfl rfl rfl ?_
            refine Sl.pk rfl rfl rfl ?_
            refine Sl.en ?_
            refine Sl.thenN ?_
            refine Sl.cdP rfl (fun h27 => ?_) (fun h27 => ?_)
            · skip
              have hbad : chOk c = false := rune_no hc hr (by omega)
              refine Sl.sq ?_
              refine Sl.rg ?_
              refine Sl.asg rfl rfl ?_
              refine Sl.en ?_
              refine Sl.thenN ?_
              refine Sl.rt ?_
              refine Sl.blkR ?_
              refine Sl.thenR ?_
              refine Sl.blkR ?_
              refine Sl.thenR ?_
              exact Sl.ret1 [] Tryz.results26 rfl ⟨by rw [gname_bad hc hbad], rfl⟩ Sl.perm
            · skip
              have hok := rune_ok hc hr (by omega)
              refine Sl.sk ?_
              refine Sl.blkN ?_
              refine Sl.thenN ?_
              exact Sl.again (m' := s.size - (j + 1)) ⟨j + 1, by omega, rfl, all_take hc hall hok.1, rfl, rfl⟩ (by omega) ⟨rfl, rfl, trivial⟩ (by rw [hok.2]; exact Sl.perm)
          · skip
            have ft24 : ¬ (57 < (r : Int)) := of_decide_eq_false h24
            have hok := rune_ok hc hr (by omega)
            refine Sl.gskip rfl rfl rfl rfl rfl rfl ?_
            refine Sl.gskip rfl rfl rfl rfl rfl rfl ?_
            refine Sl.pk rfl rfl rfl ?_
            refine Sl.en ?_
            refine Sl.thenN ?_
            refine Sl.cdF rfl ?_
            refine Sl.sk ?_
            refine Sl.blkN ?_
            refine Sl.thenN ?_
            exact Sl.again (m' := s.size - (j + 1)) ⟨j + 1, by omega, rfl, all_take hc hall hok.1, rfl, rfl⟩ (by omega) ⟨rfl, rfl, trivial⟩ (by rw [hok.2]; exact Sl.perm)
      · skip
        have ft16 : ¬ (122 < (r : Int)) := of_decide_eq_false h16
        refine Sl.gskip rfl rfl rfl rfl rfl rfl ?_
        refine Sl.gskip rfl rfl rfl rfl rfl rfl ?_
        refine Sl.gskip rfl rfl rfl rfl rfl rfl ?_
        refine Sl.gskipU rfl rfl rfl rfl rfl ?_
        refine Sl.gskipU rfl rfl rfl rfl rfl ?_
        refine Sl.gskip rfl rfl rfl rfl rfl rfl ?_
        refine Sl.pk rfl rfl rfl ?_
        refine Sl.mv rfl rfl ?_
        refine Sl.split (t := 24) rfl (fun h24 => ?_) (fun h24 => ?_)
        · skip
          cases h24 --closed
        · skip
          have hok := rune_ok hc hr (by omega)
          refine Sl.gskip rfl rfl rfl rfl rfl rfl ?_
          refine Sl.gskip rfl rfl rfl rfl rfl rfl ?_
          refine Sl.pk rfl rfl rfl ?_
          refine Sl.en ?_
          refine Sl.thenN ?_
          refine Sl.cdF rfl ?_
          refine Sl.sk ?_
          refine Sl.blkN ?_
          refine Sl.thenN ?_
          exact Sl.again (m' := s.size - (j + 1)) ⟨j + 1, by omega, rfl, all_take hc hall hok.1, rfl, rfl⟩ (by omega) ⟨rfl, rfl, trivial⟩ (by rw [hok.2]; exact Sl.perm)
end Go.Proofs.YtdcjlbfmdkgcpaaGreatDoor
