/- Identifiers: what the functions of package ident compute. -/
import Derived.Test.YtdcjlbfmdkgcpaaGreatDoorProg
import Derived.Test.YtdcjlbfmdkgcpaaGreatDoorOp
set_option linter.unusedSimpArgs false
set_option linter.unusedVariables false
namespace Go.Proofs.YtdcjlbfmdkgcpaaGreatDoor
open Go.Sl
instance tyIdAg24 : Sl.Ag Tryz.prog 24 33 := ⟨Tryz.isAgg24, Tryz.sizeOf24⟩
instance tyIdAr22 : Sl.ArrT Tryz.prog 22 32 5 1 := ⟨Tryz.runUnderlying22, Tryz.sizeOf5⟩
instance tyIdBy5 : Sl.ByT Tryz.prog 5 1 := ⟨fun w => ⟨_, Tryz.typeInfo5 w, rfl⟩⟩
instance tyIdBt34 : Sl.BytT Tryz.prog 34 5 := ⟨Tryz.runUnderlying34, Tryz.runUnderlying5⟩
instance tyIdCa39 : Sl.Ca Tryz.prog 39 := ⟨Tryz.call39⟩
instance tyIdCa48 : Sl.Ca Tryz.prog 48 := ⟨Tryz.call48⟩
instance tyIdFa24_0 : Sl.Fa Tryz.prog 24 0 0 := Sl.Fa.mk' Tryz.runUnderlying24 rfl rfl rfl Tryz.sizeOf5 (by decide)
instance tyIdFa24_1 : Sl.Fa Tryz.prog 24 1 1 := Sl.Fa.mk' Tryz.runUnderlying24 rfl rfl rfl Tryz.sizeOf22 (by decide)
instance tyIdSc5 : Sl.Sc Tryz.prog 5 := ⟨Tryz.isAgg5, Tryz.sizeOf5⟩
instance tyIdSl34 : Sl.SlT Tryz.prog 34 5 1 := ⟨Tryz.runUnderlying34, Tryz.sizeOf5⟩
instance tyIdSt9 : Sl.StrT Tryz.prog 9 := ⟨Tryz.runUnderlying9⟩
instance tyIdZv5 : Sl.Zv Tryz.prog 5 (.int .u8 0) := ⟨Tryz.zeroValue5⟩
/-- How many bytes a kind's sums have. -/
def szOf (k : Nat) : Nat := if k = 1 then 8 else if k = 2 then 32 else 0
theorem szOf_le (k : Nat) : szOf k ≤ 32 := by unfold szOf; split <;> (try split) <;> omega
/-- A name's cells: its kind and its sum. -/
def idc (k : UInt8) (bs : List UInt8) : List Value := .int .u8 (k.toNat : Nat) :: bs.map fun c => .int .u8 (c.toNat : Nat)

theorem size_is (k : Nat) : Fnc Tryz.prog 48 [.int .u8 (k : Nat)] [] (fun v L' => v = .int .i64 (szOf k : Nat) ∧ L' = []) := by
  refine Sl.fn_intro Tryz.func48 rfl Tryz.ntmps48 rfl (fun g F => ?_)
  simp only [Sl.slotsOf, List.cons_append, List.nil_append, Nat.reduceAdd]
  refine Sl.sq ?_
  refine Sl.rg ?_
  refine Sl.asg rfl rfl ?_
  refine Sl.en ?_
  refine Sl.thenN ?_
  refine Sl.sq ?_
  refine Sl.sq ?_
  refine Sl.rg ?_
  refine Sl.mv rfl rfl ?_
  refine Sl.en ?_
  refine Sl.thenN ?_
  refine Sl.bl ?_
  refine Sl.sq ?_
  refine Sl.rg ?_
  refine Sl.eqlI rfl rfl rfl ?_
  refine Sl.asg rfl rfl ?_
  refine Sl.en ?_
  refine Sl.thenN ?_
  refine Sl.cdP rfl (fun h4 => ?_) (fun h4 => ?_)
  · skip
    refine Sl.sq ?_
    refine Sl.rg ?_
    refine Sl.asg rfl rfl ?_
    refine Sl.en ?_
    refine Sl.thenN ?_
    refine Sl.rt ?_
    refine Sl.blkR ?_
    refine Sl.thenR ?_
    exact Sl.ret1 [] Tryz.results48 rfl ⟨by (rw [show szOf k = 8 from by (unfold szOf; split <;> (try split) <;> omega)]; rfl), rfl⟩ Sl.perm
  · skip
    refine Sl.sq ?_
    refine Sl.rg ?_
    refine Sl.eqlI rfl rfl rfl ?_
    refine Sl.asg rfl rfl ?_
    refine Sl.en ?_
    refine Sl.thenN ?_
    refine Sl.cdP rfl (fun h6 => ?_) (fun h6 => ?_)
    · skip
      refine Sl.sq ?_
      refine Sl.rg ?_
      refine Sl.asg rfl rfl ?_
      refine Sl.en ?_
      refine Sl.thenN ?_
      refine Sl.rt ?_
      refine Sl.blkR ?_
      refine Sl.thenR ?_
      exact Sl.ret1 [] Tryz.results48 rfl ⟨by (rw [show szOf k = 32 from by (unfold szOf; split <;> (try split) <;> omega)]; rfl), rfl⟩ Sl.perm
    · skip
      refine Sl.sk ?_
      refine Sl.blkN ?_
      refine Sl.thenN ?_
      refine Sl.sq ?_
      refine Sl.rg ?_
      refine Sl.asg rfl rfl ?_
      refine Sl.en ?_
      refine Sl.thenN ?_
      refine Sl.rt ?_
      exact Sl.ret1 [] Tryz.results48 rfl ⟨by (rw [show szOf k = 0 from by (unfold szOf; split <;> (try split) <;> omega)]; rfl), rfl⟩ Sl.perm

def goodId (k : UInt8) (bs : List UInt8) : Bool := decide (∀ i, i < 32 - szOf k.toNat → bs[szOf k.toNat + i]? = some 0) && decide (0 < szOf k.toNat)
theorem nth_idc {k : UInt8} {bs : List UInt8} {i o : Nat} {c : UInt8} (ho : o = i + 1) (h : bs[i]? = some c) : nth (idc k bs) o = some (.int .u8 (c.toNat : Nat)) := by
  subst ho; simp [nth_eq, idc, h]
theorem u8_zero {c : UInt8} (h : ((c.toNat : Nat) : Int) = 0) : c = 0 := by
  have : c.toNat = 0 := by omega
  exact UInt8.toNat_inj.1 (by simpa using this)

theorem good_is (k : UInt8) (bs : List UInt8) (hb : bs.length = 32) : Fnc Tryz.prog 39 [.agg (idc k bs).toArray] [] (fun v L' => v = .bool (goodId k bs) ∧ L' = []) := by
  refine Sl.fn_intro Tryz.func39 rfl Tryz.ntmps39 rfl (fun g F => ?_)
  simp only [Sl.slotsOf, List.cons_append, List.nil_append, Nat.reduceAdd]
  refine Sl.sq ?_
  refine Sl.rg ?_
  refine Sl.bxa rfl rfl (fun b1 => ?_)
  refine Sl.asg rfl rfl ?_
  refine Sl.en ?_
  refine Sl.thenN ?_
  refine Sl.sq ?_
  refine Sl.rg ?_
  refine Sl.fa rfl rfl ?_
  refine Sl.ld rfl rfl rfl ?_
  refine Sl.cl (size_is k.toNat) rfl rfl ?_
  rintro _ _ ⟨rfl, rfl⟩
  simp only [List.nil_append]
  have hsz := szOf_le k.toNat
  refine Sl.asg rfl rfl ?_
  refine Sl.en ?_
  refine Sl.thenN ?_
  refine Sl.sq ?_
  refine Sl.sq ?_
  refine Sl.rg ?_
  refine Sl.fa rfl rfl ?_
  refine Sl.mv rfl rfl ?_
  refine Sl.slAl rfl rfl rfl hsz ?_
  refine Sl.lnL rfl rfl ?_
  refine Sl.mv rfl rfl ?_
  refine Sl.en ?_
  refine Sl.thenN ?_
  refine Sl.bl ?_
  refine Sl.lp0 (fun m s L => ∃ j : Nat, j ≤ 32 - szOf k.toNat ∧ m = 32 - szOf k.toNat - j ∧ (∀ i, i < j → bs[szOf k.toNat + i]? = some 0) ∧
      s = [(13, .int .i64 (j : Nat)), (12, .int .i64 ((32 - szOf k.toNat : Nat))), (11, .slice (some ⟨b1, if 32 = szOf k.toNat then 0 + 1 else 0 + 1 + szOf k.toNat * 1, none⟩) (32 - szOf k.toNat) (32 - szOf k.toNat)), (3, .int .i64 (szOf k.toNat : Nat))] ∧ L = [blk b1 24 (idc k bs), F])
      (32 - szOf k.toNat) _ _ ⟨0, Nat.zero_le _, rfl, by intro i hi; omega, rfl, rfl⟩ ⟨rfl, rfl, rfl, rfl, trivial⟩ Sl.perm ?_
  rintro m s L ⟨j, hj, rfl, hz, rfl, rfl⟩
  refine Sl.sq ?_
  refine Sl.rg ?_
  refine Sl.lss rfl rfl rfl ?_
  refine Sl.en ?_
  refine Sl.thenN ?_
  refine Sl.sq ?_
  refine Sl.cdP rfl (fun h14 => ?_) (fun h14 => ?_)
  · skip
    refine Sl.sk ?_
    refine Sl.thenN ?_
    refine Sl.sq ?_
    refine Sl.bl ?_
    refine Sl.sq ?_
    obtain ⟨c, hc⟩ : ∃ c, bs[szOf k.toNat + j]? = some c := ⟨bs[szOf k.toNat + j]'(by omega), by simp⟩
    have hne : ¬ 32 = szOf k.toNat := by omega
    simp only [if_neg hne]
    refine Sl.rg ?_
    refine Sl.ia rfl rfl rfl (by omega) ?_
    refine Sl.ld rfl rfl (nth_idc (i := szOf k.toNat + j) (by simp; omega) hc) ?_
    refine Sl.asg rfl rfl ?_
    refine Sl.en ?_
    refine Sl.thenN ?_
    refine Sl.sq ?_
    refine Sl.rg ?_
    refine Sl.mv rfl rfl ?_
    refine Sl.neqI rfl rfl rfl ?_
    refine Sl.en ?_
    refine Sl.thenN ?_
    refine Sl.cdP rfl (fun h18 => ?_) (fun h18 => ?_)
    · skip
      refine Sl.sq ?_
      refine Sl.rg ?_
      refine Sl.asg rfl rfl ?_
      refine Sl.en ?_
      refine Sl.thenN ?_
      refine Sl.rt ?_
      refine Sl.blkR ?_
      refine Sl.thenR ?_
      refine Sl.thenR ?_
      refine Sl.blkR ?_
      refine Sl.thenR ?_
      exact Sl.ret1 [] Tryz.results39 rfl ⟨by rw [show goodId k bs = false from by (unfold goodId; simp; intro q; exact absurd (q j (by omega)) (by rw [hc]; intro e; simp at e; subst e; simp at h18))], rfl⟩ Sl.perm
    · skip
      refine Sl.sk ?_
      refine Sl.blkN ?_
      refine Sl.thenN ?_
      refine Sl.rg ?_
      refine Sl.add rfl rfl rfl (Sl.fits_i64 (by omega)) ?_
      refine Sl.mv rfl rfl ?_
      refine Sl.en ?_
      refine Sl.thenN ?_
      exact Sl.again (m' := 32 - szOf k.toNat - (j + 1)) ⟨j + 1, by omega, rfl, fun i hi => by (rcases Nat.lt_succ_iff_lt_or_eq.1 hi with q | rfl; exact hz i q; rw [hc, u8_zero (c := c) (by simpa using h18)]), rfl, rfl⟩ (by omega) ⟨rfl, rfl, rfl, rfl, trivial⟩ Sl.perm
  · skip
    refine Sl.xi ?_
    refine Sl.thenE ?_
    refine Sl.thenE ?_
    refine Sl.blkE ?_
    refine Sl.thenN ?_
    refine Sl.sq ?_
    refine Sl.rg ?_
    refine Sl.mv rfl rfl ?_
    refine Sl.gtr rfl rfl rfl ?_
    refine Sl.asg rfl rfl ?_
    refine Sl.en ?_
    refine Sl.thenN ?_
    refine Sl.rt ?_
    exact Sl.ret1 [] Tryz.results39 rfl ⟨by (congr 1; unfold goodId; rw [decide_eq_true (show ∀ i, i < 32 - szOf k.toNat → bs[szOf k.toNat + i]? = some 0 from fun i hi => hz i (by omega))]; simp), rfl⟩ Sl.perm

/-- A name's text. -/
def txt (k : UInt8) (bs : List UInt8) : Str := if goodId k bs then ⟨(k :: bs.take (szOf k.toNat)).toArray⟩ else ⟨#[]⟩
theorem append_mk (a b : List UInt8) : (⟨a.toArray⟩ : Str) ++ ⟨b.toArray⟩ = ⟨(a ++ b).toArray⟩ := by
  apply ByteArray.ext; simp
theorem size_mk (a : List UInt8) : ByteArray.size ⟨a.toArray⟩ = a.length := by simp [ByteArray.size]
theorem blk_is {α : Type} {enc : α → List Value} {b T o len sz : Nat} {cs : List Value} {xs : List α} (hl : len = xs.length) (hs : ∀ x ∈ xs, (enc x).length = sz) (h : ∀ i, i < (flat enc xs).length → cs[o + i]? = (flat enc xs)[i]?) : SlIs (blk b T cs) enc sz (some ⟨b, o, none⟩) len xs :=
  ⟨hl, hs, fun hh q => .inr ⟨b, o, rfl, _, _, _, q, fun i hi => by rw [← h i hi]; simp⟩⟩
theorem idc_is {b T : Nat} {k : UInt8} {bs : List UInt8} {m : Nat} (hm : m ≤ bs.length) : SlIs (blk b T (idc k bs)) encB 1 (some ⟨b, 1, none⟩) m (bs.take m) :=
  blk_is (by simp; omega) (fun _ _ => rfl) (fun i hi => by
    rw [flat_encB] at hi ⊢
    simp at hi
    have hi' : i < m := by omega
    rw [Nat.add_comm]; simp [idc, List.getElem?_take, hi'])

theorem text_is (k : UInt8) (bs : List UInt8) (hb : bs.length = 32) : Fnc Tryz.prog 33 [.agg (idc k bs).toArray] [] (fun v L' => v = .string (txt k bs) ∧ L' = []) := by
  refine Sl.fn_intro Tryz.func33 rfl Tryz.ntmps33 rfl (fun g F => ?_)
  simp only [Sl.slotsOf, List.cons_append, List.nil_append, Nat.reduceAdd]
  refine Sl.sq ?_
  refine Sl.rg ?_
  refine Sl.bxa rfl rfl (fun b1 => ?_)
  refine Sl.asg rfl rfl ?_
  refine Sl.en ?_
  refine Sl.thenN ?_
  refine Sl.sq ?_
  refine Sl.sq ?_
  refine Sl.rg ?_
  refine Sl.lda rfl rfl (Sl.sub_all (by simp [idc, hb])) ?_
  refine Sl.cl (good_is k bs hb) rfl rfl ?_
  rintro _ _ ⟨rfl, rfl⟩
  simp only [List.nil_append]
  refine Sl.nt rfl rfl ?_
  refine Sl.en ?_
  refine Sl.thenN ?_
  refine Sl.cd rfl (fun h5 => ?_) (fun h5 => ?_)
  · skip
    refine Sl.sq ?_
    refine Sl.rg ?_
    refine Sl.asg rfl rfl ?_
    refine Sl.en ?_
    refine Sl.thenN ?_
    refine Sl.rt ?_
    refine Sl.thenR ?_
    exact Sl.ret1 [] Tryz.results33 rfl ⟨by (rw [show txt k bs = ⟨#[]⟩ from by simp at h5; simp [txt, h5]]), rfl⟩ Sl.perm
  · skip
    refine Sl.sk ?_
    refine Sl.thenN ?_
    refine Sl.sq ?_
    have hsz := szOf_le k.toNat
    refine Sl.rgT ([blk b1 24 (idc k bs)]) [0, 1, 2, 3, 4, 5, 6, 7, 8, 9, 10] [0, 1, 4, 5, 6, 8, 9, 10, 11] (by kernel_rfl) (by kernel_rfl) (by kernel_rfl) ?_
    refine Sl.tk 0 (lst' := [true, false, false, false, false, false, false, false, false, false, false, false]) rfl (Sl.faY rfl) rfl rfl rfl rfl (by kernel_rfl) (by kernel_rfl) Sl.perm rfl ?_
    refine Sl.tk 1 (lst' := [true, true, false, false, false, false, false, false, false, false, false, false]) rfl (Sl.ldY rfl rfl) rfl rfl rfl rfl (by kernel_rfl) (by kernel_rfl) Sl.perm rfl ?_
    refine Sl.tk 4 (lst' := [true, true, false, false, true, false, false, false, false, false, false, false]) rfl (Sl.faY rfl) rfl rfl rfl rfl (by kernel_rfl) (by kernel_rfl) Sl.perm rfl ?_
    refine Sl.tk 5 (lst' := [true, true, false, false, true, true, false, false, false, false, false, false]) rfl (Sl.faY rfl) rfl rfl rfl rfl (by kernel_rfl) (by kernel_rfl) Sl.perm rfl ?_
    refine Sl.tk 6 (lst' := [true, true, false, false, true, true, true, false, false, false, false, false]) rfl (Sl.ldY rfl rfl) rfl rfl rfl rfl (by kernel_rfl) (by kernel_rfl) Sl.perm rfl ?_
    refine Sl.rn2 2 7 (lsti := [true, true, true, false, true, true, true, false, false, false, false, false]) (lstj := [true, true, false, false, true, true, true, true, false, false, false, false]) (by kernel_rfl) rfl rfl rfl rfl (fun hk hs hQ => ?_) (fun hk hs hQ => ?_)
    · skip
      refine Sl.bs1 rfl rfl rfl rfl (fun b8 => ?_)
      refine Sl.en ?_
      refine Sl.thenN ?_
      refine Sl.bk hk hs hQ (fun _ => Sl.perm) ?_
      refine Sl.rn2 3 7 (lsti := [true, true, true, true, true, true, true, false, false, false, false, false]) (lstj := [true, true, true, false, true, true, true, true, false, false, false, false]) (by kernel_rfl) rfl rfl rfl rfl (fun hk hs hQ => ?_) (fun hk hs hQ => ?_)
      · skip
        refine Sl.cvBSb (bs := [k]) rfl rfl rfl rfl ?_
        refine Sl.en ?_
        refine Sl.thenN ?_
        refine Sl.bk hk hs hQ (fun _ => Sl.perm) ?_
        refine Sl.rn1 7 (lst' := [true, true, true, true, true, true, true, true, false, false, false, false]) (by kernel_rfl) rfl rfl (fun hk hs hQ => ?_)
        refine Sl.cl (size_is k.toNat) rfl rfl ?_
        rintro _ _ ⟨rfl, rfl⟩
        simp only [List.nil_append]
        refine Sl.en ?_
        refine Sl.thenN ?_
        refine Sl.bk hk hs hQ (fun _ => Sl.perm) ?_
        refine Sl.tk 8 (lst' := [true, true, true, true, true, true, true, true, true, false, false, false]) rfl (Sl.slAhY rfl rfl (by omega)) rfl rfl rfl rfl (by kernel_rfl) (by kernel_rfl) Sl.perm rfl ?_
        refine Sl.tk 9 (lst' := [true, true, true, true, true, true, true, true, true, true, false, false]) rfl (Sl.cvBSY (A := blk b1 24 (idc k bs)) (bs := bs.take (szOf k.toNat)) (idc_is (by omega)) rfl) rfl rfl rfl rfl (by kernel_rfl) (by kernel_rfl) Sl.perm rfl ?_
        refine Sl.tk 10 (lst' := [true, true, true, true, true, true, true, true, true, true, true, false]) rfl (Sl.addSY rfl rfl (by (show ByteArray.size ⟨[k].toArray⟩ + ByteArray.size ⟨(List.take (szOf k.toNat) bs).toArray⟩ ≤ _; rw [size_mk, size_mk]; simp; omega))) rfl rfl rfl rfl (by kernel_rfl) (by kernel_rfl) Sl.perm rfl ?_
        refine Sl.tk 11 (lst' := [true, true, true, true, true, true, true, true, true, true, true, true]) rfl (Sl.asgY rfl) rfl rfl rfl rfl (by kernel_rfl) (by kernel_rfl) Sl.perm rfl ?_
        refine Sl.dn (by kernel_rfl) ?_
        refine Sl.thenN ?_
        refine Sl.rt ?_
        exact Sl.ret1 [] Tryz.results33 rfl ⟨by (rw [show txt k bs = _ from by simp at h5; simp [txt, h5]; rfl, append_mk]; rfl), rfl⟩ Sl.perm
      · skip
        refine Sl.cl (size_is k.toNat) rfl rfl ?_
        rintro _ _ ⟨rfl, rfl⟩
        simp only [List.nil_append]
        refine Sl.en ?_
        refine Sl.thenN ?_
        refine Sl.bk hk hs hQ (fun _ => Sl.perm) ?_
        refine Sl.tk 8 (lst' := [true, true, true, false, true, true, true, true, true, false, false, false]) rfl (Sl.slAhY rfl rfl (by omega)) rfl rfl rfl rfl (by kernel_rfl) (by kernel_rfl) Sl.perm rfl ?_
        refine Sl.tk 9 (lst' := [true, true, true, false, true, true, true, true, true, true, false, false]) rfl (Sl.cvBSY (A := blk b1 24 (idc k bs)) (bs := bs.take (szOf k.toNat)) (idc_is (by omega)) rfl) rfl rfl rfl rfl (by kernel_rfl) (by kernel_rfl) Sl.perm rfl ?_
        refine Sl.rn1 3 (lst' := [true, true, true, true, true, true, true, true, true, true, false, false]) (by kernel_rfl) rfl rfl (fun hk hs hQ => ?_)
        refine Sl.cvBSb (bs := [k]) rfl rfl rfl rfl ?_
        refine Sl.en ?_
        refine Sl.thenN ?_
        refine Sl.bk hk hs hQ (fun _ => Sl.perm) ?_
        refine Sl.tk 10 (lst' := [true, true, true, true, true, true, true, true, true, true, true, false]) rfl (Sl.addSY rfl rfl (by (show ByteArray.size ⟨[k].toArray⟩ + ByteArray.size ⟨(List.take (szOf k.toNat) bs).toArray⟩ ≤ _; rw [size_mk, size_mk]; simp; omega))) rfl rfl rfl rfl (by kernel_rfl) (by kernel_rfl) Sl.perm rfl ?_
        refine Sl.tk 11 (lst' := [true, true, true, true, true, true, true, true, true, true, true, true]) rfl (Sl.asgY rfl) rfl rfl rfl rfl (by kernel_rfl) (by kernel_rfl) Sl.perm rfl ?_
        refine Sl.dn (by kernel_rfl) ?_
        refine Sl.thenN ?_
        refine Sl.rt ?_
        exact Sl.ret1 [] Tryz.results33 rfl ⟨by (rw [show txt k bs = _ from by simp at h5; simp [txt, h5]; rfl, append_mk]; rfl), rfl⟩ Sl.perm
    · skip
      refine Sl.cl (size_is k.toNat) rfl rfl ?_
      rintro _ _ ⟨rfl, rfl⟩
      simp only [List.nil_append]
      refine Sl.en ?_
      refine Sl.thenN ?_
      refine Sl.bk hk hs hQ (fun _ => Sl.perm) ?_
      refine Sl.tk 8 (lst' := [true, true, false, false, true, true, true, true, true, false, false, false]) rfl (Sl.slAhY rfl rfl (by omega)) rfl rfl rfl rfl (by kernel_rfl) (by kernel_rfl) Sl.perm rfl ?_
      refine Sl.tk 9 (lst' := [true, true, false, false, true, true, true, true, true, true, false, false]) rfl (Sl.cvBSY (A := blk b1 24 (idc k bs)) (bs := bs.take (szOf k.toNat)) (idc_is (by omega)) rfl) rfl rfl rfl rfl (by kernel_rfl) (by kernel_rfl) Sl.perm rfl ?_
      refine Sl.rn1 2 (lst' := [true, true, true, false, true, true, true, true, true, true, false, false]) (by kernel_rfl) rfl rfl (fun hk hs hQ => ?_)
      refine Sl.bs1 rfl rfl rfl rfl (fun b8 => ?_)
      refine Sl.en ?_
      refine Sl.thenN ?_
      refine Sl.bk hk hs hQ (fun _ => Sl.perm) ?_
      refine Sl.rn1 3 (lst' := [true, true, true, true, true, true, true, true, true, true, false, false]) (by kernel_rfl) rfl rfl (fun hk hs hQ => ?_)
      refine Sl.cvBSb (bs := [k]) rfl rfl rfl rfl ?_
      refine Sl.en ?_
      refine Sl.thenN ?_
      refine Sl.bk hk hs hQ (fun _ => Sl.perm) ?_
      refine Sl.tk 10 (lst' := [true, true, true, true, true, true, true, true, true, true, true, false]) rfl (Sl.addSY rfl rfl (by (show ByteArray.size ⟨[k].toArray⟩ + ByteArray.size ⟨(List.take (szOf k.toNat) bs).toArray⟩ ≤ _; rw [size_mk, size_mk]; simp; omega))) rfl rfl rfl rfl (by kernel_rfl) (by kernel_rfl) Sl.perm rfl ?_
      refine Sl.tk 11 (lst' := [true, true, true, true, true, true, true, true, true, true, true, true]) rfl (Sl.asgY rfl) rfl rfl rfl rfl (by kernel_rfl) (by kernel_rfl) Sl.perm rfl ?_
      refine Sl.dn (by kernel_rfl) ?_
      refine Sl.thenN ?_
      refine Sl.rt ?_
      exact Sl.ret1 [] Tryz.results33 rfl ⟨by (rw [show txt k bs = _ from by simp at h5; simp [txt, h5]; rfl, append_mk]; rfl), rfl⟩ Sl.perm
end Go.Proofs.YtdcjlbfmdkgcpaaGreatDoor
