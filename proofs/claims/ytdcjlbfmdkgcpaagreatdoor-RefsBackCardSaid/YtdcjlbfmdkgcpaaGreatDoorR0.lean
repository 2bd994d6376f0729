/- The list of branches by definition; a law's bounds. -/
import Derived.Test.YtdcjlbfmdkgcpaaGreatDoorProg
import Derived.Test.YtdcjlbfmdkgcpaaGreatDoorR9
set_option linter.unusedSimpArgs false
set_option linter.unusedVariables false
namespace Go.Proofs.YtdcjlbfmdkgcpaaGreatDoor
open Go.Sl
instance tyR0Ag24 : Sl.Ag Tryz.prog 24 33 := ⟨Tryz.isAgg24, Tryz.sizeOf24⟩
instance tyR0Ag32 : Sl.Ag Tryz.prog 32 3 := ⟨Tryz.isAgg32, Tryz.sizeOf32⟩
instance tyR0Ag39 : Sl.Ag Tryz.prog 39 34 := ⟨Tryz.isAgg39, Tryz.sizeOf39⟩
instance tyR0Ag57 : Sl.Ag Tryz.prog 57 2 := ⟨Tryz.isAgg57, Tryz.sizeOf57⟩
instance tyR0By32 : Sl.ByT Tryz.prog 32 40 := ⟨fun w => ⟨_, Tryz.typeInfo32 w, rfl⟩⟩
instance tyR0By39 : Sl.ByT Tryz.prog 39 56 := ⟨fun w => ⟨_, Tryz.typeInfo39 w, rfl⟩⟩
instance tyR0By57 : Sl.ByT Tryz.prog 57 32 := ⟨fun w => ⟨_, Tryz.typeInfo57 w, rfl⟩⟩
instance tyR0Ca22 : Sl.Ca Tryz.prog 22 := ⟨Tryz.call22⟩
instance tyR0Ca36 : Sl.Ca Tryz.prog 36 := ⟨Tryz.call36⟩
instance tyR0Ca38 : Sl.Ca Tryz.prog 38 := ⟨Tryz.call38⟩
instance tyR0Fa32_0 : Sl.Fa Tryz.prog 32 0 0 := Sl.Fa.mk' Tryz.runUnderlying32 rfl rfl rfl Tryz.sizeOf9 (by decide)
instance tyR0Fa32_1 : Sl.Fa Tryz.prog 32 1 1 := Sl.Fa.mk' Tryz.runUnderlying32 rfl rfl rfl Tryz.sizeOf9 (by decide)
instance tyR0Fa57_0 : Sl.Fa Tryz.prog 57 0 0 := Sl.Fa.mk' Tryz.runUnderlying57 rfl rfl rfl Tryz.sizeOf9 (by decide)
instance tyR0Fa57_1 : Sl.Fa Tryz.prog 57 1 1 := Sl.Fa.mk' Tryz.runUnderlying57 rfl rfl rfl Tryz.sizeOf9 (by decide)
instance tyR0Sc9 : Sl.Sc Tryz.prog 9 := ⟨Tryz.isAgg9, Tryz.sizeOf9⟩
instance tyR0Sl35 : Sl.SlT Tryz.prog 35 39 34 := ⟨Tryz.runUnderlying35, Tryz.sizeOf39⟩
instance tyR0Sl41 : Sl.SlT Tryz.prog 41 32 3 := ⟨Tryz.runUnderlying41, Tryz.sizeOf32⟩
instance tyR0Sl43 : Sl.SlT Tryz.prog 43 57 2 := ⟨Tryz.runUnderlying43, Tryz.sizeOf57⟩
instance tyR0St9 : Sl.StrT Tryz.prog 9 := ⟨Tryz.runUnderlying9⟩
instance tyR0Ss39 : Sl.StT Tryz.prog 39 [(0, 1), (1, 33)] := ⟨⟨_, Tryz.runUnderlying39, fun w => by simp [Tryz.sizeOf24, Tryz.sizeOf9]⟩⟩
instance tyR0Su35 : Sl.SlU Tryz.prog 35 := ⟨.inl ⟨_, Tryz.runUnderlying35⟩⟩
instance tyR0Zv24 : Sl.Zv Tryz.prog 24 (.agg [.int .u8 0, .int .u8 0, .int .u8 0, .int .u8 0, .int .u8 0, .int .u8 0, .int .u8 0, .int .u8 0, .int .u8 0, .int .u8 0, .int .u8 0, .int .u8 0, .int .u8 0, .int .u8 0, .int .u8 0, .int .u8 0, .int .u8 0, .int .u8 0, .int .u8 0, .int .u8 0, .int .u8 0, .int .u8 0, .int .u8 0, .int .u8 0, .int .u8 0, .int .u8 0, .int .u8 0, .int .u8 0, .int .u8 0, .int .u8 0, .int .u8 0, .int .u8 0, .int .u8 0].toArray) := ⟨Tryz.zeroValue24⟩
instance tyR0Zv32 : Sl.Zv Tryz.prog 32 (.agg [.string ⟨#[]⟩, .string ⟨#[]⟩, .bool false].toArray) := ⟨Tryz.zeroValue32⟩
instance tyR0Zv39 : Sl.Zv Tryz.prog 39 (.agg [.string ⟨#[]⟩, .int .u8 0, .int .u8 0, .int .u8 0, .int .u8 0, .int .u8 0, .int .u8 0, .int .u8 0, .int .u8 0, .int .u8 0, .int .u8 0, .int .u8 0, .int .u8 0, .int .u8 0, .int .u8 0, .int .u8 0, .int .u8 0, .int .u8 0, .int .u8 0, .int .u8 0, .int .u8 0, .int .u8 0, .int .u8 0, .int .u8 0, .int .u8 0, .int .u8 0, .int .u8 0, .int .u8 0, .int .u8 0, .int .u8 0, .int .u8 0, .int .u8 0, .int .u8 0, .int .u8 0].toArray) := ⟨Tryz.zeroValue39⟩
instance tyR0Zv57 : Sl.Zv Tryz.prog 57 (.agg [.string ⟨#[]⟩, .string ⟨#[]⟩].toArray) := ⟨Tryz.zeroValue57⟩
/-- What the definition's list of branches tells. -/
def listR : Prs → List Br → List Br × Int
  | [], out => (out, 0)
  | p :: zs, out => if headR p.1 then match parseT p.2 with
      | none => ([], 4)
      | some (k, bs) => if gname (tailS p.1) && !decide (out.length = 32) then listR zs (out ++ [(tailS p.1, k, bs)]) else ([], 4)
    else listR zs out
theorem headR_nil : headR ⟨#[]⟩ = false := by decide
theorem headR_cons (c : UInt8) (r : List UInt8) : headR ⟨(c :: r).toArray⟩ = decide (c = 114) := by
  unfold headR
  have e : ByteArray.extract ⟨(c :: r).toArray⟩ 0 1 = ⟨#[c]⟩ := by
    apply ByteArray.ext
    rw [ByteArray.data_extract]
    apply Array.ext'
    simp
  rw [e]
  by_cases q : c = 114
  · subst q; rfl
  · rw [decide_eq_false q, decide_eq_false]
    intro h
    have := congrArg (fun s : Str => s.data.toList) h
    simp at this
    exact q this
theorem tailS_len {s : Str} (h : s.size ≠ 0) : (1 : Int) ≤ s.size := by omega

theorem list18_is (A : HP) (za : Option Addr) (zc : Nat) (zs : Prs) (hA : SlIs A encP 2 za zs.length zs) (hbig : zs.length < 2147483648) :
    Fnc Tryz.prog 16 [.slice za zs.length zc] [A]
    (fun v L' => ∃ a cap B, v = .tuple [.slice a (listR zs []).1.length cap, .int .i64 (listR zs []).2].toArray ∧ SlIs B encR 34 a (listR zs []).1.length (listR zs []).1 ∧ L' = [B, A]) := by
  refine Sl.fn_intro Tryz.func16 rfl Tryz.ntmps16 rfl (fun g F => ?_)
  simp only [Sl.slotsOf, List.cons_append, List.nil_append, Nat.reduceAdd]
  refine Sl.sq ?_
  refine Sl.rg ?_
  refine Sl.asg rfl rfl ?_
  refine Sl.asg rfl rfl ?_
  refine Sl.en ?_
  refine Sl.thenN ?_
  refine Sl.sq ?_
  refine Sl.rg ?_
  refine Sl.asg rfl rfl ?_
  refine Sl.en ?_
  refine Sl.thenN ?_
  refine Sl.sq ?_
  refine Sl.sq ?_
  refine Sl.rg ?_
  refine Sl.mv rfl rfl ?_
  refine Sl.lnL rfl rfl ?_
  refine Sl.mv rfl rfl ?_
  refine Sl.en ?_
  refine Sl.thenN ?_
  refine Sl.bl ?_
  refine Sl.nilO 39 encR 34 ?_
  refine Sl.lp0 (fun m s L => ∃ (j : Nat) (out : List Br) (a : Option Addr) (cap ct : Nat), j ≤ zs.length ∧ m = zs.length - j ∧ listR (zs.drop j) out = listR zs [] ∧ (∀ r ∈ out, r.2.2.length = 32) ∧ out.length ≤ 32 ∧
      s = [(11, .int .i64 (j : Nat)), (10, .int .i64 (zs.length : Nat)), (9, .slice za zs.length zc), (4, .slice a out.length cap)] ∧ L = [A, osl ct encR 34 a cap out, F])
      zs.length _ _ ⟨0, [], none, 0, 39, Nat.zero_le _, rfl, rfl, fun r hr => (by cases hr), Nat.zero_le _, rfl, rfl⟩ ⟨rfl, rfl, rfl, rfl, trivial⟩ Sl.perm ?_
  rintro m s L ⟨j, out, a, cap, ct, hj, rfl, hgo, hout, ho32, rfl, rfl⟩
  refine Sl.sq ?_
  refine Sl.rg ?_
  refine Sl.lss rfl rfl rfl ?_
  refine Sl.en ?_
  refine Sl.thenN ?_
  refine Sl.sq ?_
  refine Sl.cdP rfl (fun h12 => ?_) (fun h12 => ?_)
  · skip
    refine Sl.sk ?_
    refine Sl.thenN ?_
    refine Sl.sq ?_
    refine Sl.bl ?_
    refine Sl.sq ?_
    obtain ⟨⟨k, x⟩, hw⟩ : ∃ w : Str × Str, zs[j]? = some w := ⟨zs[j]'(by omega), by simp⟩
    refine Sl.slAddr A hA (by omega) (fun ab ao ha => ?_)
    subst ha
    have hdrop : zs.drop j = (k, x) :: zs.drop (j + 1) := drop_at hw
    refine Sl.rg ?_
    refine Sl.ia rfl rfl rfl (by omega) ?_
    refine Sl.ldEa A hA j hw rfl rfl rfl ?_
    refine Sl.al rfl (fun b6 => ?_)
    refine Sl.sta rfl rfl rfl (by simp [encP, Value.oneCell']) rfl ?_
    refine Sl.en ?_
    refine Sl.thenN ?_
    refine Sl.sq ?_
    refine Sl.sq ?_
    refine Sl.rg ?_
    refine Sl.fa rfl rfl ?_
    refine Sl.ld rfl rfl rfl ?_
    refine Sl.eqlS rfl rfl rfl ?_
    refine Sl.mv rfl rfl ?_
    refine Sl.split (t := 18) rfl (fun h18 => ?_) (fun h18 => ?_)
    · skip
      have hhead : headR k = false := by (have h18' : k = ⟨#[]⟩ := by simpa using h18); subst h18'; exact headR_nil
      refine Sl.gskip rfl rfl rfl rfl rfl rfl ?_
      refine Sl.gskip rfl rfl rfl rfl rfl rfl ?_
      refine Sl.gskip rfl rfl rfl rfl rfl rfl ?_
      refine Sl.gskip rfl rfl rfl rfl rfl rfl ?_
      refine Sl.pk rfl rfl rfl ?_
      refine Sl.en ?_
      refine Sl.thenN ?_
      refine Sl.cdT rfl ?_
      refine Sl.xi ?_
      refine Sl.thenE ?_
      refine Sl.blkE ?_
      refine Sl.thenN ?_
      refine Sl.rg ?_
      refine Sl.add rfl rfl rfl (Sl.fits_i64 (by omega)) ?_
      refine Sl.mv rfl rfl ?_
      refine Sl.en ?_
      refine Sl.thenN ?_
      exact Sl.again (m' := zs.length - (j + 1)) ⟨j + 1, out, a, cap, ct, by omega, rfl, by rw [← hgo, hdrop]; simp [listR, hhead], hout, ho32, rfl, rfl⟩ (by omega) ⟨rfl, rfl, rfl, rfl, trivial⟩ Sl.perm
    · skip
      have h0 : k.size ≠ 0 := by (have := size_nil (s := k) (by simpa using h18); omega)
      obtain ⟨c, r, rfl⟩ := str_cons h0
      refine Sl.gdo rfl rfl ?_
      refine Sl.fa rfl rfl ?_
      refine Sl.gdo rfl rfl ?_
      refine Sl.ld rfl rfl rfl ?_
      refine Sl.gdo rfl rfl ?_
      refine Sl.ixC (i := 0) (c := c) rfl rfl rfl rfl rfl ?_
      refine Sl.gdo rfl rfl ?_
      refine Sl.neqI rfl rfl rfl ?_
      refine Sl.pk rfl rfl rfl ?_
      refine Sl.en ?_
      refine Sl.thenN ?_
      refine Sl.cd rfl (fun h23 => ?_) (fun h23 => ?_)
      · skip
        have hhead : headR ⟨(c :: r).toArray⟩ = false := by (rw [headR_cons]; simp at h23 ⊢; intro e; subst e; exact absurd h23 (by decide))
        refine Sl.xi ?_
        refine Sl.thenE ?_
        refine Sl.blkE ?_
        refine Sl.thenN ?_
        refine Sl.rg ?_
        refine Sl.add rfl rfl rfl (Sl.fits_i64 (by omega)) ?_
        refine Sl.mv rfl rfl ?_
        refine Sl.en ?_
        refine Sl.thenN ?_
        exact Sl.again (m' := zs.length - (j + 1)) ⟨j + 1, out, a, cap, ct, by omega, rfl, by rw [← hgo, hdrop]; simp [listR, hhead], hout, ho32, rfl, rfl⟩ (by omega) ⟨rfl, rfl, rfl, rfl, trivial⟩ Sl.perm
      · skip
        have hhead : headR ⟨(c :: r).toArray⟩ = true := by (rw [headR_cons]; simp at h23 ⊢; exact UInt8.toNat_inj.1 (by (have : (114 : UInt8).toNat = 114 := rfl); omega))
        obtain ⟨k, hk⟩ : ∃ k : Str, k = ⟨(c :: r).toArray⟩ := ⟨_, rfl⟩
        rw [← hk] at hhead h0 hdrop hw ⊢
        refine Sl.sk ?_
        refine Sl.thenN ?_
        refine Sl.sq ?_
        refine Sl.rg ?_
        refine Sl.fa rfl rfl ?_
        refine Sl.ld rfl rfl rfl ?_
        refine Sl.cl (parse18_is x) rfl rfl ?_
        rintro _ _ ⟨rfl, rfl⟩
        simp only [List.cons_append, List.nil_append]
        refine Sl.mv rfl rfl ?_
        refine Sl.xt rfl rfl rfl ?_
        refine Sl.xt rfl rfl rfl ?_
        refine Sl.al rfl (fun b7 => ?_)
        refine Sl.sta rfl rfl (idOf_len x) (idOf_one x) (setR_full (by rw [idOf_len]; rfl)) ?_
        refine Sl.asg rfl rfl ?_
        refine Sl.en ?_
        refine Sl.thenN ?_
        refine Sl.sq ?_
        refine Sl.sq ?_
        refine Sl.rg ?_
        refine Sl.mv rfl rfl ?_
        refine Sl.nt rfl rfl ?_
        refine Sl.mv rfl rfl ?_
        refine Sl.split (t := 32) rfl (fun h32 => ?_) (fun h32 => ?_)
        · skip
          have hp : parseT x = none := by simpa using h32
          refine Sl.gskip rfl rfl rfl rfl rfl rfl ?_
          refine Sl.gskip rfl rfl rfl rfl rfl rfl ?_
          refine Sl.gskip rfl rfl rfl rfl rfl rfl ?_
          refine Sl.gskip rfl rfl rfl rfl rfl rfl ?_
          refine Sl.gskip rfl rfl rfl rfl rfl rfl ?_
          refine Sl.pk rfl rfl rfl ?_
          refine Sl.mv rfl rfl ?_
          refine Sl.split (t := 39) rfl (fun h39 => ?_) (fun h39 => ?_)
          · skip
            skip
            refine Sl.gskip rfl rfl rfl rfl rfl rfl ?_
            refine Sl.gskip rfl rfl rfl rfl rfl rfl ?_
            refine Sl.gskip rfl rfl rfl rfl rfl rfl ?_
            refine Sl.pk rfl rfl rfl ?_
            refine Sl.en ?_
            refine Sl.thenN ?_
            refine Sl.cdT rfl ?_
            refine Sl.sq ?_
            have herr : listR zs [] = ([], 4) := by (rw [← hgo, hdrop]; simp [listR, hhead, hp])
            refine Sl.rg ?_
            refine Sl.asg rfl rfl ?_
            refine Sl.asg rfl rfl ?_
            refine Sl.en ?_
            refine Sl.thenN ?_
            refine Sl.rt ?_
            refine Sl.thenR ?_
            refine Sl.blkR ?_
            refine Sl.thenR ?_
            refine Sl.thenR ?_
            refine Sl.blkR ?_
            refine Sl.thenR ?_
            exact Sl.ret2 [osl ct encR 34 a cap out, A] Tryz.results16 rfl rfl ⟨none, 0, osl ct encR 34 a cap out, by rw [herr]; rfl, by rw [herr]; exact ⟨rfl, fun _ h => (by cases h), fun _ _ => .inl rfl⟩, rfl⟩ Sl.perm
          · skip
            cases h39 --closed
        · skip
          obtain ⟨⟨kk, bs⟩, hp⟩ : ∃ q, parseT x = some q := by (cases e : parseT x with
            | none => simp [e] at h32
            | some q => exact ⟨q, rfl⟩)
          have hbs := parse_len hp
          refine Sl.gdo rfl rfl ?_
          refine Sl.fa rfl rfl ?_
          refine Sl.gdo rfl rfl ?_
          refine Sl.ld rfl rfl rfl ?_
          refine Sl.gdo rfl rfl ?_
          refine Sl.slSl rfl rfl rfl (by omega) ?_
          refine Sl.gdo rfl rfl ?_
          refine Sl.cl (good18_is (tailS k)) rfl rfl ?_
          rintro _ _ ⟨rfl, rfl⟩
          simp only [List.cons_append, List.nil_append]
          refine Sl.gdo rfl rfl ?_
          refine Sl.nt rfl rfl ?_
          refine Sl.pk rfl rfl rfl ?_
          refine Sl.mv rfl rfl ?_
          refine Sl.split (t := 39) rfl (fun h39 => ?_) (fun h39 => ?_)
          · skip
            have hg45 : gname (tailS k) = false := by simpa using h39
            refine Sl.gskip rfl rfl rfl rfl rfl rfl ?_
            refine Sl.gskip rfl rfl rfl rfl rfl rfl ?_
            refine Sl.gskip rfl rfl rfl rfl rfl rfl ?_
            refine Sl.pk rfl rfl rfl ?_
            refine Sl.en ?_
            refine Sl.thenN ?_
            refine Sl.cdT rfl ?_
            refine Sl.sq ?_
            have herr : listR zs [] = ([], 4) := by (rw [← hgo, hdrop]; simp [listR, hhead, hp, hg45])
            refine Sl.rg ?_
            refine Sl.asg rfl rfl ?_
            refine Sl.asg rfl rfl ?_
            refine Sl.en ?_
            refine Sl.thenN ?_
            refine Sl.rt ?_
            refine Sl.thenR ?_
            refine Sl.blkR ?_
            refine Sl.thenR ?_
            refine Sl.thenR ?_
            refine Sl.blkR ?_
            refine Sl.thenR ?_
            exact Sl.ret2 [osl ct encR 34 a cap out, A] Tryz.results16 rfl rfl ⟨none, 0, osl ct encR 34 a cap out, by rw [herr]; rfl, by rw [herr]; exact ⟨rfl, fun _ h => (by cases h), fun _ _ => .inl rfl⟩, rfl⟩ Sl.perm
          · skip
            have hgood : gname (tailS k) = true := by simpa using h39
            refine Sl.gdo rfl rfl ?_
            refine Sl.mv rfl rfl ?_
            refine Sl.gdo rfl rfl ?_
            refine Sl.lnL rfl rfl ?_
            refine Sl.gdo rfl rfl ?_
            refine Sl.eqlI rfl rfl rfl ?_
            refine Sl.pk rfl rfl rfl ?_
            refine Sl.en ?_
            refine Sl.thenN ?_
            refine Sl.cd rfl (fun h43 => ?_) (fun h43 => ?_)
            · skip
              refine Sl.sq ?_
              have h32 : out.length = 32 := by (have := of_decide_eq_true h43; omega)
              have herr : listR zs [] = ([], 4) := by (rw [← hgo, hdrop]; simp [listR, hhead, hp, hgood, h32])
              refine Sl.rg ?_
              refine Sl.asg rfl rfl ?_
              refine Sl.asg rfl rfl ?_
              refine Sl.en ?_
              refine Sl.thenN ?_
              refine Sl.rt ?_
              refine Sl.thenR ?_
              refine Sl.blkR ?_
              refine Sl.thenR ?_
              refine Sl.thenR ?_
              refine Sl.blkR ?_
              refine Sl.thenR ?_
              exact Sl.ret2 [osl ct encR 34 a cap out, A] Tryz.results16 rfl rfl ⟨none, 0, osl ct encR 34 a cap out, by rw [herr]; rfl, by rw [herr]; exact ⟨rfl, fun _ h => (by cases h), fun _ _ => .inl rfl⟩, rfl⟩ Sl.perm
            · skip
              refine Sl.sk ?_
              refine Sl.thenN ?_
              refine Sl.rgT ([blk b6 57 [Value.string k, Value.string x], blk b7 24 (idOf (parseT x))]) [0, 1, 2, 3, 4, 5, 6, 7] [0, 1, 2, 3, 4, 5, 8] (by kernel_rfl) (by kernel_rfl) (by kernel_rfl) ?_
              refine Sl.tk 0 (lst' := [true, false, false, false, false, false, false, false, false]) rfl (Sl.mvY rfl) rfl rfl rfl rfl (by kernel_rfl) (by kernel_rfl) Sl.perm rfl ?_
              refine Sl.tk 1 (lst' := [true, true, false, false, false, false, false, false, false]) rfl (Sl.faY rfl) rfl rfl rfl rfl (by kernel_rfl) (by kernel_rfl) Sl.perm rfl ?_
              refine Sl.tk 2 (lst' := [true, true, true, false, false, false, false, false, false]) rfl (Sl.ldY rfl rfl) rfl rfl rfl rfl (by kernel_rfl) (by kernel_rfl) Sl.perm rfl ?_
              refine Sl.tk 3 (lst' := [true, true, true, true, false, false, false, false, false]) rfl (Sl.slSlY rfl rfl (by omega)) rfl rfl rfl rfl (by kernel_rfl) (by kernel_rfl) Sl.perm rfl ?_
              refine Sl.tk 4 (lst' := [true, true, true, true, true, false, false, false, false]) rfl (Sl.ldaY rfl (Sl.sub_all (idOf_len x))) rfl rfl rfl rfl (by kernel_rfl) (by kernel_rfl) Sl.perm rfl ?_
              refine Sl.tk 5 (lst' := [true, true, true, true, true, true, false, false, false]) rfl (Sl.bdY (vs := encR (tailS k, kk, bs)) rfl (by rw [hp]; exact bld_ref hbs (by rfl))) rfl rfl rfl rfl (by kernel_rfl) (by kernel_rfl) Sl.perm rfl ?_
              refine Sl.rn1 6 (lst' := [true, true, true, true, true, true, true, false, false]) (by kernel_rfl) rfl rfl (fun hk hs hQ => ?_)
              refine Sl.bs1a (vs := encR (tailS k, kk, bs)) (by rfl) (by decide) (by decide) rfl rfl (encR_len hbs) (fun b50 => ?_)
              refine Sl.en ?_
              refine Sl.thenN ?_
              refine Sl.bk hk hs hQ (fun _ => Sl.perm) ?_
              refine Sl.rn1 7 (lst' := [true, true, true, true, true, true, true, true, false]) (by kernel_rfl) rfl rfl (fun hk hs hQ => ?_)
              refine Sl.apO (ys := [(tailS k, kk, bs)]) (enc := encR) (sz := 34) ct rfl rfl rfl rfl (by rw [show flat encR [(tailS k, kk, bs)] = encR (tailS k, kk, bs) from by simp [flat]]; exact src_blk (m := 1) (sz := 34) (by rw [encR_len hbs])) (fun y hy => ?_) rfl (fun y hy v' hv' => ?_) (by rfl) (by decide) (by simp; omega) (fun a' cap' c' => ?_)
              · simp at hy; subst hy; exact encR_len hbs
              · exact encR_one v' hv'
              refine Sl.en ?_
              refine Sl.thenN ?_
              refine Sl.bk hk hs hQ (fun _ => Sl.perm) ?_
              refine Sl.tk 8 (lst' := [true, true, true, true, true, true, true, true, true]) rfl (Sl.asgY rfl) rfl rfl rfl rfl (by kernel_rfl) (by kernel_rfl) Sl.perm rfl ?_
              refine Sl.dn (by kernel_rfl) ?_
              refine Sl.blkN ?_
              refine Sl.thenN ?_
              refine Sl.rg ?_
              refine Sl.add rfl rfl rfl (Sl.fits_i64 (by omega)) ?_
              refine Sl.mv rfl rfl ?_
              refine Sl.en ?_
              refine Sl.thenN ?_
              have hlen32 : out.length ≠ 32 := by (have := of_decide_eq_false h43; omega)
              exact Sl.again (m' := zs.length - (j + 1)) ⟨j + 1, out ++ [(tailS k, kk, bs)], a', cap', c', by omega, rfl, by rw [← hgo, hdrop]; simp [listR, hhead, hp, hgood, hlen32], fun r hr => (by rcases List.mem_append.1 hr with q | q; exact hout r q; simp at q; subst q; exact hbs), by simp; omega, rfl, rfl⟩ (by omega) ⟨rfl, rfl, rfl, rfl, trivial⟩ Sl.perm
  · skip
    refine Sl.xi ?_
    refine Sl.thenE ?_
    refine Sl.thenE ?_
    refine Sl.blkE ?_
    refine Sl.thenN ?_
    refine Sl.sq ?_
    refine Sl.rg ?_
    refine Sl.mv rfl rfl ?_
    refine Sl.asg rfl rfl ?_
    refine Sl.asg rfl rfl ?_
    refine Sl.en ?_
    refine Sl.thenN ?_
    refine Sl.rt ?_
    have hres : listR zs [] = (out, 0) := by rw [← hgo, List.drop_of_length_le (by omega)]; rfl
    exact Sl.ret2 [osl ct encR 34 a cap out, A] Tryz.results16 rfl rfl ⟨a, cap, _, by rw [hres], by rw [hres]; exact osl_is (fun r hr => encR_len (hout r hr)), rfl⟩ Sl.perm

theorem eqRef {r : Br} (hr : r.2.2.length = 32) (w : World) : (Go.Op.equalIn 10000 39 (.agg (encR r).toArray) (.agg (encR r).toArray)).run Tryz.prog w = .ok true w := by
  obtain ⟨d, k, bs⟩ := r
  refine Eq.trans (eq_struct w 9999 Tryz.underlying39 Tryz.stoodInHeld39) ?_
  have hid : (Go.Op.equalIn 9999 24 (.agg (idc k bs).toArray) (.agg (idc k bs).toArray)).run Tryz.prog w = .ok true w := by
    refine Eq.trans (eq_struct w 9998 Tryz.underlying24 Tryz.stoodInHeld24) ?_
    refine Eq.trans (eqF_cons w 9998 (by simp) (part_cell w Tryz.isAgg5 rfl) (part_cell w Tryz.isAgg5 rfl) (run_equalIn_int w 9997 _ .u8 .u8 _ _ Tryz.underlying5)
      (eqF_cons w 9998 (by simp) (part_agg w Tryz.isAgg22 Tryz.sizeOf22 (show List.take 32 (u8L bs) = u8L bs from List.take_of_length_le (by simp; exact Nat.le_of_eq hr)))
        (part_agg w Tryz.isAgg22 Tryz.sizeOf22 (show List.take 32 (u8L bs) = u8L bs from List.take_of_length_le (by simp; exact Nat.le_of_eq hr)))
        (equal_u8 w 9996 Tryz.underlying22 Tryz.underlying5 cells_u8 hr hr) (eqF_nil w 9998))) ?_
    rw [u8_beq]
    simp
  refine Eq.trans (eqF_cons w 9999 (by simp) (part_cell w Tryz.isAgg9 rfl) (part_cell w Tryz.isAgg9 rfl) (run_equalIn_string w 9998 _ _ _ Tryz.underlying9)
    (eqF_cons w 9999 (by simp) (part_agg w Tryz.isAgg24 Tryz.sizeOf24 (show List.take 33 (idc k bs) = idc k bs from List.take_of_length_le (by rw [idc_len hr]; exact Nat.le_refl _)))
      (part_agg w Tryz.isAgg24 Tryz.sizeOf24 (show List.take 33 (idc k bs) = idc k bs from List.take_of_length_le (by rw [idc_len hr]; exact Nat.le_refl _))) hid (eqF_nil w 9999))) ?_
  simp

theorem same18_is (A B : HP) (a b : Option Addr) (ca cb : Nat) (xs : List Br) (hA : SlIs A encR 34 a xs.length xs) (hB : SlIs B encR 34 b xs.length xs) (hx : ∀ r ∈ xs, r.2.2.length = 32) (hbig : xs.length < 2147483648) :
    Fnc Tryz.prog 17 [.slice a xs.length ca, .slice b xs.length cb] [A, B] (fun v L' => v = .bool true ∧ L' = [A, B]) := by
  refine Sl.fn_intro Tryz.func17 rfl Tryz.ntmps17 rfl (fun g F => ?_)
  simp only [Sl.slotsOf, List.cons_append, List.nil_append, Nat.reduceAdd]
  refine Sl.sq ?_
  refine Sl.rg ?_
  refine Sl.asg rfl rfl ?_
  refine Sl.en ?_
  refine Sl.thenN ?_
  refine Sl.sq ?_
  refine Sl.sq ?_
  refine Sl.rg ?_
  refine Sl.mv rfl rfl ?_
  refine Sl.lnL rfl rfl ?_
  refine Sl.mv rfl rfl ?_
  refine Sl.lnL rfl rfl ?_
  refine Sl.neqI rfl rfl rfl ?_
  refine Sl.en ?_
  refine Sl.thenN ?_
  refine Sl.cdP rfl (fun h10 => ?_) (fun h10 => ?_)
  · skip
    exact absurd rfl h10 --closed
  · skip
    refine Sl.sk ?_
    refine Sl.thenN ?_
    refine Sl.sq ?_
    refine Sl.sq ?_
    refine Sl.rg ?_
    refine Sl.mv rfl rfl ?_
    refine Sl.lnL rfl rfl ?_
    refine Sl.mv rfl rfl ?_
    refine Sl.en ?_
    refine Sl.thenN ?_
    refine Sl.bl ?_
    refine Sl.lp0 (fun m s L => ∃ j : Nat, j ≤ xs.length ∧ m = xs.length - j ∧
        s = [(13, .int .i64 (j : Nat)), (12, .int .i64 (xs.length : Nat)), (0, .slice a xs.length ca), (1, .slice b xs.length cb)] ∧ L = [A, B, F])
        xs.length _ _ ⟨0, Nat.zero_le _, rfl, rfl, rfl⟩ ⟨rfl, rfl, rfl, rfl, trivial⟩ Sl.perm ?_
    rintro m s L ⟨j, hj, rfl, rfl, rfl⟩
    refine Sl.sq ?_
    refine Sl.rg ?_
    refine Sl.lss rfl rfl rfl ?_
    refine Sl.en ?_
    refine Sl.thenN ?_
    refine Sl.sq ?_
    refine Sl.cdP rfl (fun h14 => ?_) (fun h14 => ?_)
    · skip
      refine Sl.sk ?_
      refine Sl.thenN ?_
      refine Sl.sq ?_
      refine Sl.bl ?_
      refine Sl.sq ?_
      refine Sl.rg ?_
      refine Sl.mv rfl rfl ?_
      refine Sl.asg rfl rfl ?_
      refine Sl.en ?_
      refine Sl.thenN ?_
      refine Sl.sq ?_
      obtain ⟨w, hw⟩ : ∃ w : Br, xs[j]? = some w := ⟨xs[j]'(by omega), by simp⟩
      have hw32 := hx w (List.mem_of_getElem? hw)
      refine Sl.slAddr A hA (by omega) (fun ab ao ha => ?_)
      subst ha
      refine Sl.slAddr B hB (by omega) (fun bb bo hb => ?_)
      subst hb
      refine Sl.rgQ (by kernel_rfl) (by kernel_rfl) ?_
      refine Sl.mvQ rfl rfl ?_
      refine Sl.mvQ rfl rfl ?_
      refine Sl.iaQ rfl rfl rfl (by omega) ?_
      refine Sl.ldEaQ A hA j hw rfl rfl rfl ?_
      refine Sl.mvQ rfl rfl ?_
      refine Sl.mvQ rfl rfl ?_
      refine Sl.iaQ rfl rfl rfl (by omega) ?_
      refine Sl.ldEaQ B hB j hw rfl rfl rfl ?_
      refine Sl.neqGQ rfl rfl rfl Tryz.eqGuardType39 (eqRef hw32) ?_
      refine Sl.enQ ?_
      refine Sl.thenN ?_
      refine Sl.cdF rfl ?_
      refine Sl.sk ?_
      refine Sl.blkN ?_
      refine Sl.thenN ?_
      refine Sl.rg ?_
      refine Sl.add rfl rfl rfl (Sl.fits_i64 (by omega)) ?_
      refine Sl.mv rfl rfl ?_
      refine Sl.en ?_
      refine Sl.thenN ?_
      exact Sl.again (m' := xs.length - (j + 1)) ⟨j + 1, by omega, rfl, rfl, rfl⟩ (by omega) ⟨rfl, rfl, rfl, rfl, trivial⟩ Sl.perm
    · skip
      refine Sl.xi ?_
      refine Sl.thenE ?_
      refine Sl.thenE ?_
      refine Sl.blkE ?_
      refine Sl.thenN ?_
      refine Sl.sq ?_
      refine Sl.rg ?_
      refine Sl.asg rfl rfl ?_
      refine Sl.en ?_
      refine Sl.thenN ?_
      refine Sl.rt ?_
      exact Sl.ret1 [A, B] Tryz.results17 rfl ⟨rfl, rfl⟩ Sl.perm

/-- How many bytes some writes bear, as a law counts them. -/
def wsz (ws : List Wr) : Nat := (ws.map fun w => 1 + w.1.size + w.2.1.size).sum
theorem wsz_snoc (ws : List Wr) (w : Wr) : wsz (ws ++ [w]) = wsz ws + (1 + w.1.size + w.2.1.size) := by simp [wsz]

theorem great_is (A : HP) (a : Option Addr) (cap : Nat) (ws : List Wr) (hA : SlIs A encW 3 a ws.length ws) (hbig : ws.length < 9223372036854775807) (hw0 : ∀ w ∈ ws, w.1.size ≤ 140737488355328 ∧ w.2.1.size ≤ 140737488355328) :
    Fnc Tryz.prog 12 [.slice a ws.length cap] [A] (fun v L' => (∃ b : Bool, v = .bool b ∧ (b = false → memBad ws = false ∧ ws.length ≤ 8192)) ∧ L' = [A]) := by
  refine Sl.fn_intro Tryz.func12 rfl Tryz.ntmps12 rfl (fun g F => ?_)
  simp only [Sl.slotsOf, List.cons_append, List.nil_append, Nat.reduceAdd]
  refine Sl.sq ?_
  refine Sl.rg ?_
  refine Sl.asg rfl rfl ?_
  refine Sl.en ?_
  refine Sl.thenN ?_
  refine Sl.sq ?_
  refine Sl.rg ?_
  refine Sl.asg rfl rfl ?_
  refine Sl.en ?_
  refine Sl.thenN ?_
  refine Sl.sq ?_
  refine Sl.sq ?_
  refine Sl.rg ?_
  refine Sl.mv rfl rfl ?_
  refine Sl.lnL rfl rfl ?_
  refine Sl.mv rfl rfl ?_
  refine Sl.en ?_
  refine Sl.thenN ?_
  refine Sl.bl ?_
  refine Sl.lp0 (fun m s L => ∃ j : Nat, j ≤ ws.length ∧ m = ws.length - j ∧ wsz (ws.take j) ≤ 8192 ∧ j ≤ wsz (ws.take j) ∧
      s = [(8, .int .i64 (j : Nat)), (7, .int .i64 (ws.length : Nat)), (6, .slice a ws.length cap), (0, .slice a ws.length cap), (3, .int .i64 (wsz (ws.take j) : Nat))] ∧ L = [A, F])
      ws.length _ _ ⟨0, Nat.zero_le _, rfl, by simp [wsz], by simp, rfl, rfl⟩ ⟨rfl, rfl, rfl, rfl, rfl, trivial⟩ Sl.perm ?_
  rintro m s L ⟨j, hj, rfl, hn1, hn2, rfl, rfl⟩
  refine Sl.sq ?_
  refine Sl.rg ?_
  refine Sl.lss rfl rfl rfl ?_
  refine Sl.en ?_
  refine Sl.thenN ?_
  refine Sl.sq ?_
  refine Sl.cdP rfl (fun h9 => ?_) (fun h9 => ?_)
  · skip
    refine Sl.sk ?_
    refine Sl.thenN ?_
    refine Sl.sq ?_
    refine Sl.bl ?_
    refine Sl.sq ?_
    obtain ⟨⟨k, vl, gn⟩, hw⟩ : ∃ w : Wr, ws[j]? = some w := ⟨ws[j]'(by omega), by simp⟩
    refine Sl.slAddr A hA (by omega) (fun ab ao ha => ?_)
    subst ha
    have hk1 := (hw0 _ (List.mem_of_getElem? hw)).1
    have hk2 := (hw0 _ (List.mem_of_getElem? hw)).2
    simp only at hk1 hk2
    have e1 : ((k, vl, gn) : Wr).1.size = k.size := rfl
    have e2 : ((k, vl, gn) : Wr).2.1.size = vl.size := rfl
    refine Sl.rg ?_
    refine Sl.ia rfl rfl rfl (by omega) ?_
    refine Sl.ldEa A hA j hw rfl rfl rfl ?_
    refine Sl.al rfl (fun b5 => ?_)
    refine Sl.sta rfl rfl rfl (by simp [encW, Value.oneCell']) rfl ?_
    refine Sl.en ?_
    refine Sl.thenN ?_
    refine Sl.sq ?_
    refine Sl.rg ?_
    refine Sl.mv rfl rfl ?_
    refine Sl.fa rfl rfl ?_
    refine Sl.ld rfl rfl rfl ?_
    refine Sl.lnS rfl rfl ?_
    refine Sl.add rfl rfl rfl (Sl.fits_i64 (by omega)) ?_
    refine Sl.fa rfl rfl ?_
    refine Sl.ld rfl rfl rfl ?_
    refine Sl.lnS rfl rfl ?_
    refine Sl.add rfl rfl rfl (Sl.fits_i64 (by omega)) ?_
    refine Sl.add rfl rfl rfl (Sl.fits_i64 (by omega)) ?_
    refine Sl.asg rfl rfl ?_
    refine Sl.en ?_
    refine Sl.thenN ?_
    refine Sl.sq ?_
    refine Sl.rg ?_
    refine Sl.mv rfl rfl ?_
    refine Sl.gtr rfl rfl rfl ?_
    refine Sl.en ?_
    refine Sl.thenN ?_
    refine Sl.cdP rfl (fun h23 => ?_) (fun h23 => ?_)
    · skip
      refine Sl.sq ?_
      refine Sl.rg ?_
      refine Sl.asg rfl rfl ?_
      refine Sl.en ?_
      refine Sl.thenN ?_
      refine Sl.rt ?_
      refine Sl.blkR ?_
      refine Sl.thenR ?_
      refine Sl.thenR ?_
      refine Sl.blkR ?_
      refine Sl.thenR ?_
      exact Sl.ret1 [A] Tryz.results12 rfl ⟨⟨true, rfl, fun h => (by cases h)⟩, rfl⟩ Sl.perm
    · skip
      refine Sl.sk ?_
      refine Sl.blkN ?_
      refine Sl.thenN ?_
      refine Sl.rg ?_
      refine Sl.add rfl rfl rfl (Sl.fits_i64 (by omega)) ?_
      refine Sl.mv rfl rfl ?_
      refine Sl.en ?_
      refine Sl.thenN ?_
      exact Sl.again (m' := ws.length - (j + 1)) ⟨j + 1, by omega, rfl, by rw [take_snoc hw, wsz_snoc]; simp only; omega, by rw [take_snoc hw, wsz_snoc]; simp only; omega, rfl, rfl⟩ (by omega) ⟨rfl, rfl, rfl, rfl, by (simp only [Sl.look]; rw [take_snoc hw, wsz_snoc]; simp; rfl), trivial⟩ Sl.perm
  · skip
    refine Sl.xi ?_
    refine Sl.thenE ?_
    refine Sl.thenE ?_
    refine Sl.blkE ?_
    refine Sl.thenN ?_
    refine Sl.sq ?_
    refine Sl.rg ?_
    refine Sl.mv rfl rfl ?_
    obtain rfl : j = ws.length := by omega
    rw [List.take_length] at hn1 hn2
    refine Sl.cl (long_is A a cap ws hA hbig) rfl rfl ?_
    rintro _ _ ⟨rfl, rfl⟩
    simp only [List.cons_append, List.nil_append]
    refine Sl.asg rfl rfl ?_
    refine Sl.en ?_
    refine Sl.thenN ?_
    refine Sl.rt ?_
    exact Sl.ret1 [A] Tryz.results12 rfl ⟨⟨_, rfl, fun h => ⟨h, by omega⟩⟩, rfl⟩ Sl.perm
end Go.Proofs.YtdcjlbfmdkgcpaaGreatDoor
