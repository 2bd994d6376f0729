/- The reference for pairs. -/
import Derived.Test.YtdcjlbfmdkgcpaaGreatDoorProg
import Derived.Test.YtdcjlbfmdkgcpaaGreatDoorLi
set_option linter.unusedSimpArgs false
set_option linter.unusedVariables false
namespace Go.Proofs.YtdcjlbfmdkgcpaaGreatDoor
open Go.Sl
instance tyR8Ag32 : Sl.Ag Tryz.prog 32 3 := ⟨Tryz.isAgg32, Tryz.sizeOf32⟩
instance tyR8Ag57 : Sl.Ag Tryz.prog 57 2 := ⟨Tryz.isAgg57, Tryz.sizeOf57⟩
instance tyR8By57 : Sl.ByT Tryz.prog 57 32 := ⟨fun w => ⟨_, Tryz.typeInfo57 w, rfl⟩⟩
instance tyR8Fa32_0 : Sl.Fa Tryz.prog 32 0 0 := Sl.Fa.mk' Tryz.runUnderlying32 rfl rfl rfl Tryz.sizeOf9 (by decide)
instance tyR8Fa32_1 : Sl.Fa Tryz.prog 32 1 1 := Sl.Fa.mk' Tryz.runUnderlying32 rfl rfl rfl Tryz.sizeOf9 (by decide)
instance tyR8Fa32_2 : Sl.Fa Tryz.prog 32 2 2 := Sl.Fa.mk' Tryz.runUnderlying32 rfl rfl rfl Tryz.sizeOf4 (by decide)
instance tyR8Fa57_0 : Sl.Fa Tryz.prog 57 0 0 := Sl.Fa.mk' Tryz.runUnderlying57 rfl rfl rfl Tryz.sizeOf9 (by decide)
instance tyR8Sc4 : Sl.Sc Tryz.prog 4 := ⟨Tryz.isAgg4, Tryz.sizeOf4⟩
instance tyR8Sc9 : Sl.Sc Tryz.prog 9 := ⟨Tryz.isAgg9, Tryz.sizeOf9⟩
instance tyR8Sl43 : Sl.SlT Tryz.prog 43 57 2 := ⟨Tryz.runUnderlying43, Tryz.sizeOf57⟩
instance tyR8Ss57 : Sl.StT Tryz.prog 57 [(0, 1), (1, 1)] := ⟨⟨_, Tryz.runUnderlying57, fun w => by simp [Tryz.sizeOf9]⟩⟩
instance tyR8Su43 : Sl.SlU Tryz.prog 43 := ⟨.inl ⟨_, Tryz.runUnderlying43⟩⟩
instance tyR8Zv57 : Sl.Zv Tryz.prog 57 (.agg [.string ⟨#[]⟩, .string ⟨#[]⟩].toArray) := ⟨Tryz.zeroValue57⟩
theorem doneStep_len (w : Wr) (s : Prs × Bool) (p : Str × Str) : (doneStep w s p).1.length ≤ s.1.length + 2 := by
  unfold doneStep
  by_cases h : (!s.2 && !slt p.1 w.1) = true
  · simp only [h, if_true]; split <;> simp
  · simp only [h, if_false]; split <;> simp

theorem doneFold_len (w : Wr) : ∀ (l : Prs) (s : Prs × Bool), (l.foldl (doneStep w) s).1.length ≤ s.1.length + 2 * l.length
  | [], s => by simp
  | p :: l, s => by
    have h1 := doneFold_len w l (doneStep w s p)
    have h2 := doneStep_len w s p
    simp only [List.foldl_cons, List.length_cons]; omega
theorem fold_snoc {w : Wr} {pl : Prs} {j : Nat} {p : Str × Str} {s : Prs × Bool} (hw : pl[j]? = some p) : (pl.take (j + 1)).foldl (doneStep w) s = doneStep w ((pl.take j).foldl (doneStep w) s) p := by
  rw [take_snoc hw, List.foldl_append]; rfl

theorem done_is (A : HP) (a0 : Option Addr) (cap0 : Nat) (pl : Prs) (w : Wr) (hA : SlIs A encP 2 a0 pl.length pl) (hbig : pl.length ≤ 536870912) :
    Fnc Tryz.prog 24 [.slice a0 pl.length cap0, .agg (encW w).toArray] [A] (fun v L' => ∃ a cap ct, v = .slice a (doneP pl w).length cap ∧ L' = [A, osl ct encP 2 a cap (doneP pl w)]) := by
  obtain ⟨k, vl, gn⟩ := w
  refine Sl.fn_intro Tryz.func24 rfl Tryz.ntmps24 rfl (fun g F => ?_)
  simp only [Sl.slotsOf, List.cons_append, List.nil_append, Nat.reduceAdd]
  refine Sl.sq ?_
  refine Sl.rg ?_
  refine Sl.bxa (vs := [.string k, .string vl, .bool gn]) rfl rfl (fun b3 => ?_)
  refine Sl.asg rfl rfl ?_
  refine Sl.en ?_
  refine Sl.thenN ?_
  refine Sl.sq ?_
  refine Sl.rg ?_
  refine Sl.asg rfl rfl ?_
  refine Sl.en ?_
  refine Sl.thenN ?_
  refine Sl.sq ?_
  refine Sl.rg ?_
  refine Sl.fa rfl rfl ?_
  refine Sl.ld rfl rfl rfl ?_
  refine Sl.asg rfl rfl ?_
  refine Sl.en ?_
  refine Sl.thenN ?_
  refine Sl.sq ?_
  refine Sl.sq ?_
  refine Sl.rg ?_
  refine Sl.mv rfl rfl ?_
  refine Sl.lnL rfl rfl ?_
  refine Sl.mv rfl rfl ?_
  refine Sl.en ?_
  refine Sl.thenN ?_
  refine Sl.bl ?_
  refine Sl.nilO 57 encP 2 ?_
  refine Sl.lp0 (fun m s L => ∃ (j : Nat) (o : Prs) (d : Bool) (a : Option Addr) (cap ct : Nat), j ≤ pl.length ∧ m = pl.length - j ∧ (o, d) = (pl.take j).foldl (doneStep (k, vl, gn)) ([], gn) ∧
      s = [(13, .int .i64 (j : Nat)), (12, .int .i64 (pl.length : Nat)), (11, .slice a0 pl.length cap0), (5, .slice a o.length cap), (6, .bool d), (3, .pointer (some ⟨b3, 0, none⟩))] ∧ L = [A, osl ct encP 2 a cap o, blk b3 32 [.string k, .string vl, .bool gn], F])
      pl.length _ _ ⟨0, [], gn, none, 0, 57, Nat.zero_le _, rfl, rfl, rfl, rfl⟩ ⟨rfl, rfl, rfl, rfl, rfl, rfl, trivial⟩ Sl.perm ?_
  rintro m s L ⟨j, o, d, a, cap, ct, hj, rfl, ho, rfl, rfl⟩
  have hol : o.length ≤ 2 * pl.length := by
    have := doneFold_len (k, vl, gn) (pl.take j) ([], gn)
    rw [← ho] at this
    simp at this; omega
  refine Sl.sq ?_
  refine Sl.rg ?_
  refine Sl.lss rfl rfl rfl ?_
  refine Sl.en ?_
  refine Sl.thenN ?_
  refine Sl.sq ?_
  refine Sl.cdP rfl (fun h14 => ?_) (fun h14 => ?_)
  · skip
    refine Sl.sk ?_
    refine Sl.thenN ?_
    refine Sl.sq ?_
    refine Sl.bl ?_
    refine Sl.sq ?_
    obtain ⟨p, hw⟩ : ∃ p, pl[j]? = some p := ⟨pl[j]'(by omega), by simp⟩
    refine Sl.slAddr A hA (by omega) (fun ab ao ha => ?_)
    subst ha
    refine Sl.rg ?_
    refine Sl.ia rfl rfl rfl (by omega) ?_
    refine Sl.ldEa A hA j hw rfl rfl rfl ?_
    refine Sl.al rfl (fun b8 => ?_)
    refine Sl.sta rfl rfl rfl (by simp [encP, Value.oneCell']) rfl ?_
    refine Sl.en ?_
    refine Sl.thenN ?_
    refine Sl.sq ?_
    refine Sl.sq ?_
    refine Sl.rg ?_
    refine Sl.mv rfl rfl ?_
    refine Sl.nt rfl rfl ?_
    refine Sl.mv rfl rfl ?_
    refine Sl.split (t := 19) rfl (fun h19 => ?_) (fun h19 => ?_)
    · skip
      have hd : d = false := by simpa using h19
      refine Sl.gdo rfl rfl ?_
      refine Sl.fa rfl rfl ?_
      refine Sl.gdo rfl rfl ?_
      refine Sl.ld rfl rfl rfl ?_
      refine Sl.gdo rfl rfl ?_
      refine Sl.fa rfl rfl ?_
      refine Sl.gdo rfl rfl ?_
      refine Sl.ld rfl rfl rfl ?_
      refine Sl.gdo rfl rfl ?_
      refine Sl.geqS rfl rfl rfl ?_
      refine Sl.pk rfl rfl rfl ?_
      refine Sl.en ?_
      refine Sl.thenN ?_
      refine Sl.cd rfl (fun h25 => ?_) (fun h25 => ?_)
      · skip
        refine Sl.sq ?_
        refine Sl.rg ?_
        refine Sl.mv rfl rfl ?_
        refine Sl.fa rfl rfl ?_
        refine Sl.ld rfl rfl rfl ?_
        refine Sl.fa rfl rfl ?_
        refine Sl.ld rfl rfl rfl ?_
        refine Sl.bd rfl rfl rfl ?_
        refine Sl.bs1a (by rfl) (by decide) (by decide) rfl rfl (by rfl) (fun b32 => ?_)
        refine Sl.apO (ys := [(k, vl)]) (enc := encP) (sz := 2) ct rfl rfl rfl rfl (src_blk (cs := encP (k, vl)) rfl) (fun _ _ => rfl) rfl (fun y hy v' hv' => ?_) (by rfl) (by decide) (by simp; omega) (fun a1 cap1 c1 => ?_)
        · simp at hy; subst hy; simp [encP] at hv'; rcases hv' with rfl | rfl <;> rfl
        refine Sl.asg rfl rfl ?_
        refine Sl.en ?_
        refine Sl.thenN ?_
        refine Sl.rg ?_
        refine Sl.asg rfl rfl ?_
        refine Sl.en ?_
        refine Sl.thenN ?_
        refine Sl.sq ?_
        refine Sl.rg ?_
        refine Sl.fa rfl rfl ?_
        refine Sl.ld rfl rfl rfl ?_
        refine Sl.fa rfl rfl ?_
        refine Sl.ld rfl rfl rfl ?_
        refine Sl.neqS rfl rfl rfl ?_
        refine Sl.en ?_
        refine Sl.thenN ?_
        refine Sl.cdP rfl (fun h38 => ?_) (fun h38 => ?_)
        · skip
          refine Sl.rg ?_
          refine Sl.mv rfl rfl ?_
          refine Sl.lda rfl rfl rfl ?_
          refine Sl.bs1a (by rfl) (by decide) (by decide) rfl rfl (by rfl) (fun b41 => ?_)
          refine Sl.apO (ys := [(p.1, p.2)]) (enc := encP) (sz := 2) c1 rfl rfl rfl rfl (src_blk (cs := encP (p.1, p.2)) rfl) (fun _ _ => rfl) rfl (fun y hy v' hv' => ?_) (by rfl) (by decide) (by simp; omega) (fun a2 cap2 c2 => ?_)
          · simp at hy; subst hy; simp [encP] at hv'; rcases hv' with rfl | rfl <;> rfl
          refine Sl.asg rfl rfl ?_
          refine Sl.en ?_
          refine Sl.blkN ?_
          refine Sl.thenN ?_
          refine Sl.rg ?_
          refine Sl.add rfl rfl rfl (Sl.fits_i64 (by omega)) ?_
          refine Sl.mv rfl rfl ?_
          refine Sl.en ?_
          refine Sl.thenN ?_
          have hst : (o ++ [(k, vl)] ++ [(p.1, p.2)], true) = doneStep (k, vl, gn) (o, d) p := by clear ho; subst hd; simp_all [doneStep]
          exact Sl.again (m' := pl.length - (j + 1)) ⟨j + 1, o ++ [(k, vl)] ++ [(p.1, p.2)], true, a2, cap2, c2, by omega, rfl, by rw [fold_snoc hw, ← ho]; exact hst, rfl, rfl⟩ (by omega) ⟨rfl, rfl, rfl, rfl, rfl, rfl, trivial⟩ Sl.perm
        · skip
          refine Sl.sk ?_
          refine Sl.blkN ?_
          refine Sl.thenN ?_
          refine Sl.rg ?_
          refine Sl.add rfl rfl rfl (Sl.fits_i64 (by omega)) ?_
          refine Sl.mv rfl rfl ?_
          refine Sl.en ?_
          refine Sl.thenN ?_
          have hst : (o ++ [(k, vl)], true) = doneStep (k, vl, gn) (o, d) p := by clear ho; subst hd; simp_all [doneStep]
          exact Sl.again (m' := pl.length - (j + 1)) ⟨j + 1, o ++ [(k, vl)], true, a1, cap1, c1, by omega, rfl, by rw [fold_snoc hw, ← ho]; exact hst, rfl, rfl⟩ (by omega) ⟨rfl, rfl, rfl, rfl, rfl, rfl, trivial⟩ Sl.perm
      · skip
        refine Sl.sk ?_
        refine Sl.thenN ?_
        refine Sl.sq ?_
        refine Sl.rg ?_
        refine Sl.fa rfl rfl ?_
        refine Sl.ld rfl rfl rfl ?_
        refine Sl.fa rfl rfl ?_
        refine Sl.ld rfl rfl rfl ?_
        refine Sl.neqS rfl rfl rfl ?_
        refine Sl.en ?_
        refine Sl.thenN ?_
        refine Sl.cdP rfl (fun h38 => ?_) (fun h38 => ?_)
        · skip
          refine Sl.rg ?_
          refine Sl.mv rfl rfl ?_
          refine Sl.lda rfl rfl rfl ?_
          refine Sl.bs1a (by rfl) (by decide) (by decide) rfl rfl (by rfl) (fun b41 => ?_)
          refine Sl.apO (ys := [(p.1, p.2)]) (enc := encP) (sz := 2) ct rfl rfl rfl rfl (src_blk (cs := encP (p.1, p.2)) rfl) (fun _ _ => rfl) rfl (fun y hy v' hv' => ?_) (by rfl) (by decide) (by simp; omega) (fun a2 cap2 c2 => ?_)
          · simp at hy; subst hy; simp [encP] at hv'; rcases hv' with rfl | rfl <;> rfl
          refine Sl.asg rfl rfl ?_
          refine Sl.en ?_
          refine Sl.blkN ?_
          refine Sl.thenN ?_
          refine Sl.rg ?_
          refine Sl.add rfl rfl rfl (Sl.fits_i64 (by omega)) ?_
          refine Sl.mv rfl rfl ?_
          refine Sl.en ?_
          refine Sl.thenN ?_
          have hst : (o ++ [(p.1, p.2)], d) = doneStep (k, vl, gn) (o, d) p := by clear ho; subst hd; simp_all [doneStep]
          exact Sl.again (m' := pl.length - (j + 1)) ⟨j + 1, o ++ [(p.1, p.2)], d, a2, cap2, c2, by omega, rfl, by rw [fold_snoc hw, ← ho]; exact hst, rfl, rfl⟩ (by omega) ⟨rfl, rfl, rfl, rfl, rfl, rfl, trivial⟩ Sl.perm
        · skip
          refine Sl.sk ?_
          refine Sl.blkN ?_
          refine Sl.thenN ?_
          refine Sl.rg ?_
          refine Sl.add rfl rfl rfl (Sl.fits_i64 (by omega)) ?_
          refine Sl.mv rfl rfl ?_
          refine Sl.en ?_
          refine Sl.thenN ?_
          have hst : (o, d) = doneStep (k, vl, gn) (o, d) p := by clear ho; subst hd; simp_all [doneStep]
          exact Sl.again (m' := pl.length - (j + 1)) ⟨j + 1, o, d, a, cap, ct, by omega, rfl, by rw [fold_snoc hw, ← ho]; exact hst, rfl, rfl⟩ (by omega) ⟨rfl, rfl, rfl, rfl, rfl, rfl, trivial⟩ Sl.perm
    · skip
      have hd : d = true := by simpa using h19
      refine Sl.gskip rfl rfl rfl rfl rfl rfl ?_
      refine Sl.gskip rfl rfl rfl rfl rfl rfl ?_
      refine Sl.gskip rfl rfl rfl rfl rfl rfl ?_
      refine Sl.gskip rfl rfl rfl rfl rfl rfl ?_
      refine Sl.gskip rfl rfl rfl rfl rfl rfl ?_
      refine Sl.pk rfl rfl rfl ?_
      refine Sl.en ?_
      refine Sl.thenN ?_
      refine Sl.cdF rfl ?_
      refine Sl.sk ?_
      refine Sl.thenN ?_
      refine Sl.sq ?_
      refine Sl.rg ?_
      refine Sl.fa rfl rfl ?_
      refine Sl.ld rfl rfl rfl ?_
      refine Sl.fa rfl rfl ?_
      refine Sl.ld rfl rfl rfl ?_
      refine Sl.neqS rfl rfl rfl ?_
      refine Sl.en ?_
      refine Sl.thenN ?_
      refine Sl.cdP rfl (fun h38 => ?_) (fun h38 => ?_)
      · skip
        refine Sl.rg ?_
        refine Sl.mv rfl rfl ?_
        refine Sl.lda rfl rfl rfl ?_
        refine Sl.bs1a (by rfl) (by decide) (by decide) rfl rfl (by rfl) (fun b41 => ?_)
        refine Sl.apO (ys := [(p.1, p.2)]) (enc := encP) (sz := 2) ct rfl rfl rfl rfl (src_blk (cs := encP (p.1, p.2)) rfl) (fun _ _ => rfl) rfl (fun y hy v' hv' => ?_) (by rfl) (by decide) (by simp; omega) (fun a2 cap2 c2 => ?_)
        · simp at hy; subst hy; simp [encP] at hv'; rcases hv' with rfl | rfl <;> rfl
        refine Sl.asg rfl rfl ?_
        refine Sl.en ?_
        refine Sl.blkN ?_
        refine Sl.thenN ?_
        refine Sl.rg ?_
        refine Sl.add rfl rfl rfl (Sl.fits_i64 (by omega)) ?_
        refine Sl.mv rfl rfl ?_
        refine Sl.en ?_
        refine Sl.thenN ?_
        have hst : (o ++ [(p.1, p.2)], d) = doneStep (k, vl, gn) (o, d) p := by clear ho; subst hd; simp_all [doneStep]
        exact Sl.again (m' := pl.length - (j + 1)) ⟨j + 1, o ++ [(p.1, p.2)], d, a2, cap2, c2, by omega, rfl, by rw [fold_snoc hw, ← ho]; exact hst, rfl, rfl⟩ (by omega) ⟨rfl, rfl, rfl, rfl, rfl, rfl, trivial⟩ Sl.perm
      · skip
        refine Sl.sk ?_
        refine Sl.blkN ?_
        refine Sl.thenN ?_
        refine Sl.rg ?_
        refine Sl.add rfl rfl rfl (Sl.fits_i64 (by omega)) ?_
        refine Sl.mv rfl rfl ?_
        refine Sl.en ?_
        refine Sl.thenN ?_
        have hst : (o, d) = doneStep (k, vl, gn) (o, d) p := by clear ho; subst hd; simp_all [doneStep]
        exact Sl.again (m' := pl.length - (j + 1)) ⟨j + 1, o, d, a, cap, ct, by omega, rfl, by rw [fold_snoc hw, ← ho]; exact hst, rfl, rfl⟩ (by omega) ⟨rfl, rfl, rfl, rfl, rfl, rfl, trivial⟩ Sl.perm
  · skip
    refine Sl.xi ?_
    refine Sl.thenE ?_
    refine Sl.thenE ?_
    refine Sl.blkE ?_
    refine Sl.thenN ?_
    refine Sl.sq ?_
    refine Sl.sq ?_
    have hall : (o, d) = pl.foldl (doneStep (k, vl, gn)) ([], gn) := by rw [ho, List.take_of_length_le (by omega)]
    refine Sl.rg ?_
    refine Sl.mv rfl rfl ?_
    refine Sl.nt rfl rfl ?_
    refine Sl.en ?_
    refine Sl.thenN ?_
    refine Sl.cd rfl (fun h45 => ?_) (fun h45 => ?_)
    · skip
      have hd : d = false := by simpa using h45
      refine Sl.rg ?_
      refine Sl.mv rfl rfl ?_
      refine Sl.fa rfl rfl ?_
      refine Sl.ld rfl rfl rfl ?_
      refine Sl.fa rfl rfl ?_
      refine Sl.ld rfl rfl rfl ?_
      refine Sl.bd rfl rfl rfl ?_
      refine Sl.bs1a (by rfl) (by decide) (by decide) rfl rfl (by rfl) (fun b52 => ?_)
      refine Sl.apO (ys := [(k, vl)]) (enc := encP) (sz := 2) ct rfl rfl rfl rfl (src_blk (cs := encP (k, vl)) rfl) (fun _ _ => rfl) rfl (fun y hy v' hv' => ?_) (by rfl) (by decide) (by simp; omega) (fun a1 cap1 c1 => ?_)
      · simp at hy; subst hy; simp [encP] at hv'; rcases hv' with rfl | rfl <;> rfl
      refine Sl.asg rfl rfl ?_
      refine Sl.en ?_
      refine Sl.thenN ?_
      refine Sl.sq ?_
      refine Sl.rg ?_
      refine Sl.mv rfl rfl ?_
      refine Sl.asg rfl rfl ?_
      refine Sl.en ?_
      refine Sl.thenN ?_
      refine Sl.rt ?_
      have hdone : doneP pl (k, vl, gn) = o ++ [(k, vl)] := by subst hd; unfold doneP; simp only [← hall]; rfl
      rw [hdone]
      exact Sl.ret1 [A, osl c1 encP 2 a1 cap1 (o ++ [(k, vl)])] Tryz.results24 rfl ⟨_, _, _, rfl, rfl⟩ Sl.perm
    · skip
      have hd : d = true := by simpa using h45
      refine Sl.sk ?_
      refine Sl.thenN ?_
      refine Sl.sq ?_
      refine Sl.rg ?_
      refine Sl.mv rfl rfl ?_
      refine Sl.asg rfl rfl ?_
      refine Sl.en ?_
      refine Sl.thenN ?_
      refine Sl.rt ?_
      have hdone : doneP pl (k, vl, gn) = o := by subst hd; unfold doneP; simp only [← hall]; rfl
      rw [hdone]
      exact Sl.ret1 [A, osl ct encP 2 a cap o] Tryz.results24 rfl ⟨_, _, _, rfl, rfl⟩ Sl.perm
end Go.Proofs.YtdcjlbfmdkgcpaaGreatDoor
