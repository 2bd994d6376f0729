/- References for pairs and names. -/
import Derived.Test.YtdcjlbfmdkgcpaaGreatDoorProg
import Derived.Test.YtdcjlbfmdkgcpaaGreatDoorR8
set_option linter.unusedSimpArgs false
set_option linter.unusedVariables false
namespace Go.Proofs.YtdcjlbfmdkgcpaaGreatDoor
open Go.Sl
instance tyR9Ag24 : Sl.Ag Tryz.prog 24 33 := ⟨Tryz.isAgg24, Tryz.sizeOf24⟩
instance tyR9Ag32 : Sl.Ag Tryz.prog 32 3 := ⟨Tryz.isAgg32, Tryz.sizeOf32⟩
instance tyR9Ag57 : Sl.Ag Tryz.prog 57 2 := ⟨Tryz.isAgg57, Tryz.sizeOf57⟩
instance tyR9By32 : Sl.ByT Tryz.prog 32 40 := ⟨fun w => ⟨_, Tryz.typeInfo32 w, rfl⟩⟩
instance tyR9By57 : Sl.ByT Tryz.prog 57 32 := ⟨fun w => ⟨_, Tryz.typeInfo57 w, rfl⟩⟩
instance tyR9Ca22 : Sl.Ca Tryz.prog 22 := ⟨Tryz.call22⟩
instance tyR9Ca24 : Sl.Ca Tryz.prog 24 := ⟨Tryz.call24⟩
instance tyR9Ca27 : Sl.Ca Tryz.prog 27 := ⟨Tryz.call27⟩
instance tyR9Ca38 : Sl.Ca Tryz.prog 38 := ⟨Tryz.call38⟩
instance tyR9Ca41 : Sl.Ca Tryz.prog 41 := ⟨Tryz.call41⟩
instance tyR9Fa32_0 : Sl.Fa Tryz.prog 32 0 0 := Sl.Fa.mk' Tryz.runUnderlying32 rfl rfl rfl Tryz.sizeOf9 (by decide)
instance tyR9Fa32_1 : Sl.Fa Tryz.prog 32 1 1 := Sl.Fa.mk' Tryz.runUnderlying32 rfl rfl rfl Tryz.sizeOf9 (by decide)
instance tyR9Fa57_0 : Sl.Fa Tryz.prog 57 0 0 := Sl.Fa.mk' Tryz.runUnderlying57 rfl rfl rfl Tryz.sizeOf9 (by decide)
instance tyR9Fa57_1 : Sl.Fa Tryz.prog 57 1 1 := Sl.Fa.mk' Tryz.runUnderlying57 rfl rfl rfl Tryz.sizeOf9 (by decide)
instance tyR9Sc9 : Sl.Sc Tryz.prog 9 := ⟨Tryz.isAgg9, Tryz.sizeOf9⟩
instance tyR9Sl41 : Sl.SlT Tryz.prog 41 32 3 := ⟨Tryz.runUnderlying41, Tryz.sizeOf32⟩
instance tyR9Sl43 : Sl.SlT Tryz.prog 43 57 2 := ⟨Tryz.runUnderlying43, Tryz.sizeOf57⟩
instance tyR9St9 : Sl.StrT Tryz.prog 9 := ⟨Tryz.runUnderlying9⟩
instance tyR9Ss24 : Sl.StT Tryz.prog 24 [(0, 1), (1, 32)] := ⟨⟨_, Tryz.runUnderlying24, fun w => by simp [Tryz.sizeOf22, Tryz.sizeOf5]⟩⟩
instance tyR9Zv24 : Sl.Zv Tryz.prog 24 (.agg [.int .u8 0, .int .u8 0, .int .u8 0, .int .u8 0, .int .u8 0, .int .u8 0, .int .u8 0, .int .u8 0, .int .u8 0, .int .u8 0, .int .u8 0, .int .u8 0, .int .u8 0, .int .u8 0, .int .u8 0, .int .u8 0, .int .u8 0, .int .u8 0, .int .u8 0, .int .u8 0, .int .u8 0, .int .u8 0, .int .u8 0, .int .u8 0, .int .u8 0, .int .u8 0, .int .u8 0, .int .u8 0, .int .u8 0, .int .u8 0, .int .u8 0, .int .u8 0, .int .u8 0].toArray) := ⟨Tryz.zeroValue24⟩
instance tyR9Zv32 : Sl.Zv Tryz.prog 32 (.agg [.string ⟨#[]⟩, .string ⟨#[]⟩, .bool false].toArray) := ⟨Tryz.zeroValue32⟩
instance tyR9Zv57 : Sl.Zv Tryz.prog 57 (.agg [.string ⟨#[]⟩, .string ⟨#[]⟩].toArray) := ⟨Tryz.zeroValue57⟩
theorem drop_at {α : Type} {l : List α} {j : Nat} {x : α} (h : l[j]? = some x) : l.drop j = x :: l.drop (j + 1) := by
  obtain ⟨hlt, e⟩ := List.getElem?_eq_some_iff.1 h
  rw [List.drop_eq_getElem_cons hlt, e]

theorem long_is (A : HP) (a : Option Addr) (cap : Nat) (ws : List Wr) (hA : SlIs A encW 3 a ws.length ws) (hbig : ws.length < 9223372036854775807) :
    Fnc Tryz.prog 36 [.slice a ws.length cap] [A] (fun v L' => v = .bool (memBad ws) ∧ L' = [A]) := by
  refine Sl.fn_intro Tryz.func36 rfl Tryz.ntmps36 rfl (fun g F => ?_)
  simp only [Sl.slotsOf, List.cons_append, List.nil_append, Nat.reduceAdd]
  refine Sl.sq ?_
  refine Sl.rg ?_
  refine Sl.asg rfl rfl ?_
  refine Sl.en ?_
  refine Sl.thenN ?_
  refine Sl.sq ?_
  refine Sl.sq ?_
  refine Sl.rg ?_
  refine Sl.mv rfl rfl ?_
  refine Sl.lnL rfl rfl ?_
  refine Sl.mv rfl rfl ?_
  refine Sl.en ?_
  refine Sl.thenN ?_
  refine Sl.bl ?_
  refine Sl.lp0 (fun m s L => ∃ j : Nat, j ≤ ws.length ∧ m = ws.length - j ∧ (ws.take j).any badW = false ∧
      s = [(7, .int .i64 (j : Nat)), (6, .int .i64 (ws.length : Nat)), (5, .slice a ws.length cap), (0, .slice a ws.length cap)] ∧ L = [A, F])
      ws.length _ _ ⟨0, Nat.zero_le _, rfl, rfl, rfl, rfl⟩ ⟨rfl, rfl, rfl, rfl, trivial⟩ Sl.perm ?_
  rintro m s L ⟨j, hj, rfl, hno, rfl, rfl⟩
  refine Sl.sq ?_
  refine Sl.rg ?_
  refine Sl.lss rfl rfl rfl ?_
  refine Sl.en ?_
  refine Sl.thenN ?_
  refine Sl.sq ?_
  refine Sl.cdP rfl (fun h8 => ?_) (fun h8 => ?_)
  · skip
    refine Sl.sk ?_
    refine Sl.thenN ?_
    refine Sl.sq ?_
    refine Sl.bl ?_
    refine Sl.sq ?_
    obtain ⟨⟨k, vl, gn⟩, hw⟩ : ∃ w : Wr, ws[j]? = some w := ⟨ws[j]'(by omega), by simp⟩
    refine Sl.slAddr A hA (by omega) (fun ab ao ha => ?_)
    subst ha
    refine Sl.rg ?_
    refine Sl.ia rfl rfl rfl (by omega) ?_
    refine Sl.ldEa A hA j hw rfl rfl rfl ?_
    refine Sl.al rfl (fun b4 => ?_)
    refine Sl.sta rfl rfl rfl (by simp [encW, Value.oneCell']) rfl ?_
    refine Sl.en ?_
    refine Sl.thenN ?_
    refine Sl.sq ?_
    refine Sl.rg ?_
    refine Sl.fa rfl rfl ?_
    refine Sl.ld rfl rfl rfl ?_
    refine Sl.lnS rfl rfl ?_
    refine Sl.gtr rfl rfl rfl ?_
    refine Sl.mv rfl rfl ?_
    refine Sl.split (t := 15) rfl (fun h15 => ?_) (fun h15 => ?_)
    · skip
      have hk : 48 < k.size := by simp at h15; omega
      refine Sl.gskip rfl rfl rfl rfl rfl rfl ?_
      refine Sl.gskip rfl rfl rfl rfl rfl rfl ?_
      refine Sl.gskip rfl rfl rfl rfl rfl rfl ?_
      refine Sl.gskip rfl rfl rfl rfl rfl rfl ?_
      refine Sl.pk rfl rfl rfl ?_
      refine Sl.en ?_
      refine Sl.thenN ?_
      refine Sl.cdT rfl ?_
      refine Sl.sq ?_
      refine Sl.rg ?_
      refine Sl.asg rfl rfl ?_
      refine Sl.en ?_
      refine Sl.thenN ?_
      refine Sl.rt ?_
      refine Sl.blkR ?_
      refine Sl.thenR ?_
      refine Sl.thenR ?_
      refine Sl.blkR ?_
      refine Sl.thenR ?_
      exact Sl.ret1 [A] Tryz.results36 rfl ⟨by rw [show memBad ws = true from by (simp only [memBad, any_of_at hw (show badW (k, vl, gn) = true from by simp [badW, hk])]; simp)], rfl⟩ Sl.perm
    · skip
      have hk : ¬ 48 < k.size := by simp at h15; omega
      refine Sl.gdo rfl rfl ?_
      refine Sl.fa rfl rfl ?_
      refine Sl.gdo rfl rfl ?_
      refine Sl.ld rfl rfl rfl ?_
      refine Sl.gdo rfl rfl ?_
      refine Sl.lnS rfl rfl ?_
      refine Sl.gdo rfl rfl ?_
      refine Sl.gtr rfl rfl rfl ?_
      refine Sl.pk rfl rfl rfl ?_
      refine Sl.en ?_
      refine Sl.thenN ?_
      refine Sl.cdP rfl (fun h20 => ?_) (fun h20 => ?_)
      · skip
        have hv : 160 < vl.size := by (simp only at h20; omega)
        refine Sl.sq ?_
        refine Sl.rg ?_
        refine Sl.asg rfl rfl ?_
        refine Sl.en ?_
        refine Sl.thenN ?_
        refine Sl.rt ?_
        refine Sl.blkR ?_
        refine Sl.thenR ?_
        refine Sl.thenR ?_
        refine Sl.blkR ?_
        refine Sl.thenR ?_
        exact Sl.ret1 [A] Tryz.results36 rfl ⟨by rw [show memBad ws = true from by (simp only [memBad, any_of_at hw (show badW (k, vl, gn) = true from by simp [badW, hv])]; simp)], rfl⟩ Sl.perm
      · skip
        have hv : ¬ 160 < vl.size := by (simp only at h20; omega)
        refine Sl.sk ?_
        refine Sl.blkN ?_
        refine Sl.thenN ?_
        refine Sl.rg ?_
        refine Sl.add rfl rfl rfl (Sl.fits_i64 (by omega)) ?_
        refine Sl.mv rfl rfl ?_
        refine Sl.en ?_
        refine Sl.thenN ?_
        exact Sl.again (m' := ws.length - (j + 1)) ⟨j + 1, by omega, rfl, by rw [any_take hw, hno]; simp [badW]; omega, rfl, rfl⟩ (by omega) ⟨rfl, rfl, rfl, rfl, trivial⟩ Sl.perm
  · skip
    refine Sl.xi ?_
    refine Sl.thenE ?_
    refine Sl.thenE ?_
    refine Sl.blkE ?_
    refine Sl.thenN ?_
    refine Sl.sq ?_
    refine Sl.rg ?_
    refine Sl.mv rfl rfl ?_
    refine Sl.lnL rfl rfl ?_
    refine Sl.gtr rfl rfl rfl ?_
    refine Sl.asg rfl rfl ?_
    refine Sl.en ?_
    refine Sl.thenN ?_
    refine Sl.rt ?_
    obtain rfl : j = ws.length := by omega
    rw [List.take_length] at hno
    exact Sl.ret1 [A] Tryz.results36 rfl ⟨by (simp only [memBad, hno, Bool.or_false]; congr 1; simp; omega), rfl⟩ Sl.perm

theorem get8_is (A : HP) (a : Option Addr) (cap : Nat) (pl : Prs) (key : Str) (hA : SlIs A encP 2 a pl.length pl) (hbig : pl.length < 9223372036854775807) :
    Fnc Tryz.prog 20 [.slice a pl.length cap, .string key] [A] (fun v L' => (∃ r : Int, v = .int .i64 r ∧ ((∃ (i : Nat) (x : Str), r = i ∧ pl[i]? = some (key, x) ∧ mget pl key = some x) ∨ (r = -1 ∧ mget pl key = none))) ∧ L' = [A]) := by
  refine Sl.fn_intro Tryz.func20 rfl Tryz.ntmps20 rfl (fun g F => ?_)
  simp only [Sl.slotsOf, List.cons_append, List.nil_append, Nat.reduceAdd]
  refine Sl.sq ?_
  refine Sl.rg ?_
  refine Sl.asg rfl rfl ?_
  refine Sl.en ?_
  refine Sl.thenN ?_
  refine Sl.sq ?_
  refine Sl.sq ?_
  refine Sl.rg ?_
  refine Sl.mv rfl rfl ?_
  refine Sl.lnL rfl rfl ?_
  refine Sl.mv rfl rfl ?_
  refine Sl.en ?_
  refine Sl.thenN ?_
  refine Sl.bl ?_
  refine Sl.lp0 (fun m s L => ∃ j : Nat, j ≤ pl.length ∧ m = pl.length - j ∧ mget (pl.take j) key = none ∧
      s = [(9, .int .i64 (j : Nat)), (8, .int .i64 (pl.length : Nat)), (7, .slice a pl.length cap), (1, .string key)] ∧ L = [A, F])
      pl.length _ _ ⟨0, Nat.zero_le _, rfl, rfl, rfl, rfl⟩ ⟨rfl, rfl, rfl, rfl, trivial⟩ Sl.perm ?_
  rintro m s L ⟨j, hj, rfl, hno, rfl, rfl⟩
  refine Sl.sq ?_
  refine Sl.rg ?_
  refine Sl.lss rfl rfl rfl ?_
  refine Sl.en ?_
  refine Sl.thenN ?_
  refine Sl.sq ?_
  refine Sl.cdP rfl (fun h10 => ?_) (fun h10 => ?_)
  · skip
    refine Sl.sk ?_
    refine Sl.thenN ?_
    refine Sl.sq ?_
    refine Sl.bl ?_
    refine Sl.sq ?_
    obtain ⟨p, hw⟩ : ∃ w : Str × Str, pl[j]? = some w := ⟨pl[j]'(by omega), by simp⟩
    refine Sl.slAddr A hA (by omega) (fun ab ao ha => ?_)
    subst ha
    refine Sl.rg ?_
    refine Sl.mv rfl rfl ?_
    refine Sl.ia rfl rfl rfl (by omega) ?_
    refine Sl.ldEa A hA j hw rfl rfl rfl ?_
    refine Sl.al rfl (fun b6 => ?_)
    refine Sl.asg rfl rfl ?_
    refine Sl.sta rfl rfl rfl (by simp [encP, Value.oneCell']) rfl ?_
    refine Sl.en ?_
    refine Sl.thenN ?_
    refine Sl.sq ?_
    refine Sl.rg ?_
    refine Sl.fa rfl rfl ?_
    refine Sl.ld rfl rfl rfl ?_
    refine Sl.mv rfl rfl ?_
    refine Sl.eqlS rfl rfl rfl ?_
    refine Sl.en ?_
    refine Sl.thenN ?_
    refine Sl.cdP rfl (fun h17 => ?_) (fun h17 => ?_)
    · skip
      have hget : mget pl key = some p.2 := by (rw [← List.take_append_drop j pl, mget_append, hno, drop_at hw]; simp [mget, h17])
      refine Sl.sq ?_
      refine Sl.rg ?_
      refine Sl.mv rfl rfl ?_
      refine Sl.asg rfl rfl ?_
      refine Sl.en ?_
      refine Sl.thenN ?_
      refine Sl.rt ?_
      refine Sl.blkR ?_
      refine Sl.thenR ?_
      refine Sl.thenR ?_
      refine Sl.blkR ?_
      refine Sl.thenR ?_
      exact Sl.ret1 [A] Tryz.results20 rfl ⟨⟨_, rfl, .inl ⟨j, p.2, rfl, by rw [hw, ← h17], hget⟩⟩, rfl⟩ Sl.perm
    · skip
      refine Sl.sk ?_
      refine Sl.blkN ?_
      refine Sl.thenN ?_
      refine Sl.rg ?_
      refine Sl.add rfl rfl rfl (Sl.fits_i64 (by omega)) ?_
      refine Sl.mv rfl rfl ?_
      refine Sl.en ?_
      refine Sl.thenN ?_
      exact Sl.again (m' := pl.length - (j + 1)) ⟨j + 1, by omega, rfl, by rw [take_snoc hw, mget_append, hno]; simp [mget, h17], rfl, rfl⟩ (by omega) ⟨rfl, rfl, rfl, rfl, trivial⟩ Sl.perm
  · skip
    refine Sl.xi ?_
    refine Sl.thenE ?_
    refine Sl.thenE ?_
    refine Sl.blkE ?_
    refine Sl.thenN ?_
    refine Sl.sq ?_
    refine Sl.rg ?_
    refine Sl.asg rfl rfl ?_
    refine Sl.en ?_
    refine Sl.thenN ?_
    refine Sl.rt ?_
    obtain rfl : j = pl.length := by omega
    rw [List.take_length] at hno
    exact Sl.ret1 [A] Tryz.results20 rfl ⟨⟨_, rfl, .inr ⟨rfl, hno⟩⟩, rfl⟩ Sl.perm

theorem doneP_len {pl : Prs} (h : Srt pl) (w : Wr) : (doneP pl w).length ≤ pl.length + 1 := by
  rw [doneP_eq h]
  have h1 := congrArg List.length (filter_split h w.1)
  rw [List.length_append] at h1
  have h2 := List.length_filter_le (fun p : Str × Str => decide (p.1 ≠ w.1)) pl
  simp only [List.length_append]
  split <;> simp <;> omega
theorem foldP_srt {ws : List Wr} : ∀ {pl : Prs}, Srt pl → Srt (ws.foldl doneP pl) := by
  induction ws with
  | nil => intro pl h; exact h
  | cons w ws ih => intro pl h; exact ih (doneP_srt h w)
theorem foldP_len {ws : List Wr} : ∀ {pl : Prs}, Srt pl → (ws.foldl doneP pl).length ≤ pl.length + ws.length := by
  induction ws with
  | nil => intro pl h; simp
  | cons w ws ih =>
    intro pl h
    have h1 := ih (doneP_srt h w)
    have h2 := doneP_len h w
    simp only [List.foldl_cons, List.length_cons]; omega

theorem all_is (A0 A : HP) (a0 a : Option Addr) (cap0 cap : Nat) (pl : Prs) (ws : List Wr) (h0 : SlIs A0 encP 2 a0 pl.length pl) (hA : SlIs A encW 3 a ws.length ws) (hs : Srt pl) (hbig : pl.length + ws.length ≤ 536870912) :
    Fnc Tryz.prog 13 [.slice a0 pl.length cap0, .slice a ws.length cap] [A0, A] (fun v L' => ∃ b c B, v = .slice b (ws.foldl doneP pl).length c ∧ SlIs B encP 2 b (ws.foldl doneP pl).length (ws.foldl doneP pl) ∧ L' = [B, A]) := by
  refine Sl.fn_intro Tryz.func13 rfl Tryz.ntmps13 rfl (fun g F => ?_)
  simp only [Sl.slotsOf, List.cons_append, List.nil_append, Nat.reduceAdd]
  refine Sl.sq ?_
  refine Sl.rg ?_
  refine Sl.asg rfl rfl ?_
  refine Sl.en ?_
  refine Sl.thenN ?_
  refine Sl.sq ?_
  refine Sl.sq ?_
  refine Sl.rg ?_
  refine Sl.mv rfl rfl ?_
  refine Sl.lnL rfl rfl ?_
  refine Sl.mv rfl rfl ?_
  refine Sl.en ?_
  refine Sl.thenN ?_
  refine Sl.bl ?_
  refine Sl.lp0 (fun m s L => ∃ (j : Nat) (b : Option Addr) (c : Nat) (B : HP), j ≤ ws.length ∧ m = ws.length - j ∧ SlIs B encP 2 b ((ws.take j).foldl doneP pl).length ((ws.take j).foldl doneP pl) ∧
      s = [(9, .int .i64 (j : Nat)), (8, .int .i64 (ws.length : Nat)), (7, .slice a ws.length cap), (0, .slice b ((ws.take j).foldl doneP pl).length c)] ∧ L = [B, A, F])
      ws.length _ _ ⟨0, a0, cap0, A0, Nat.zero_le _, rfl, h0, rfl, rfl⟩ ⟨rfl, rfl, rfl, rfl, trivial⟩ Sl.perm ?_
  rintro m s L ⟨j, b, c, B, hj, rfl, hB, rfl, rfl⟩
  refine Sl.sq ?_
  refine Sl.rg ?_
  refine Sl.lss rfl rfl rfl ?_
  refine Sl.en ?_
  refine Sl.thenN ?_
  refine Sl.sq ?_
  refine Sl.cdP rfl (fun h10 => ?_) (fun h10 => ?_)
  · skip
    refine Sl.sk ?_
    refine Sl.thenN ?_
    refine Sl.sq ?_
    refine Sl.bl ?_
    refine Sl.sq ?_
    obtain ⟨w, hw⟩ : ∃ w : Wr, ws[j]? = some w := ⟨ws[j]'(by omega), by simp⟩
    refine Sl.slAddr A hA (by omega) (fun ab ao ha => ?_)
    subst ha
    have hlen := foldP_len (ws := ws.take j) hs
    rw [List.length_take, Nat.min_eq_left hj] at hlen
    refine Sl.rg ?_
    refine Sl.ia rfl rfl rfl (by omega) ?_
    refine Sl.ldEa A hA j hw rfl rfl rfl ?_
    refine Sl.al rfl (fun b6 => ?_)
    refine Sl.sta rfl rfl rfl (by simp [encW, Value.oneCell']) rfl ?_
    refine Sl.en ?_
    refine Sl.thenN ?_
    refine Sl.rg ?_
    refine Sl.mv rfl rfl ?_
    refine Sl.lda rfl rfl rfl ?_
    refine Sl.cl (done_is B b c ((ws.take j).foldl doneP pl) w hB (by omega)) rfl rfl ?_
    rintro _ _ ⟨b', c', ct', rfl, rfl⟩
    simp only [List.cons_append, List.nil_append]
    refine Sl.asg rfl rfl ?_
    refine Sl.en ?_
    refine Sl.blkN ?_
    refine Sl.thenN ?_
    refine Sl.rg ?_
    refine Sl.add rfl rfl rfl (Sl.fits_i64 (by omega)) ?_
    refine Sl.mv rfl rfl ?_
    refine Sl.en ?_
    refine Sl.thenN ?_
    exact Sl.again (m' := ws.length - (j + 1)) ⟨j + 1, b', c', osl ct' encP 2 b' c' _, by omega, rfl, by rw [take_snoc hw, List.foldl_append]; exact osl_is (fun _ _ => rfl), rfl, rfl⟩ (by omega) ⟨rfl, rfl, rfl, by rw [take_snoc hw, List.foldl_append]; rfl, trivial⟩ (by rw [List.foldl_cons, List.foldl_nil]; exact Sl.perm)
  · skip
    refine Sl.xi ?_
    refine Sl.thenE ?_
    refine Sl.thenE ?_
    refine Sl.blkE ?_
    refine Sl.thenN ?_
    refine Sl.sq ?_
    refine Sl.rg ?_
    refine Sl.mv rfl rfl ?_
    refine Sl.asg rfl rfl ?_
    refine Sl.en ?_
    refine Sl.thenN ?_
    refine Sl.rt ?_
    obtain rfl : j = ws.length := by omega
    rw [List.take_length] at hB
    exact Sl.ret1 [B, A] Tryz.results13 rfl ⟨b, c, B, by rw [List.take_length], hB, rfl⟩ Sl.perm

theorem parse18_is (t : Str) : Fnc Tryz.prog 38 [.string t] [] (fun v L' => v = .tuple [.agg (idOf (parseT t)).toArray, .bool (parseT t).isSome].toArray ∧ L' = []) := by
  refine Sl.fn_intro Tryz.func38 rfl Tryz.ntmps38 rfl (fun g F => ?_)
  simp only [Sl.slotsOf, List.cons_append, List.nil_append, Nat.reduceAdd]
  refine Sl.sq ?_
  refine Sl.rg ?_
  refine Sl.al rfl (fun b2 => ?_)
  refine Sl.asg rfl rfl ?_
  refine Sl.en ?_
  refine Sl.thenN ?_
  refine Sl.sq ?_
  refine Sl.sq ?_
  refine Sl.rg ?_
  refine Sl.mv rfl rfl ?_
  refine Sl.eqlS rfl rfl rfl ?_
  refine Sl.mv rfl rfl ?_
  refine Sl.split (t := 6) rfl (fun h6 => ?_) (fun h6 => ?_)
  · skip
    have hn : parseT t = none := by
      have h0 := nil_size (s := t) (by simpa using h6)
      have : t.data.toList = [] := List.eq_nil_of_length_eq_zero (by rw [← sz_list]; exact h0)
      unfold parseT; rw [this]
    refine Sl.gskip rfl rfl rfl rfl rfl rfl ?_
    refine Sl.gskip rfl rfl rfl rfl rfl rfl ?_
    refine Sl.gskip rfl rfl rfl rfl rfl rfl ?_
    refine Sl.gskip rfl rfl rfl rfl rfl rfl ?_
    refine Sl.pk rfl rfl rfl ?_
    refine Sl.mv rfl rfl ?_
    refine Sl.split (t := 12) rfl (fun h12 => ?_) (fun h12 => ?_)
    · skip
      refine Sl.gskip rfl rfl rfl rfl rfl rfl ?_
      refine Sl.gskip rfl rfl rfl rfl rfl rfl ?_
      refine Sl.gskip rfl rfl rfl rfl rfl rfl ?_
      refine Sl.gskip rfl rfl rfl rfl rfl rfl ?_
      refine Sl.gskip rfl rfl rfl rfl rfl rfl ?_
      refine Sl.gskip rfl rfl rfl rfl rfl rfl ?_
      refine Sl.gskip rfl rfl rfl rfl rfl rfl ?_
      refine Sl.pk rfl rfl rfl ?_
      refine Sl.en ?_
      refine Sl.thenN ?_
      refine Sl.cdT rfl ?_
      refine Sl.sq ?_
      refine Sl.rg ?_
      refine Sl.bd rfl rfl rfl ?_
      refine Sl.sta rfl rfl rfl (by simp [Value.oneCell']) rfl ?_
      refine Sl.asg rfl rfl ?_
      refine Sl.en ?_
      refine Sl.thenN ?_
      refine Sl.rt ?_
      refine Sl.thenR ?_
      exact Sl.retC1 [] Tryz.results38 rfl (Sl.sub_all (idc_len (k := 0) (bs := zer 32) (by simp [zer]))) rfl ⟨by rw [hn]; rfl, rfl⟩ Sl.perm
    · skip
      cases h12 --closed
  · skip
    have h0 : t.size ≠ 0 := by (have := size_nil (s := t) (by simpa using h6); omega)
    obtain ⟨k, r, rfl⟩ := str_cons h0
    refine Sl.gdo rfl rfl ?_
    refine Sl.mv rfl rfl ?_
    refine Sl.gdo rfl rfl ?_
    refine Sl.ixC (i := 0) (c := k) rfl rfl rfl rfl rfl ?_
    refine Sl.gdo rfl rfl ?_
    refine Sl.cl (size14_is k.toNat) rfl rfl ?_
    rintro _ _ ⟨rfl, rfl⟩
    simp only [List.nil_append]
    have hsz := szOf_le k.toNat
    refine Sl.gdo rfl rfl ?_
    refine Sl.eqlI rfl rfl rfl ?_
    refine Sl.pk rfl rfl rfl ?_
    refine Sl.mv rfl rfl ?_
    refine Sl.split (t := 12) rfl (fun h12 => ?_) (fun h12 => ?_)
    · skip
      have hn : parseT ⟨(k :: r).toArray⟩ = none := by (have := of_decide_eq_true h12; rw [parse_mk, if_neg (by omega)])
      refine Sl.gskip rfl rfl rfl rfl rfl rfl ?_
      refine Sl.gskip rfl rfl rfl rfl rfl rfl ?_
      refine Sl.gskip rfl rfl rfl rfl rfl rfl ?_
      refine Sl.gskip rfl rfl rfl rfl rfl rfl ?_
      refine Sl.gskip rfl rfl rfl rfl rfl rfl ?_
      refine Sl.gskip rfl rfl rfl rfl rfl rfl ?_
      refine Sl.gskip rfl rfl rfl rfl rfl rfl ?_
      refine Sl.pk rfl rfl rfl ?_
      refine Sl.en ?_
      refine Sl.thenN ?_
      refine Sl.cdT rfl ?_
      refine Sl.sq ?_
      refine Sl.rg ?_
      refine Sl.bd rfl rfl rfl ?_
      refine Sl.sta rfl rfl rfl (by simp [Value.oneCell']) rfl ?_
      refine Sl.asg rfl rfl ?_
      refine Sl.en ?_
      refine Sl.thenN ?_
      refine Sl.rt ?_
      refine Sl.thenR ?_
      exact Sl.retC1 [] Tryz.results38 rfl (Sl.sub_all (idc_len (k := 0) (bs := zer 32) (by simp [zer]))) rfl ⟨by rw [hn]; rfl, rfl⟩ Sl.perm
    · skip
      have hpos : 0 < szOf k.toNat := by (have := of_decide_eq_false h12; omega)
      refine Sl.gdo rfl rfl ?_
      refine Sl.mv rfl rfl ?_
      refine Sl.gdo rfl rfl ?_
      refine Sl.lnS rfl rfl ?_
      refine Sl.gdo rfl rfl ?_
      refine Sl.mv rfl rfl ?_
      refine Sl.gdo rfl rfl ?_
      refine Sl.ixC (i := 0) (c := k) rfl rfl rfl rfl rfl ?_
      refine Sl.gdo rfl rfl ?_
      refine Sl.cl (size14_is k.toNat) rfl rfl ?_
      rintro _ _ ⟨rfl, rfl⟩
      simp only [List.nil_append]
      have hsz := szOf_le k.toNat
      refine Sl.gdo rfl rfl ?_
      refine Sl.add rfl rfl rfl (Sl.fits_i64 (by omega)) ?_
      refine Sl.gdo rfl rfl ?_
      refine Sl.neqI rfl rfl rfl ?_
      refine Sl.pk rfl rfl rfl ?_
      refine Sl.en ?_
      refine Sl.thenN ?_
      refine Sl.cdP rfl (fun h20 => ?_) (fun h20 => ?_)
      · skip
        have hn : parseT ⟨(k :: r).toArray⟩ = none := by (rw [parse_mk, if_neg]; rintro ⟨_, e⟩; apply h20; rw [size_mk]; simp; omega)
        refine Sl.sq ?_
        refine Sl.rg ?_
        refine Sl.bd rfl rfl rfl ?_
        refine Sl.sta rfl rfl rfl (by simp [Value.oneCell']) rfl ?_
        refine Sl.asg rfl rfl ?_
        refine Sl.en ?_
        refine Sl.thenN ?_
        refine Sl.rt ?_
        refine Sl.thenR ?_
        exact Sl.retC1 [] Tryz.results38 rfl (Sl.sub_all (idc_len (k := 0) (bs := zer 32) (by simp [zer]))) rfl ⟨by rw [hn]; rfl, rfl⟩ Sl.perm
      · skip
        have hl : r.length = szOf k.toNat := by (rw [size_mk] at h20; simp at h20; omega)
        have hy : parseT ⟨(k :: r).toArray⟩ = some (k, r ++ zer (32 - r.length)) := by rw [parse_mk, if_pos ⟨hpos, hl⟩]
        refine Sl.sk ?_
        refine Sl.thenN ?_
        refine Sl.sq ?_
        refine Sl.rg ?_
        refine Sl.mv rfl rfl ?_
        refine Sl.cl (id14_is k r (by omega)) rfl rfl ?_
        rintro _ _ ⟨rfl, rfl⟩
        simp only [List.cons_append, List.nil_append]
        refine Sl.sta rfl rfl (idc_len (by simp [zer]; omega)) idc_one (setR_full (by rw [idc_len (by simp [zer]; omega)]; rfl)) ?_
        refine Sl.asg rfl rfl ?_
        refine Sl.en ?_
        refine Sl.thenN ?_
        refine Sl.rt ?_
        exact Sl.retC1 [] Tryz.results38 rfl (Sl.sub_all (idc_len (by simp [zer]; omega))) rfl ⟨by rw [hy]; rfl, rfl⟩ Sl.perm

theorem get18_is (A : HP) (a : Option Addr) (cap : Nat) (pl : Prs) (name : Str) (hA : SlIs A encP 2 a pl.length pl) (hbig : pl.length < 9223372036854775807) :
    Fnc Tryz.prog 15 [.slice a pl.length cap, .string name] [A] (fun v L' => v = .tuple [.agg (getRef pl name).2.toArray, .int .i64 (getRef pl name).1].toArray ∧ L' = [A]) := by
  refine Sl.fn_intro Tryz.func15 rfl Tryz.ntmps15 rfl (fun g F => ?_)
  simp only [Sl.slotsOf, List.cons_append, List.nil_append, Nat.reduceAdd]
  refine Sl.sq ?_
  refine Sl.rg ?_
  refine Sl.al rfl (fun b4 => ?_)
  refine Sl.asg rfl rfl ?_
  refine Sl.en ?_
  refine Sl.thenN ?_
  refine Sl.sq ?_
  refine Sl.sq ?_
  refine Sl.rg ?_
  refine Sl.mv rfl rfl ?_
  refine Sl.cl (good18_is name) rfl rfl ?_
  rintro _ _ ⟨rfl, rfl⟩
  simp only [List.cons_append, List.nil_append]
  refine Sl.nt rfl rfl ?_
  refine Sl.en ?_
  refine Sl.thenN ?_
  refine Sl.cd rfl (fun h12 => ?_) (fun h12 => ?_)
  · skip
    have hg : getRef pl name = (1, idc 0 (zer 32)) := by (simp at h12; simp [getRef, h12])
    refine Sl.sq ?_
    refine Sl.rg ?_
    refine Sl.bd rfl rfl rfl ?_
    refine Sl.sta rfl rfl rfl (by simp [Value.oneCell']) rfl ?_
    refine Sl.asg rfl rfl ?_
    refine Sl.en ?_
    refine Sl.thenN ?_
    refine Sl.rt ?_
    refine Sl.thenR ?_
    exact Sl.retC1 [A] Tryz.results15 rfl (vs := idc 0 (zer 32)) (Sl.sub_all (idc_len (k := 0) (bs := zer 32) (by simp [zer]))) rfl ⟨by rw [hg], rfl⟩ Sl.perm
  · skip
    have hg : gname name = true := by simpa using h12
    refine Sl.sk ?_
    refine Sl.thenN ?_
    refine Sl.sq ?_
    refine Sl.sq ?_
    refine Sl.rg ?_
    refine Sl.mv rfl rfl ?_
    refine Sl.lnL rfl rfl ?_
    refine Sl.mv rfl rfl ?_
    refine Sl.en ?_
    refine Sl.thenN ?_
    refine Sl.bl ?_
    refine Sl.weakL (L' := [blk b4 24 (idc 0 (zer 32)), A, F]) (fun h q => q) ?_
    refine Sl.lp0 (fun m s L => ∃ j : Nat, j ≤ pl.length ∧ m = pl.length - j ∧ mget (pl.take j) (keyS name) = none ∧
        s = [(16, .int .i64 (j : Nat)), (15, .int .i64 (pl.length : Nat)), (14, .slice a pl.length cap), (1, .string name), (4, .pointer (some ⟨b4, 0, none⟩))] ∧ L = [A, blk b4 24 (idc 0 (zer 32)), F])
        pl.length _ _ ⟨0, Nat.zero_le _, rfl, rfl, rfl, rfl⟩ ⟨rfl, rfl, rfl, rfl, rfl, trivial⟩ Sl.perm ?_
    rintro m s L ⟨j, hj, rfl, hno, rfl, rfl⟩
    refine Sl.sq ?_
    refine Sl.rg ?_
    refine Sl.lss rfl rfl rfl ?_
    refine Sl.en ?_
    refine Sl.thenN ?_
    refine Sl.sq ?_
    refine Sl.cdP rfl (fun h17 => ?_) (fun h17 => ?_)
    · skip
      refine Sl.sk ?_
      refine Sl.thenN ?_
      refine Sl.sq ?_
      refine Sl.bl ?_
      refine Sl.sq ?_
      obtain ⟨p, hw⟩ : ∃ w : Str × Str, pl[j]? = some w := ⟨pl[j]'(by omega), by simp⟩
      refine Sl.slAddr A hA (by omega) (fun ab ao ha => ?_)
      subst ha
      refine Sl.rg ?_
      refine Sl.ia rfl rfl rfl (by omega) ?_
      refine Sl.ldEa A hA j hw rfl rfl rfl ?_
      refine Sl.al rfl (fun b7 => ?_)
      refine Sl.sta rfl rfl rfl (by simp [encP, Value.oneCell']) rfl ?_
      refine Sl.en ?_
      refine Sl.thenN ?_
      refine Sl.sq ?_
      refine Sl.sq ?_
      refine Sl.rg ?_
      refine Sl.fa rfl rfl ?_
      refine Sl.ld rfl rfl rfl ?_
      refine Sl.mv rfl rfl ?_
      refine Sl.addS rfl rfl rfl (by have := gname_size hg; show 1 + name.size ≤ _; omega) ?_
      refine Sl.neqS rfl rfl rfl ?_
      refine Sl.en ?_
      refine Sl.thenN ?_
      refine Sl.cdP rfl (fun h24 => ?_) (fun h24 => ?_)
      · skip
        have h24 : ¬ p.1 = keyS name := h24
        refine Sl.xi ?_
        refine Sl.thenE ?_
        refine Sl.blkE ?_
        refine Sl.thenN ?_
        refine Sl.rg ?_
        refine Sl.add rfl rfl rfl (Sl.fits_i64 (by omega)) ?_
        refine Sl.mv rfl rfl ?_
        refine Sl.en ?_
        refine Sl.thenN ?_
        exact Sl.again (m' := pl.length - (j + 1)) ⟨j + 1, by omega, rfl, by rw [take_snoc hw, mget_append, hno]; simp [mget]; exact h24, rfl, rfl⟩ (by omega) ⟨rfl, rfl, rfl, rfl, rfl, trivial⟩ Sl.perm
      · skip
        have h24 : p.1 = keyS name := by simpa [keyS] using h24
        have hm : mget pl (keyS name) = some p.2 := by (rw [← List.take_append_drop j pl, mget_append, hno, drop_at hw]; simp [mget, h24])
        refine Sl.sk ?_
        refine Sl.thenN ?_
        refine Sl.sq ?_
        refine Sl.rg ?_
        refine Sl.fa rfl rfl ?_
        refine Sl.ld rfl rfl rfl ?_
        refine Sl.cl (parse18_is p.2) rfl rfl ?_
        rintro _ _ ⟨rfl, rfl⟩
        simp only [List.cons_append, List.nil_append]
        refine Sl.mv rfl rfl ?_
        refine Sl.xt rfl rfl rfl ?_
        refine Sl.xt rfl rfl rfl ?_
        refine Sl.al rfl (fun b8 => ?_)
        refine Sl.sta rfl rfl (idOf_len p.2) (idOf_one p.2) (setR_full (by rw [idOf_len]; rfl)) ?_
        refine Sl.asg rfl rfl ?_
        refine Sl.en ?_
        refine Sl.thenN ?_
        refine Sl.sq ?_
        refine Sl.sq ?_
        refine Sl.rg ?_
        refine Sl.mv rfl rfl ?_
        refine Sl.nt rfl rfl ?_
        refine Sl.en ?_
        refine Sl.thenN ?_
        refine Sl.cd rfl (fun h32 => ?_) (fun h32 => ?_)
        · skip
          have hp : parseT p.2 = none := by simpa using h32
          have hg : getRef pl name = (4, idc 0 (zer 32)) := by simp [getRef, hg, hm, hp]
          refine Sl.sq ?_
          refine Sl.rg ?_
          refine Sl.bd rfl rfl rfl ?_
          refine Sl.sta rfl rfl rfl (by simp [Value.oneCell']) rfl ?_
          refine Sl.asg rfl rfl ?_
          refine Sl.en ?_
          refine Sl.thenN ?_
          refine Sl.rt ?_
          refine Sl.thenR ?_
          refine Sl.blkR ?_
          refine Sl.thenR ?_
          refine Sl.thenR ?_
          refine Sl.blkR ?_
          refine Sl.thenR ?_
          exact Sl.retC1 [A] Tryz.results15 rfl (vs := idc 0 (zer 32)) (Sl.sub_all (idc_len (k := 0) (bs := zer 32) (by simp [zer]))) rfl ⟨by rw [hg], rfl⟩ Sl.perm
        · skip
          obtain ⟨⟨k, bs⟩, hp⟩ : ∃ q, parseT p.2 = some q := by (cases e : parseT p.2 with
            | none => simp [e] at h32
            | some q => exact ⟨q, rfl⟩)
          have hg : getRef pl name = (0, idOf (parseT p.2)) := by (simp [getRef, hg, hm, hp]; rfl)
          refine Sl.sk ?_
          refine Sl.thenN ?_
          refine Sl.sq ?_
          refine Sl.rg ?_
          refine Sl.lda rfl rfl (Sl.sub_all (idOf_len p.2)) ?_
          refine Sl.sta rfl rfl (idOf_len p.2) (idOf_one p.2) (setR_full (by rw [idOf_len]; rfl)) ?_
          refine Sl.asg rfl rfl ?_
          refine Sl.en ?_
          refine Sl.thenN ?_
          refine Sl.rt ?_
          refine Sl.blkR ?_
          refine Sl.thenR ?_
          refine Sl.thenR ?_
          refine Sl.blkR ?_
          refine Sl.thenR ?_
          exact Sl.retC1 [A] Tryz.results15 rfl (Sl.sub_all (idOf_len p.2)) rfl ⟨by rw [hg], rfl⟩ Sl.perm
    · skip
      refine Sl.xi ?_
      refine Sl.thenE ?_
      refine Sl.thenE ?_
      refine Sl.blkE ?_
      refine Sl.thenN ?_
      refine Sl.sq ?_
      obtain rfl : j = pl.length := by omega
      rw [List.take_length] at hno
      have hg : getRef pl name = (5, idc 0 (zer 32)) := by simp [getRef, hg, hno]
      refine Sl.rg ?_
      refine Sl.bd rfl rfl rfl ?_
      refine Sl.sta rfl rfl rfl (by simp [Value.oneCell']) rfl ?_
      refine Sl.asg rfl rfl ?_
      refine Sl.en ?_
      refine Sl.thenN ?_
      refine Sl.rt ?_
      exact Sl.retC1 [A] Tryz.results15 rfl (vs := idc 0 (zer 32)) (Sl.sub_all (idc_len (k := 0) (bs := zer 32) (by simp [zer]))) rfl ⟨by rw [hg], rfl⟩ Sl.perm
end Go.Proofs.YtdcjlbfmdkgcpaaGreatDoor
