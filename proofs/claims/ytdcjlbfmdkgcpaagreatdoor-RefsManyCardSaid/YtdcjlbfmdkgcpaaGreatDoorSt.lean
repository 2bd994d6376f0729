/- The memory store: what its functions do. -/
import Derived.Test.YtdcjlbfmdkgcpaaGreatDoorProg
import Derived.Test.YtdcjlbfmdkgcpaaGreatDoorCv
set_option linter.unusedSimpArgs false
set_option linter.unusedVariables false
namespace Go.Proofs.YtdcjlbfmdkgcpaaGreatDoor
open Go.Sl
instance tyStAg32 : Sl.Ag Tryz.prog 32 3 := ⟨Tryz.isAgg32, Tryz.sizeOf32⟩
instance tyStAg94 : Sl.Ag Tryz.prog 94 1 := ⟨Tryz.isAgg94, Tryz.sizeOf94⟩
instance tyStAg98 : Sl.Ag Tryz.prog 98 3 := ⟨Tryz.isAgg98, Tryz.sizeOf98⟩
instance tyStBy32 : Sl.ByT Tryz.prog 32 40 := ⟨fun w => ⟨_, Tryz.typeInfo32 w, rfl⟩⟩
instance tyStCa225 : Sl.Ca Tryz.prog 225 := ⟨Tryz.call225⟩
instance tyStCa226 : Sl.Ca Tryz.prog 226 := ⟨Tryz.call226⟩
instance tyStCa229 : Sl.Ca Tryz.prog 229 := ⟨Tryz.call229⟩
instance tyStCa230 : Sl.Ca Tryz.prog 230 := ⟨Tryz.call230⟩
instance tyStCa234 : Sl.Ca Tryz.prog 234 := ⟨Tryz.call234⟩
instance tyStCa45 : Sl.Ca Tryz.prog 45 := ⟨Tryz.call45⟩
instance tyStFa32_0 : Sl.Fa Tryz.prog 32 0 0 := Sl.Fa.mk' Tryz.runUnderlying32 rfl rfl rfl Tryz.sizeOf9 (by decide)
instance tyStFa32_1 : Sl.Fa Tryz.prog 32 1 1 := Sl.Fa.mk' Tryz.runUnderlying32 rfl rfl rfl Tryz.sizeOf9 (by decide)
instance tyStFa32_2 : Sl.Fa Tryz.prog 32 2 2 := Sl.Fa.mk' Tryz.runUnderlying32 rfl rfl rfl Tryz.sizeOf4 (by decide)
instance tyStFa94_0 : Sl.Fa Tryz.prog 94 0 0 := Sl.Fa.mk' Tryz.runUnderlying94 rfl rfl rfl Tryz.sizeOf92 (by decide)
instance tyStFa98_0 : Sl.Fa Tryz.prog 98 0 0 := Sl.Fa.mk' Tryz.runUnderlying98 rfl rfl rfl Tryz.sizeOf96 (by decide)
instance tyStFa98_1 : Sl.Fa Tryz.prog 98 1 1 := Sl.Fa.mk' Tryz.runUnderlying98 rfl rfl rfl Tryz.sizeOf91 (by decide)
instance tyStKs9 : Sl.KeyT Tryz.prog 9 Sl.Str Value.string := Sl.KeyT.str Tryz.runUnderlying9
instance tyStMi94 : Sl.MkI Tryz.prog 94 := ⟨fun v w => by simp [Instr.makeInterface, Tryz.runUnderlying94]⟩
instance tyStMp92 : Sl.MapT Tryz.prog 92 9 9 := ⟨Tryz.runUnderlying92⟩
instance tyStMt94_225 (r : Nat) : Sl.Mth Tryz.prog 94 (.agg #[.map (some r)]) "rootstock/store.apply" 225 (.agg #[.map (some r)]) := ⟨fun w => by kernel_rfl⟩
instance tyStMt94_226 (r : Nat) : Sl.Mth Tryz.prog 94 (.agg #[.map (some r)]) "rootstock/store.get" 226 (.agg #[.map (some r)]) := ⟨fun w => by kernel_rfl⟩
instance tyStPt70 : Sl.PtrT Tryz.prog 70 := Sl.PtrT.mk' Tryz.underlying70
instance tyStPt91 : Sl.PtrT Tryz.prog 91 := Sl.PtrT.mk' Tryz.underlying91
instance tyStSc4 : Sl.Sc Tryz.prog 4 := ⟨Tryz.isAgg4, Tryz.sizeOf4⟩
instance tyStSc9 : Sl.Sc Tryz.prog 9 := ⟨Tryz.isAgg9, Tryz.sizeOf9⟩
instance tyStSc91 : Sl.Sc Tryz.prog 91 := ⟨Tryz.isAgg91, Tryz.sizeOf91⟩
instance tyStSc92 : Sl.Sc Tryz.prog 92 := ⟨Tryz.isAgg92, Tryz.sizeOf92⟩
instance tyStSc96 : Sl.Sc Tryz.prog 96 := ⟨Tryz.isAgg96, Tryz.sizeOf96⟩
instance tyStSl41 : Sl.SlT Tryz.prog 41 32 3 := ⟨Tryz.runUnderlying41, Tryz.sizeOf32⟩
instance tyStSt9 : Sl.StrT Tryz.prog 9 := ⟨Tryz.runUnderlying9⟩
instance tyStSs94 : Sl.StT Tryz.prog 94 [(0, 1)] := ⟨⟨_, Tryz.runUnderlying94, fun w => by simp [Tryz.sizeOf92]⟩⟩
instance tyStSs98 : Sl.StT Tryz.prog 98 [(0, 1), (1, 1), (2, 1)] := ⟨⟨_, Tryz.runUnderlying98, fun w => by simp [Tryz.sizeOf3, Tryz.sizeOf91, Tryz.sizeOf96]⟩⟩
instance tyStZv32 : Sl.Zv Tryz.prog 32 (.agg [.string ⟨#[]⟩, .string ⟨#[]⟩, .bool false].toArray) := ⟨Tryz.zeroValue32⟩
instance tyStZv9 : Sl.Zv Tryz.prog 9 (.string ⟨#[]⟩) := ⟨Tryz.zeroValue9⟩
instance tyStZv94 : Sl.Zv Tryz.prog 94 (.agg [.map none].toArray) := ⟨Tryz.zeroValue94⟩
instance tyStZv98 : Sl.Zv Tryz.prog 98 (.agg [.nilIface, .pointer none, .int .i64 0].toArray) := ⟨Tryz.zeroValue98⟩
def badW (w : Wr) : Bool := decide (48 < w.1.size) || decide (160 < w.2.1.size)
/-- What the memory store's writes do to its pairs. -/
def memDo (l : List (Str × Str)) (w : Wr) : List (Str × Str) := if w.2.2 then mdel l w.1 else mset l w.1 w.2.1
def memApp (l : List (Str × Str)) (ws : List Wr) : List (Str × Str) := ws.foldl memDo l
def memBad (ws : List Wr) : Bool := decide (1024 < ws.length) || ws.any badW
abbrev mpS (r : Nat) (l : List (Str × Str)) : HP := mp Value.string Value.string r l
theorem memApp_snoc {l : List (Str × Str)} {ws : List Wr} {w : Wr} : memApp l (ws ++ [w]) = memDo (memApp l ws) w := by simp [memApp]

theorem apply1_is (w : Wr) : Fnc Tryz.prog 229 [.agg (encW w).toArray] [] (fun v L' => v = .bool (badW w) ∧ L' = []) := by
  obtain ⟨k, vl, gn⟩ := w
  refine Sl.fn_intro Tryz.func229 rfl Tryz.ntmps229 rfl (fun g F => ?_)
  simp only [Sl.slotsOf, List.cons_append, List.nil_append, Nat.reduceAdd]
  refine Sl.sq ?_
  refine Sl.rg ?_
  refine Sl.bxa (vs := [.string k, .string vl, .bool gn]) rfl rfl (fun b1 => ?_)
  refine Sl.asg rfl rfl ?_
  refine Sl.en ?_
  refine Sl.thenN ?_
  refine Sl.sq ?_
  refine Sl.rg ?_
  refine Sl.fa rfl rfl ?_
  refine Sl.ld rfl rfl rfl ?_
  refine Sl.lnS rfl rfl ?_
  refine Sl.gtr rfl rfl rfl ?_
  refine Sl.mv rfl rfl ?_
  refine Sl.split (t := 7) rfl (fun h7 => ?_) (fun h7 => ?_)
  · skip
    have hk : 48 < k.size := by simp at h7; omega
    refine Sl.gskip rfl rfl rfl rfl rfl rfl ?_
    refine Sl.gskip rfl rfl rfl rfl rfl rfl ?_
    refine Sl.gskip rfl rfl rfl rfl rfl rfl ?_
    refine Sl.gskip rfl rfl rfl rfl rfl rfl ?_
    refine Sl.pk rfl rfl rfl ?_
    refine Sl.asg rfl rfl ?_
    refine Sl.en ?_
    refine Sl.thenN ?_
    refine Sl.rt ?_
    exact Sl.ret1 [] Tryz.results229 rfl ⟨by simp [badW, hk] <;> omega, rfl⟩ Sl.perm
  · skip
    have hk : ¬ 48 < k.size := by simp at h7; omega
    refine Sl.gdo rfl rfl ?_
    refine Sl.fa rfl rfl ?_
    refine Sl.gdo rfl rfl ?_
    refine Sl.ld rfl rfl rfl ?_
    refine Sl.gdo rfl rfl ?_
    refine Sl.lnS rfl rfl ?_
    refine Sl.gdo rfl rfl ?_
    refine Sl.gtr rfl rfl rfl ?_
    refine Sl.pk rfl rfl rfl ?_
    refine Sl.asg rfl rfl ?_
    refine Sl.en ?_
    refine Sl.thenN ?_
    refine Sl.rt ?_
    exact Sl.ret1 [] Tryz.results229 rfl ⟨by simp [badW, hk] <;> omega, rfl⟩ Sl.perm

theorem any_take {α : Type} {f : α → Bool} {l : List α} {j : Nat} {x : α} (h : l[j]? = some x) : (l.take (j + 1)).any f = ((l.take j).any f || f x) := by
  rw [take_snoc h]; simp
theorem any_of_at {α : Type} {f : α → Bool} {l : List α} {j : Nat} {x : α} (h : l[j]? = some x) (hf : f x = true) : l.any f = true := List.any_eq_true.2 ⟨x, List.mem_of_getElem? h, hf⟩

theorem index_is (A : HP) (a : Option Addr) (cap : Nat) (ws : List Wr) (hA : SlIs A encW 3 a ws.length ws) (hbig : ws.length < 9223372036854775807) : Fnc Tryz.prog 234 [.slice a ws.length cap, .func (.func 229) #[] #[]] [A]
    (fun v L' => ∃ r : Int, v = .int .i64 r ∧ decide (0 ≤ r) = ws.any badW ∧ L' = [A]) := by
  refine Sl.fn_intro Tryz.func234 rfl Tryz.ntmps234 rfl (fun g F => ?_)
  simp only [Sl.slotsOf, List.cons_append, List.nil_append, Nat.reduceAdd]
  refine Sl.sq ?_
  refine Sl.rg ?_
  refine Sl.asg rfl rfl ?_
  refine Sl.en ?_
  refine Sl.thenN ?_
  refine Sl.sq ?_
  refine Sl.sq ?_
  refine Sl.rg ?_
  refine Sl.mv rfl rfl ?_
  refine Sl.lnL rfl rfl ?_
  refine Sl.mv rfl rfl ?_
  refine Sl.en ?_
  refine Sl.thenN ?_
  refine Sl.bl ?_
  refine Sl.lp0 (fun m s L => ∃ j : Nat, j ≤ ws.length ∧ m = ws.length - j ∧ (ws.take j).any badW = false ∧
      s = [(8, .int .i64 (j : Nat)), (7, .int .i64 (ws.length : Nat)), (0, .slice a ws.length cap), (1, .func (.func 229) #[] #[])] ∧ L = [A, F])
      ws.length _ _ ⟨0, Nat.zero_le _, rfl, rfl, rfl, rfl⟩ ⟨rfl, rfl, rfl, rfl, trivial⟩ Sl.perm ?_
  rintro m s L ⟨j, hj, rfl, hno, rfl, rfl⟩
  refine Sl.sq ?_
  refine Sl.rg ?_
  refine Sl.lss rfl rfl rfl ?_
  refine Sl.en ?_
  refine Sl.thenN ?_
  refine Sl.sq ?_
  refine Sl.cdP rfl (fun h9 => ?_) (fun h9 => ?_)
  · skip
    refine Sl.sk ?_
    refine Sl.thenN ?_
    refine Sl.sq ?_
    refine Sl.bl ?_
    refine Sl.sq ?_
    refine Sl.rg ?_
    refine Sl.mv rfl rfl ?_
    refine Sl.asg rfl rfl ?_
    refine Sl.en ?_
    refine Sl.thenN ?_
    refine Sl.sq ?_
    obtain ⟨w, hw⟩ : ∃ w : Wr, ws[j]? = some w := ⟨ws[j], by simp⟩
    refine Sl.slAddr A hA (by omega) (fun ab ao ha => ?_)
    subst ha
    refine Sl.rg ?_
    refine Sl.mv rfl rfl ?_
    refine Sl.mv rfl rfl ?_
    refine Sl.mv rfl rfl ?_
    refine Sl.ia rfl rfl rfl (by omega) ?_
    refine Sl.ldEa A hA j hw rfl rfl rfl ?_
    refine Sl.clf (fs := []) (cap := []) (vs := [.agg (encW w).toArray]) (apply1_is w) rfl rfl rfl ?_
    rintro _ _ ⟨rfl, rfl⟩
    simp only [List.nil_append]
    refine Sl.en ?_
    refine Sl.thenN ?_
    refine Sl.cd rfl (fun h16 => ?_) (fun h16 => ?_)
    · skip
      refine Sl.sq ?_
      refine Sl.rg ?_
      refine Sl.mv rfl rfl ?_
      refine Sl.asg rfl rfl ?_
      refine Sl.en ?_
      refine Sl.thenN ?_
      refine Sl.rt ?_
      refine Sl.blkR ?_
      refine Sl.thenR ?_
      refine Sl.thenR ?_
      refine Sl.blkR ?_
      refine Sl.thenR ?_
      exact Sl.ret1 [A] Tryz.results234 rfl ⟨_, rfl, by rw [any_of_at hw h16]; simp, rfl⟩ Sl.perm
    · skip
      refine Sl.sk ?_
      refine Sl.blkN ?_
      refine Sl.thenN ?_
      refine Sl.rg ?_
      refine Sl.add rfl rfl rfl (Sl.fits_i64 (by omega)) ?_
      refine Sl.mv rfl rfl ?_
      refine Sl.en ?_
      refine Sl.thenN ?_
      exact Sl.again (m' := ws.length - (j + 1)) ⟨j + 1, by omega, rfl, by rw [any_take hw, hno, h16]; rfl, rfl, rfl⟩ (by omega) ⟨rfl, rfl, rfl, rfl, trivial⟩ Sl.perm
  · skip
    refine Sl.xi ?_
    refine Sl.thenE ?_
    refine Sl.thenE ?_
    refine Sl.blkE ?_
    refine Sl.thenN ?_
    refine Sl.sq ?_
    refine Sl.rg ?_
    refine Sl.asg rfl rfl ?_
    refine Sl.en ?_
    refine Sl.thenN ?_
    refine Sl.rt ?_
    obtain rfl : j = ws.length := by omega
    rw [List.take_length] at hno
    exact Sl.ret1 [A] Tryz.results234 rfl ⟨-1, rfl, by rw [hno]; decide, rfl⟩ Sl.perm

theorem contains_is (A : HP) (a : Option Addr) (cap : Nat) (ws : List Wr) (hA : SlIs A encW 3 a ws.length ws) (hbig : ws.length < 9223372036854775807) : Fnc Tryz.prog 230 [.slice a ws.length cap, .func (.func 229) #[] #[]] [A]
    (fun v L' => v = .bool (ws.any badW) ∧ L' = [A]) := by
  refine Sl.fn_intro Tryz.func230 rfl Tryz.ntmps230 rfl (fun g F => ?_)
  simp only [Sl.slotsOf, List.cons_append, List.nil_append, Nat.reduceAdd]
  refine Sl.sq ?_
  refine Sl.rg ?_
  refine Sl.asg rfl rfl ?_
  refine Sl.en ?_
  refine Sl.thenN ?_
  refine Sl.sq ?_
  refine Sl.rg ?_
  refine Sl.mv rfl rfl ?_
  refine Sl.mv rfl rfl ?_
  refine Sl.cl (index_is A a cap ws hA hbig) rfl rfl ?_
  rintro _ _ ⟨r, rfl, hr, rfl⟩
  simp only [List.cons_append, List.nil_append]
  refine Sl.geq rfl rfl rfl ?_
  refine Sl.asg rfl rfl ?_
  refine Sl.en ?_
  refine Sl.thenN ?_
  refine Sl.rt ?_
  exact Sl.ret1 [A] Tryz.results230 rfl ⟨by rw [hr], rfl⟩ Sl.perm

theorem mapply_is (A : HP) (a : Option Addr) (cap r : Nat) (ws : List Wr) (l : List (Str × Str)) (hA : SlIs A encW 3 a ws.length ws) (hbig : ws.length < 9223372036854775807) :
    Fnc Tryz.prog 225 [.agg #[.map (some r)], .slice a ws.length cap] [A, mpS r l] (fun v L' => v = .int .i64 (if memBad ws then 3 else 0) ∧ L' = [A, mpS r (if memBad ws then l else memApp l ws)]) := by
  refine Sl.fn_intro Tryz.func225 rfl Tryz.ntmps225 rfl (fun g F => ?_)
  simp only [Sl.slotsOf, List.cons_append, List.nil_append, Nat.reduceAdd]
  refine Sl.sq ?_
  refine Sl.rg ?_
  refine Sl.bxa (vs := [.map (some r)]) rfl rfl (fun b2 => ?_)
  refine Sl.asg rfl rfl ?_
  refine Sl.en ?_
  refine Sl.thenN ?_
  refine Sl.sq ?_
  refine Sl.rg ?_
  refine Sl.asg rfl rfl ?_
  refine Sl.en ?_
  refine Sl.thenN ?_
  refine Sl.sq ?_
  refine Sl.sq ?_
  refine Sl.rg ?_
  refine Sl.mv rfl rfl ?_
  refine Sl.lnL rfl rfl ?_
  refine Sl.gtr rfl rfl rfl ?_
  refine Sl.mv rfl rfl ?_
  refine Sl.split (t := 11) rfl (fun h11 => ?_) (fun h11 => ?_)
  · skip
    have hbad : memBad ws = true := by simp at h11; simp [memBad]; left; omega
    refine Sl.gskip rfl rfl rfl rfl rfl rfl ?_
    refine Sl.gskip rfl rfl rfl rfl rfl rfl ?_
    refine Sl.gskip rfl rfl rfl rfl rfl rfl ?_
    refine Sl.pk rfl rfl rfl ?_
    refine Sl.en ?_
    refine Sl.thenN ?_
    refine Sl.cdT rfl ?_
    refine Sl.sq ?_
    refine Sl.rg ?_
    refine Sl.asg rfl rfl ?_
    refine Sl.en ?_
    refine Sl.thenN ?_
    refine Sl.rt ?_
    refine Sl.thenR ?_
    exact Sl.ret1 [A, mpS r l] Tryz.results225 rfl ⟨by simp [hbad], by simp [hbad]⟩ Sl.perm
  · skip
    refine Sl.gdo rfl rfl ?_
    refine Sl.mv rfl rfl ?_
    refine Sl.gdo rfl rfl ?_
    refine Sl.mv rfl rfl ?_
    refine Sl.gdo rfl rfl ?_
    refine Sl.cl (contains_is A a cap ws hA hbig) rfl rfl ?_
    rintro _ _ ⟨rfl, rfl⟩
    simp only [List.cons_append, List.nil_append]
    refine Sl.pk rfl rfl rfl ?_
    refine Sl.en ?_
    refine Sl.thenN ?_
    refine Sl.cd rfl (fun h15 => ?_) (fun h15 => ?_)
    · skip
      have hbad : memBad ws = true := by simp [memBad, h15]
      refine Sl.sq ?_
      refine Sl.rg ?_
      refine Sl.asg rfl rfl ?_
      refine Sl.en ?_
      refine Sl.thenN ?_
      refine Sl.rt ?_
      refine Sl.thenR ?_
      exact Sl.ret1 [A, mpS r l] Tryz.results225 rfl ⟨by simp [hbad], by simp [hbad]⟩ Sl.perm
    · skip
      have hbad : memBad ws = false := by simp at h11; simp only [memBad, h15]; simp; omega
      refine Sl.sk ?_
      refine Sl.thenN ?_
      refine Sl.sq ?_
      refine Sl.sq ?_
      refine Sl.rg ?_
      refine Sl.mv rfl rfl ?_
      refine Sl.lnL rfl rfl ?_
      refine Sl.mv rfl rfl ?_
      refine Sl.en ?_
      refine Sl.thenN ?_
      refine Sl.bl ?_
      refine Sl.lp0 (fun m s L => ∃ j : Nat, j ≤ ws.length ∧ m = ws.length - j ∧
          s = [(18, .int .i64 (j : Nat)), (17, .int .i64 (ws.length : Nat)), (16, .slice a ws.length cap), (2, .pointer (some ⟨b2, 0, none⟩))] ∧ L = [A, mpS r (memApp l (ws.take j)), blk b2 94 [.map (some r)], F])
          ws.length _ _ ⟨0, Nat.zero_le _, rfl, rfl, rfl⟩ ⟨rfl, rfl, rfl, rfl, trivial⟩ (by rw [show memApp l (ws.take 0) = l from by simp [memApp]]; exact Sl.perm) ?_
      rintro m s L ⟨j, hj, rfl, rfl, rfl⟩
      refine Sl.sq ?_
      refine Sl.rg ?_
      refine Sl.lss rfl rfl rfl ?_
      refine Sl.en ?_
      refine Sl.thenN ?_
      refine Sl.sq ?_
      refine Sl.cdP rfl (fun h19 => ?_) (fun h19 => ?_)
      · skip
        refine Sl.sk ?_
        refine Sl.thenN ?_
        refine Sl.sq ?_
        refine Sl.bl ?_
        refine Sl.sq ?_
        obtain ⟨⟨k, vl, gn⟩, hw⟩ : ∃ w : Wr, ws[j]? = some w := ⟨ws[j], by simp⟩
        refine Sl.slAddr A hA (by omega) (fun ab ao ha => ?_)
        subst ha
        refine Sl.rg ?_
        refine Sl.ia rfl rfl rfl (by omega) ?_
        refine Sl.ldEa A hA j hw rfl rfl rfl ?_
        refine Sl.al rfl (fun b7 => ?_)
        refine Sl.sta rfl rfl rfl (by simp [encW, Value.oneCell']) rfl ?_
        refine Sl.en ?_
        refine Sl.thenN ?_
        refine Sl.sq ?_
        refine Sl.rg ?_
        refine Sl.fa rfl rfl ?_
        refine Sl.ld rfl rfl rfl ?_
        refine Sl.en ?_
        refine Sl.thenN ?_
        refine Sl.cd rfl (fun h23 => ?_) (fun h23 => ?_)
        · skip
          subst h23
          refine Sl.rg ?_
          refine Sl.fa rfl rfl ?_
          refine Sl.ld rfl rfl rfl ?_
          refine Sl.fa rfl rfl ?_
          refine Sl.ld rfl rfl rfl ?_
          refine Sl.dl (k := k) (r := r) (l := memApp l (ws.take j)) (evl := Value.string) (ek := Value.string) rfl rfl ?_
          refine Sl.en ?_
          refine Sl.blkN ?_
          refine Sl.thenN ?_
          refine Sl.rg ?_
          refine Sl.add rfl rfl rfl (Sl.fits_i64 (by omega)) ?_
          refine Sl.mv rfl rfl ?_
          refine Sl.en ?_
          refine Sl.thenN ?_
          exact Sl.again (m' := ws.length - (j + 1)) ⟨j + 1, by omega, rfl, rfl, rfl⟩ (by omega) ⟨rfl, rfl, rfl, rfl, trivial⟩ (by rw [take_snoc hw, memApp_snoc, show memDo (memApp l (ws.take j)) (k, vl, true) = mdel (memApp l (ws.take j)) k from rfl]; exact Sl.perm)
        · skip
          subst h23
          refine Sl.rg ?_
          refine Sl.fa rfl rfl ?_
          refine Sl.ld rfl rfl rfl ?_
          refine Sl.fa rfl rfl ?_
          refine Sl.ld rfl rfl rfl ?_
          refine Sl.fa rfl rfl ?_
          refine Sl.ld rfl rfl rfl ?_
          refine Sl.mu (k := k) (v := vl) (r := r) (l := memApp l (ws.take j)) (evl := Value.string) (ek := Value.string) rfl rfl rfl ?_
          refine Sl.en ?_
          refine Sl.blkN ?_
          refine Sl.thenN ?_
          refine Sl.rg ?_
          refine Sl.add rfl rfl rfl (Sl.fits_i64 (by omega)) ?_
          refine Sl.mv rfl rfl ?_
          refine Sl.en ?_
          refine Sl.thenN ?_
          exact Sl.again (m' := ws.length - (j + 1)) ⟨j + 1, by omega, rfl, rfl, rfl⟩ (by omega) ⟨rfl, rfl, rfl, rfl, trivial⟩ (by rw [take_snoc hw, memApp_snoc, show memDo (memApp l (ws.take j)) (k, vl, false) = mset (memApp l (ws.take j)) k vl from rfl]; exact Sl.perm)
      · skip
        refine Sl.xi ?_
        refine Sl.thenE ?_
        refine Sl.thenE ?_
        refine Sl.blkE ?_
        refine Sl.thenN ?_
        refine Sl.sq ?_
        refine Sl.rg ?_
        refine Sl.asg rfl rfl ?_
        refine Sl.en ?_
        refine Sl.thenN ?_
        refine Sl.rt ?_
        obtain rfl : j = ws.length := by omega
        rw [List.take_length]
        exact Sl.ret1 [A, mpS r (memApp l ws)] Tryz.results225 rfl ⟨by simp [hbad], by simp [hbad]⟩ Sl.perm

theorem mget_is (r : Nat) (l : List (Str × Str)) (key : Str) :
    Fnc Tryz.prog 226 [.agg #[.map (some r)], .string key] [mpS r l] (fun v L' => v = .tuple [.string ((mget l key).getD ⟨#[]⟩), .bool (mget l key).isSome, .int .i64 0].toArray ∧ L' = [mpS r l]) := by
  refine Sl.fn_intro Tryz.func226 rfl Tryz.ntmps226 rfl (fun g F => ?_)
  simp only [Sl.slotsOf, List.cons_append, List.nil_append, Nat.reduceAdd]
  refine Sl.sq ?_
  refine Sl.rg ?_
  refine Sl.bxa (vs := [.map (some r)]) rfl rfl (fun b2 => ?_)
  refine Sl.asg rfl rfl ?_
  refine Sl.asg rfl rfl ?_
  refine Sl.asg rfl rfl ?_
  refine Sl.en ?_
  refine Sl.thenN ?_
  refine Sl.sq ?_
  refine Sl.rg ?_
  refine Sl.fa rfl rfl ?_
  refine Sl.ld rfl rfl rfl ?_
  refine Sl.mv rfl rfl ?_
  refine Sl.lkok (k := key) (r := r) (l := l) (evl := Value.string) (z0 := ⟨#[]⟩) rfl rfl rfl rfl ?_
  refine Sl.mv rfl rfl ?_
  refine Sl.xt rfl rfl rfl ?_
  refine Sl.xt rfl rfl rfl ?_
  refine Sl.asg rfl rfl ?_
  refine Sl.asg rfl rfl ?_
  refine Sl.en ?_
  refine Sl.thenN ?_
  refine Sl.sq ?_
  refine Sl.rg ?_
  refine Sl.mv rfl rfl ?_
  refine Sl.mv rfl rfl ?_
  refine Sl.asg rfl rfl ?_
  refine Sl.asg rfl rfl ?_
  refine Sl.asg rfl rfl ?_
  refine Sl.en ?_
  refine Sl.thenN ?_
  refine Sl.rt ?_
  exact Sl.ret3 [mpS r l] Tryz.results226 rfl rfl rfl ⟨rfl, rfl⟩ Sl.perm

/-- A memory store with these pairs. -/
def memS (sb : Nat) (l : List (Str × Str)) : HP := fun h => ∃ r, Sats [blk sb 98 [.iface 94 (.agg #[.map (some r)]), .pointer none, .int .i64 1], mpS r l] h
theorem memS.open {sb : Nat} {l : List (Str × Str)} (h : Hp) (q : memS sb l h) : ∃ r, Sats [blk sb 98 [.iface 94 (.agg #[.map (some r)]), .pointer none, .int .i64 1], mpS r l] h := q
theorem memS.close {sb r : Nat} {l : List (Str × Str)} {L : List HP} (h : Hp) (q : Sats (blk sb 98 [.iface 94 (.agg #[.map (some r)]), .pointer none, .int .i64 1] :: mpS r l :: L) h) : Sats (memS sb l :: L) h :=
  Sats.headMono (fun k hk => ⟨r, hk⟩) (Sats.pack (L := [blk sb 98 [.iface 94 (.agg #[.map (some r)]), .pointer none, .int .i64 1], mpS r l]) (M := L) (by simpa using q))
abbrev memB (sb r : Nat) : HP := blk sb 98 [.iface 94 (.agg #[.map (some r)]), .pointer none, .int .i64 1]

theorem ready_is (sb r : Nat) : Fnc Tryz.prog 45 [.pointer (some ⟨sb, 0, none⟩)] [memB sb r] (fun v L' => v = .int .i64 0 ∧ L' = [memB sb r]) := by
  refine Sl.fn_intro Tryz.func45 rfl Tryz.ntmps45 rfl (fun g F => ?_)
  simp only [Sl.slotsOf, List.cons_append, List.nil_append, Nat.reduceAdd]
  refine Sl.sq ?_
  refine Sl.rg ?_
  refine Sl.asg rfl rfl ?_
  refine Sl.en ?_
  refine Sl.thenN ?_
  refine Sl.sq ?_
  refine Sl.bl ?_
  refine Sl.sq ?_
  refine Sl.rg ?_
  refine Sl.mv rfl rfl ?_
  refine Sl.eqlPN rfl rfl rfl ?_
  refine Sl.asg rfl rfl ?_
  refine Sl.en ?_
  refine Sl.thenN ?_
  refine Sl.cdF rfl ?_
  refine Sl.sq ?_
  refine Sl.rg ?_
  refine Sl.mv rfl rfl ?_
  refine Sl.nc rfl rfl ?_
  refine Sl.fa rfl rfl ?_
  refine Sl.ld rfl rfl rfl ?_
  refine Sl.neqPN rfl rfl rfl ?_
  refine Sl.mv rfl rfl ?_
  refine Sl.split (t := 12) rfl (fun h12 => ?_) (fun h12 => ?_)
  · skip
    simp at h12 --closed
  · skip
    refine Sl.gskip rfl rfl rfl rfl rfl rfl ?_
    refine Sl.gskip rfl rfl rfl rfl rfl rfl ?_
    refine Sl.gskip rfl rfl rfl rfl rfl rfl ?_
    refine Sl.gskip rfl rfl rfl rfl rfl rfl ?_
    refine Sl.gskip rfl rfl rfl rfl rfl rfl ?_
    refine Sl.pk rfl rfl rfl ?_
    refine Sl.asg rfl rfl ?_
    refine Sl.en ?_
    refine Sl.thenN ?_
    refine Sl.cdF rfl ?_
    refine Sl.sk ?_
    refine Sl.blkN ?_
    refine Sl.thenN ?_
    refine Sl.sq ?_
    refine Sl.rg ?_
    refine Sl.asg rfl rfl ?_
    refine Sl.en ?_
    refine Sl.thenN ?_
    refine Sl.rt ?_
    exact Sl.ret1 [memB sb r] Tryz.results45 rfl ⟨rfl, rfl⟩ Sl.perm

theorem sapply_is (A : HP) (a : Option Addr) (cap sb : Nat) (ws : List Wr) (l : List (Str × Str)) (hA : SlIs A encW 3 a ws.length ws) (hbig : ws.length < 9223372036854775807) :
    Fnc Tryz.prog 30 [.pointer (some ⟨sb, 0, none⟩), .slice a ws.length cap] [A, memS sb l] (fun v L' => v = .int .i64 (if memBad ws then 3 else 0) ∧ L' = [A, memS sb (if memBad ws then l else memApp l ws)]) := by
  refine Sl.fn_intro Tryz.func30 rfl Tryz.ntmps30 rfl (fun g F => ?_)
  simp only [Sl.slotsOf, List.cons_append, List.nil_append, Nat.reduceAdd]
  refine Sl.sq ?_
  refine Sl.rg ?_
  refine Sl.asg rfl rfl ?_
  refine Sl.en ?_
  refine Sl.thenN ?_
  refine Sl.sq ?_
  refine Sl.sq ?_
  refine Sl.opn (memS sb l) (fun r => [memB sb r, mpS r l]) memS.open ?_
  intro r
  simp only [List.cons_append, List.nil_append]
  refine Sl.rg ?_
  refine Sl.mv rfl rfl ?_
  refine Sl.cl (ready_is sb r) rfl rfl ?_
  rintro _ _ ⟨rfl, rfl⟩
  simp only [List.cons_append, List.nil_append]
  refine Sl.asg rfl rfl ?_
  refine Sl.en ?_
  refine Sl.thenN ?_
  refine Sl.sq ?_
  refine Sl.rg ?_
  refine Sl.mv rfl rfl ?_
  refine Sl.neqI rfl rfl rfl ?_
  refine Sl.en ?_
  refine Sl.thenN ?_
  refine Sl.cdF rfl ?_
  refine Sl.sk ?_
  refine Sl.thenN ?_
  refine Sl.sq ?_
  refine Sl.rg ?_
  refine Sl.mv rfl rfl ?_
  refine Sl.nc rfl rfl ?_
  refine Sl.fa rfl rfl ?_
  refine Sl.ld rfl rfl rfl ?_
  refine Sl.mv rfl rfl ?_
  refine Sl.civ (vs := [.slice a ws.length cap]) (mapply_is A a cap r ws l hA hbig) rfl rfl rfl ?_
  rintro _ _ ⟨rfl, rfl⟩
  simp only [List.cons_append, List.nil_append]
  refine Sl.asg rfl rfl ?_
  refine Sl.en ?_
  refine Sl.thenN ?_
  refine Sl.rt ?_
  exact Sl.ret1 [A, memS sb (if memBad ws then l else memApp l ws)] Tryz.results30 rfl ⟨rfl, rfl⟩ (fun h q => Sl.perm (L := [memS sb (if memBad ws then l else memApp l ws), A, F]) h (memS.close h (Sl.perm (L' := [memB sb r, mpS r (if memBad ws then l else memApp l ws), A, F]) h q)))

theorem sget_is (sb : Nat) (l : List (Str × Str)) (key : Str) :
    Fnc Tryz.prog 50 [.pointer (some ⟨sb, 0, none⟩), .string key] [memS sb l] (fun v L' => v = .tuple [.string ((mget l key).getD ⟨#[]⟩), .bool (mget l key).isSome, .int .i64 0].toArray ∧ L' = [memS sb l]) := by
  refine Sl.fn_intro Tryz.func50 rfl Tryz.ntmps50 rfl (fun g F => ?_)
  simp only [Sl.slotsOf, List.cons_append, List.nil_append, Nat.reduceAdd]
  refine Sl.sq ?_
  refine Sl.rg ?_
  refine Sl.asg rfl rfl ?_
  refine Sl.asg rfl rfl ?_
  refine Sl.asg rfl rfl ?_
  refine Sl.en ?_
  refine Sl.thenN ?_
  refine Sl.sq ?_
  refine Sl.sq ?_
  refine Sl.opn (memS sb l) (fun r => [memB sb r, mpS r l]) memS.open ?_
  intro r
  simp only [List.cons_append, List.nil_append]
  refine Sl.rg ?_
  refine Sl.mv rfl rfl ?_
  refine Sl.cl (ready_is sb r) rfl rfl ?_
  rintro _ _ ⟨rfl, rfl⟩
  simp only [List.cons_append, List.nil_append]
  refine Sl.asg rfl rfl ?_
  refine Sl.en ?_
  refine Sl.thenN ?_
  refine Sl.sq ?_
  refine Sl.rg ?_
  refine Sl.mv rfl rfl ?_
  refine Sl.neqI rfl rfl rfl ?_
  refine Sl.en ?_
  refine Sl.thenN ?_
  refine Sl.cdF rfl ?_
  refine Sl.sk ?_
  refine Sl.thenN ?_
  refine Sl.sq ?_
  refine Sl.rg ?_
  refine Sl.mv rfl rfl ?_
  refine Sl.nc rfl rfl ?_
  refine Sl.fa rfl rfl ?_
  refine Sl.ld rfl rfl rfl ?_
  refine Sl.mv rfl rfl ?_
  refine Sl.civ (vs := [.string key]) (mget_is r l key) rfl rfl rfl ?_
  rintro _ _ ⟨rfl, rfl⟩
  simp only [List.cons_append, List.nil_append]
  refine Sl.xt rfl rfl rfl ?_
  refine Sl.xt rfl rfl rfl ?_
  refine Sl.xt rfl rfl rfl ?_
  refine Sl.asg rfl rfl ?_
  refine Sl.asg rfl rfl ?_
  refine Sl.asg rfl rfl ?_
  refine Sl.en ?_
  refine Sl.thenN ?_
  refine Sl.rt ?_
  exact Sl.ret3 [memS sb l] Tryz.results50 rfl rfl rfl ⟨rfl, rfl⟩ (fun h q => memS.close h (Sl.perm (L' := [memB sb r, mpS r l, F]) h q))

theorem openM_is (dk nm : Value) : Fnc Tryz.prog 28 [.int .i64 1, dk, nm] [] (fun v L' => ∃ sb, v = .tuple [.pointer (some ⟨sb, 0, none⟩), .int .i64 0].toArray ∧ L' = [memS sb []]) := by
  refine Sl.fn_intro Tryz.func28 rfl Tryz.ntmps28 rfl (fun g F => ?_)
  simp only [Sl.slotsOf, List.cons_append, List.nil_append, Nat.reduceAdd]
  refine Sl.sq ?_
  refine Sl.rg ?_
  refine Sl.asg rfl rfl ?_
  refine Sl.asg rfl rfl ?_
  refine Sl.en ?_
  refine Sl.thenN ?_
  refine Sl.sq ?_
  refine Sl.sq ?_
  refine Sl.rg ?_
  refine Sl.mv rfl rfl ?_
  refine Sl.en ?_
  refine Sl.thenN ?_
  refine Sl.bl ?_
  refine Sl.sq ?_
  refine Sl.rg ?_
  refine Sl.eqlI rfl rfl rfl ?_
  refine Sl.asg rfl rfl ?_
  refine Sl.en ?_
  refine Sl.thenN ?_
  refine Sl.cdT rfl ?_
  refine Sl.sq ?_
  refine Sl.rg ?_
  refine Sl.mk0 Str Str Value.string Value.string rfl (fun r15 => ?_)
  refine Sl.bd rfl rfl rfl ?_
  refine Sl.mi rfl rfl ?_
  refine Sl.mv rfl rfl ?_
  refine Sl.bd rfl rfl rfl ?_
  refine Sl.bxa rfl rfl (fun b20 => ?_)
  refine Sl.asg rfl rfl ?_
  refine Sl.asg rfl rfl ?_
  refine Sl.en ?_
  refine Sl.thenN ?_
  refine Sl.rt ?_
  refine Sl.blkR ?_
  refine Sl.thenR ?_
  exact Sl.ret2 [memS b20 []] Tryz.results28 rfl rfl ⟨_, rfl, rfl⟩ (fun h q => memS.close h (Sl.perm (L' := [memB b20 r15, mpS r15 [], F]) h q))
end Go.Proofs.YtdcjlbfmdkgcpaaGreatDoor
