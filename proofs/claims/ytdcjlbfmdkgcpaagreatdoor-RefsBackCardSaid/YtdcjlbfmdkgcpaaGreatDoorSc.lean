/- A scan of the memory store. -/
import Derived.Test.YtdcjlbfmdkgcpaaGreatDoorProg
import Derived.Test.YtdcjlbfmdkgcpaaGreatDoorPl
import Derived.Test.YtdcjlbfmdkgcpaaGreatDoorSt
import Derived.Test.YtdcjlbfmdkgcpaaGreatDoorRf
import Derived.Test.YtdcjlbfmdkgcpaaGreatDoorCa
import Derived.Test.YtdcjlbfmdkgcpaaGreatDoorEq
import Derived.Test.YtdcjlbfmdkgcpaaGreatDoorLw
set_option linter.unusedSimpArgs false
set_option linter.unusedVariables false
namespace Go.Proofs.YtdcjlbfmdkgcpaaGreatDoor
open Go.Sl
instance tyScAg57 : Sl.Ag Tryz.prog 57 2 := ⟨Tryz.isAgg57, Tryz.sizeOf57⟩
instance tyScAg94 : Sl.Ag Tryz.prog 94 1 := ⟨Tryz.isAgg94, Tryz.sizeOf94⟩
instance tyScBy57 : Sl.ByT Tryz.prog 57 32 := ⟨fun w => ⟨_, Tryz.typeInfo57 w, rfl⟩⟩
instance tyScCa198 : Sl.Ca Tryz.prog 198 := ⟨Tryz.call198⟩
instance tyScCa227 : Sl.Ca Tryz.prog 227 := ⟨Tryz.call227⟩
instance tyScCa231 : Sl.Ca Tryz.prog 231 := ⟨Tryz.call231⟩
instance tyScCa232 : Sl.Ca Tryz.prog 232 := ⟨Tryz.call232⟩
instance tyScCa233 : Sl.Ca Tryz.prog 233 := ⟨Tryz.call233⟩
instance tyScCa45 : Sl.Ca Tryz.prog 45 := ⟨Tryz.call45⟩
instance tyScCa49 : Sl.Ca Tryz.prog 49 := ⟨Tryz.call49⟩
instance tyScFa57_0 : Sl.Fa Tryz.prog 57 0 0 := Sl.Fa.mk' Tryz.runUnderlying57 rfl rfl rfl Tryz.sizeOf9 (by decide)
instance tyScFa79_0 : Sl.Fa Tryz.prog 79 0 0 := Sl.Fa.mk' Tryz.runUnderlying79 rfl rfl rfl Tryz.sizeOf70 (by decide)
instance tyScFa94_0 : Sl.Fa Tryz.prog 94 0 0 := Sl.Fa.mk' Tryz.runUnderlying94 rfl rfl rfl Tryz.sizeOf92 (by decide)
instance tyScFa98_0 : Sl.Fa Tryz.prog 98 0 0 := Sl.Fa.mk' Tryz.runUnderlying98 rfl rfl rfl Tryz.sizeOf96 (by decide)
instance tyScKs9 : Sl.KeyT Tryz.prog 9 Sl.Str Value.string := Sl.KeyT.str Tryz.runUnderlying9
instance tyScMp92 : Sl.MapT Tryz.prog 92 9 9 := ⟨Tryz.runUnderlying92⟩
instance tyScMt94_227 (r : Nat) : Sl.Mth Tryz.prog 94 (.agg #[.map (some r)]) "rootstock/store.scan" 227 (.agg #[.map (some r)]) := ⟨fun w => by kernel_rfl⟩
instance tyScPt27 : Sl.PtrT Tryz.prog 27 := Sl.PtrT.mk' Tryz.underlying27
instance tyScSc70 : Sl.Sc Tryz.prog 70 := ⟨Tryz.isAgg70, Tryz.sizeOf70⟩
instance tyScSc9 : Sl.Sc Tryz.prog 9 := ⟨Tryz.isAgg9, Tryz.sizeOf9⟩
instance tyScSc92 : Sl.Sc Tryz.prog 92 := ⟨Tryz.isAgg92, Tryz.sizeOf92⟩
instance tyScSc96 : Sl.Sc Tryz.prog 96 := ⟨Tryz.isAgg96, Tryz.sizeOf96⟩
instance tyScSl43 : Sl.SlT Tryz.prog 43 57 2 := ⟨Tryz.runUnderlying43, Tryz.sizeOf57⟩
instance tyScSs57 : Sl.StT Tryz.prog 57 [(0, 1), (1, 1)] := ⟨⟨_, Tryz.runUnderlying57, fun w => by simp [Tryz.sizeOf9]⟩⟩
instance tyScSu43 : Sl.SlU Tryz.prog 43 := ⟨.inl ⟨_, Tryz.runUnderlying43⟩⟩
instance tyScZv57 : Sl.Zv Tryz.prog 57 (.agg [.string ⟨#[]⟩, .string ⟨#[]⟩].toArray) := ⟨Tryz.zeroValue57⟩
instance tyScZv9 : Sl.Zv Tryz.prog 9 (.string ⟨#[]⟩) := ⟨Tryz.zeroValue9⟩
def cmpS (a b : Str) : Int := if slt a b then -1 else if slt b a then 1 else 0
theorem gt_eq (a b : Str) : (!(slt a b || decide (a = b))) = slt b a := by
  cases h : slt a b with
  | true => simp [slt_asymm h]
  | false =>
    by_cases e : a = b
    · subst e; simp [slt_irrefl]
    · cases k : slt b a with
      | true => simp [e]
      | false => exact absurd (slt_total h k) e
def encP (p : Str × Str) : List Value := [.string p.1, .string p.2]

theorem nan_is (a : Str) : Fnc Tryz.prog 198 [.string a] [] (fun v L' => v = .bool false ∧ L' = []) := by
  refine Sl.fn_intro Tryz.func198 rfl Tryz.ntmps198 rfl (fun g F => ?_)
  simp only [Sl.slotsOf, List.cons_append, List.nil_append, Nat.reduceAdd]
  refine Sl.sq ?_
  refine Sl.rg ?_
  refine Sl.asg rfl rfl ?_
  refine Sl.en ?_
  refine Sl.thenN ?_
  refine Sl.sq ?_
  refine Sl.rg ?_
  refine Sl.mv rfl rfl ?_
  refine Sl.mv rfl rfl ?_
  refine Sl.neqS rfl rfl rfl ?_
  refine Sl.asg rfl rfl ?_
  refine Sl.en ?_
  refine Sl.thenN ?_
  refine Sl.rt ?_
  exact Sl.ret1 [] Tryz.results198 rfl ⟨by simp, rfl⟩ Sl.perm

theorem compare_is (a b : Str) : Fnc Tryz.prog 233 [.string a, .string b] [] (fun v L' => v = .int .i64 (cmpS a b) ∧ L' = []) := by
  refine Sl.fn_intro Tryz.func233 rfl Tryz.ntmps233 rfl (fun g F => ?_)
  simp only [Sl.slotsOf, List.cons_append, List.nil_append, Nat.reduceAdd]
  refine Sl.sq ?_
  refine Sl.rg ?_
  refine Sl.asg rfl rfl ?_
  refine Sl.en ?_
  refine Sl.thenN ?_
  refine Sl.sq ?_
  refine Sl.rg ?_
  refine Sl.mv rfl rfl ?_
  refine Sl.cl (nan_is a) rfl rfl ?_
  rintro _ _ ⟨rfl, rfl⟩
  simp only [List.nil_append]
  refine Sl.asg rfl rfl ?_
  refine Sl.en ?_
  refine Sl.thenN ?_
  refine Sl.sq ?_
  refine Sl.rg ?_
  refine Sl.mv rfl rfl ?_
  refine Sl.cl (nan_is b) rfl rfl ?_
  rintro _ _ ⟨rfl, rfl⟩
  simp only [List.nil_append]
  refine Sl.asg rfl rfl ?_
  refine Sl.en ?_
  refine Sl.thenN ?_
  refine Sl.sq ?_
  refine Sl.sq ?_
  refine Sl.rg ?_
  refine Sl.mv rfl rfl ?_
  refine Sl.en ?_
  refine Sl.thenN ?_
  refine Sl.cdF rfl ?_
  refine Sl.sk ?_
  refine Sl.thenN ?_
  refine Sl.sq ?_
  refine Sl.sq ?_
  refine Sl.rg ?_
  refine Sl.mv rfl rfl ?_
  refine Sl.en ?_
  refine Sl.thenN ?_
  refine Sl.cdF rfl ?_
  refine Sl.sk ?_
  refine Sl.thenN ?_
  refine Sl.sq ?_
  refine Sl.sq ?_
  refine Sl.rg ?_
  refine Sl.mv rfl rfl ?_
  refine Sl.mv rfl rfl ?_
  refine Sl.lssS rfl rfl rfl ?_
  refine Sl.en ?_
  refine Sl.thenN ?_
  refine Sl.cd rfl (fun h16 => ?_) (fun h16 => ?_)
  · skip
    refine Sl.sq ?_
    refine Sl.rg ?_
    refine Sl.asg rfl rfl ?_
    refine Sl.en ?_
    refine Sl.thenN ?_
    refine Sl.rt ?_
    refine Sl.thenR ?_
    exact Sl.ret1 [] Tryz.results233 rfl ⟨by simp [cmpS, h16], rfl⟩ Sl.perm
  · skip
    refine Sl.sk ?_
    refine Sl.thenN ?_
    refine Sl.sq ?_
    refine Sl.sq ?_
    refine Sl.rg ?_
    refine Sl.mv rfl rfl ?_
    refine Sl.mv rfl rfl ?_
    refine Sl.gtrS rfl rfl rfl ?_
    refine Sl.en ?_
    refine Sl.thenN ?_
    refine Sl.cd rfl (fun h19 => ?_) (fun h19 => ?_)
    · skip
      rw [gt_eq] at h19
      refine Sl.sq ?_
      refine Sl.rg ?_
      refine Sl.asg rfl rfl ?_
      refine Sl.en ?_
      refine Sl.thenN ?_
      refine Sl.rt ?_
      refine Sl.thenR ?_
      exact Sl.ret1 [] Tryz.results233 rfl ⟨by simp [cmpS, h16, h19], rfl⟩ Sl.perm
    · skip
      rw [gt_eq] at h19
      refine Sl.sk ?_
      refine Sl.thenN ?_
      refine Sl.sq ?_
      refine Sl.rg ?_
      refine Sl.asg rfl rfl ?_
      refine Sl.en ?_
      refine Sl.thenN ?_
      refine Sl.rt ?_
      exact Sl.ret1 [] Tryz.results233 rfl ⟨by simp [cmpS, h16, h19], rfl⟩ Sl.perm

theorem scan1_is (x y : Str × Str) : Fnc Tryz.prog 232 [.agg (encP x).toArray, .agg (encP y).toArray] [] (fun v L' => v = .int .i64 (cmpS x.1 y.1) ∧ L' = []) := by
  refine Sl.fn_intro Tryz.func232 rfl Tryz.ntmps232 rfl (fun g F => ?_)
  simp only [Sl.slotsOf, List.cons_append, List.nil_append, Nat.reduceAdd]
  refine Sl.sq ?_
  refine Sl.rg ?_
  refine Sl.bxa (vs := [.string x.1, .string x.2]) rfl rfl (fun b2 => ?_)
  refine Sl.bxa (vs := [.string y.1, .string y.2]) rfl rfl (fun b3 => ?_)
  refine Sl.asg rfl rfl ?_
  refine Sl.en ?_
  refine Sl.thenN ?_
  refine Sl.sq ?_
  refine Sl.rg ?_
  refine Sl.fa rfl rfl ?_
  refine Sl.ld rfl rfl rfl ?_
  refine Sl.fa rfl rfl ?_
  refine Sl.ld rfl rfl rfl ?_
  refine Sl.cl (compare_is x.1 y.1) rfl rfl ?_
  rintro _ _ ⟨rfl, rfl⟩
  simp only [List.nil_append]
  refine Sl.asg rfl rfl ?_
  refine Sl.en ?_
  refine Sl.thenN ?_
  refine Sl.rt ?_
  exact Sl.ret1 [] Tryz.results232 rfl ⟨rfl, rfl⟩ Sl.perm

/-- What the sort's own contract is owed: the kit's laying of its text in this program. -/
abbrev SortHyp : Prop := ∀ (T cap : Nat) (a : Option Addr) (xs : List (Str × Str)), xs.length < 4611686018427387904 → Fnc Tryz.prog 231 [.slice a xs.length cap, .func (.func 232) #[] #[]] [osl T encP 2 a cap xs]
  (fun v L' => v = .tuple #[] ∧ ∃ ys : List (Str × Str), ys.Perm xs ∧ (ys.Pairwise fun x y => slt y.1 x.1 = false) ∧ L' = [osl T encP 2 a cap ys])
theorem osl_know {α : Type} {T sz : Nat} {enc : α → List Value} {a : Option Addr} {cap : Nat} {xs : List α} (h : Hp) (q : Sats [osl T enc sz a cap xs] h) : xs.length ≤ cap ∧ ∀ ad, a = some ad → ad.spot = none := by
  obtain ⟨h1, h2, _, _, _, ⟨_, hc, hcase⟩, _⟩ := q
  refine ⟨hc, fun ad e => ?_⟩
  rcases hcase with ⟨e', _⟩ | ⟨b, pre, spare, fz, e', _⟩
  · rw [e'] at e; cases e
  · rw [e'] at e; cases e; rfl
/-- What a scan tells. -/
def scanP (pl : Prs) (from' : Str) (n : Int) : Prs := (pl.filter fun p => !slt p.1 from').take n.toNat
theorem SlIs.take {α : Type} {A : HP} {enc : α → List Value} {sz : Nat} {a : Option Addr} {len : Nat} {xs : List α} (h : SlIs A enc sz a len xs) (m : Nat) (hm : m ≤ xs.length) : SlIs A enc sz a m (xs.take m) where
  len := by rw [List.length_take]; omega
  sz x hx := h.sz x (List.mem_of_mem_take hx)
  rd k hk := by
    rcases h.rd k hk with e | ⟨b, o, e, cs, T, fz, hb, hc⟩
    · subst e; exact .inl (by simp)
    · have hpre : ∃ r, flat enc xs = flat enc (xs.take m) ++ r := ⟨flat enc (xs.drop m), by rw [← flat_app, List.take_append_drop]⟩
      obtain ⟨r, hr⟩ := hpre
      refine .inr ⟨b, o, e, cs, T, fz, hb, fun i hi => ?_⟩
      rw [hc i (by rw [hr, List.length_append]; omega), hr, List.getElem?_append_left hi]
theorem sorted_eq {l ys pl : Prs} {from' : Str} (hr : Rel pl l) (hnd : (keysOf l).Nodup) (hp : ys.Perm (l.filter fun p => !slt p.1 from')) (hs : ys.Pairwise fun x y => slt y.1 x.1 = false) : ys = pl.filter fun p => !slt p.1 from' := by
  have hpl : (pl.filter fun p => !slt p.1 from').Perm (l.filter fun p => !slt p.1 from') := (hr.perm hnd).filter _
  have hperm : ys.Perm (pl.filter fun p => !slt p.1 from') := hp.trans hpl.symm
  have hkn : (keysOf ys).Nodup := by
    have h1 : (keysOf (pl.filter fun p => !slt p.1 from')).Nodup := (hr.srt.filter _).nodup
    exact (List.Perm.map (fun p : Str × Str => p.1) hperm).nodup_iff.2 h1
  have hsrt : Srt ys := by
    unfold Srt
    unfold keysOf at hkn
    rw [List.Nodup, List.pairwise_map] at hkn
    refine (hs.and hkn).imp ?_
    rintro x y ⟨h1, h2⟩
    cases e : slt x.1 y.1 with
    | true => rfl
    | false => exact absurd (slt_total e h1) h2
  exact hsrt.uniq (hr.srt.filter _) hperm

theorem mscan_is (sortH : SortHyp) (r : Nat) (l pl : Prs) (from' : Str) (n : Int) (hr : Rel pl l) (hbig : l.length < 2147483648) :
    Fnc Tryz.prog 227 [.agg #[.map (some r)], .string from', .int .i64 n] [mpS r l]
    (fun v L' => ∃ a cap A, v = .tuple [.slice a (scanP pl from' n).length cap, .int .i64 0].toArray ∧ SlIs A encP 2 a (scanP pl from' n).length (scanP pl from' n) ∧ L' = [A, mpS r l]) := by
  refine Sl.fn_intro Tryz.func227 rfl Tryz.ntmps227 rfl (fun g F => ?_)
  simp only [Sl.slotsOf, List.cons_append, List.nil_append, Nat.reduceAdd]
  refine Sl.sq ?_
  refine Sl.rg ?_
  refine Sl.bxa (vs := [.map (some r)]) rfl rfl (fun b3 => ?_)
  refine Sl.know (p := (keysOf l).Nodup) (mp_nodup (ek := Value.string) (evl := Value.string) (r := r)) (fun hnd => ?_)
  refine Sl.asg rfl rfl ?_
  refine Sl.asg rfl rfl ?_
  refine Sl.en ?_
  refine Sl.thenN ?_
  refine Sl.sq ?_
  refine Sl.rg ?_
  refine Sl.asg rfl rfl ?_
  refine Sl.en ?_
  refine Sl.thenN ?_
  refine Sl.sq ?_
  refine Sl.sq ?_
  refine Sl.rg ?_
  refine Sl.fa rfl rfl ?_
  refine Sl.ld (v := .map (some r)) rfl rfl rfl ?_
  refine Sl.rgm (r := r) (l := l) (ek := Value.string) (evl := Value.string) (R := [blk b3 94 [.map (some r)], F]) rfl rfl Sl.perm (fun it13 => ?_)
  refine Sl.en ?_
  refine Sl.thenN ?_
  refine Sl.bl ?_
  refine Sl.nilO 57 encP 2 ?_
  refine Sl.lp0 (fun m s L => ∃ (done rst : Prs) (a : Option Addr) (cap ct : Nat), (done ++ rst).Perm l ∧ m = rst.length ∧
      s = [(8, .slice a (done.filter fun p => !slt p.1 from').length cap), (13, .pointer (some ⟨it13, 0, none⟩)), (1, .string from'), (2, .int .i64 n)] ∧ L = [mpi Value.string Value.string r it13 l done, osl ct encP 2 a cap (done.filter fun p => !slt p.1 from'), F])
      l.length _ _ ⟨[], l, none, 0, 57, List.Perm.refl _, rfl, rfl, rfl⟩ ⟨rfl, rfl, rfl, rfl, trivial⟩ (by simp only [List.filter_nil]; exact Sl.perm) ?_
  rintro m s L ⟨done, rst, a, cap, ct, hperm, rfl, rfl, rfl⟩
  refine Sl.sq ?_
  refine Sl.rg ?_
  refine Sl.nxm (it := it13) (l := l) (done := done) (ek := Value.string) (evl := Value.string) rfl rfl (fun hstop => ?_) (fun k v rst' hnext => ?_)
  · skip
    refine Sl.xt rfl rfl rfl ?_
    refine Sl.en ?_
    refine Sl.thenN ?_
    refine Sl.sq ?_
    refine Sl.cdF rfl ?_
    refine Sl.xi ?_
    refine Sl.thenE ?_
    refine Sl.thenE ?_
    refine Sl.blkE ?_
    refine Sl.thenN ?_
    refine Sl.sq ?_
    refine Sl.rg ?_
    refine Sl.mv rfl rfl ?_
    have hlt : (done.filter fun p => !slt p.1 from').length < 2147483648 := Nat.lt_of_le_of_lt (List.length_filter_le _ _) (by rw [hstop.length_eq]; exact hbig)
    refine Sl.cl (sortH ct cap a (done.filter fun p => !slt p.1 from') (by omega)) rfl rfl ?_
    rintro _ _ ⟨rfl, ys, hp, hs, rfl⟩
    simp only [List.cons_append, List.nil_append]
    have hys : ys = pl.filter fun p => !slt p.1 from' := sorted_eq hr hnd (hp.trans (hstop.filter _)) hs
    have hlen : (done.filter fun p => !slt p.1 from').length = ys.length := hp.length_eq.symm
    rw [hlen]
    obtain ⟨m, hm, hml, htk⟩ : ∃ m : Nat, (if 0 > (if (ys.length : Int) < n then (ys.length : Int) else n) then 0 else (if (ys.length : Int) < n then (ys.length : Int) else n)) = (m : Int) ∧ m ≤ ys.length ∧ ys.take m = scanP pl from' n := by
      unfold scanP
      rw [← hys]
      by_cases h1 : (ys.length : Int) < n
      · rw [if_pos h1, if_neg (by omega)]
        exact ⟨ys.length, rfl, Nat.le_refl _, by rw [List.take_of_length_le (Nat.le_refl _), List.take_of_length_le (by omega)]⟩
      · rw [if_neg h1]
        by_cases h2 : n < 0
        · rw [if_pos h2]; exact ⟨0, rfl, Nat.zero_le _, by rw [show n.toNat = 0 from by omega]⟩
        · rw [if_neg h2]; exact ⟨n.toNat, by omega, by omega, rfl⟩
    have hml2 : (scanP pl from' n).length = m := by rw [← htk, List.length_take]; omega
    refine Sl.know (p := ys.length ≤ cap ∧ ∀ ad, a = some ad → ad.spot = none) (fun h q => osl_know (T := ct) (enc := encP) (sz := 2) h (Sl.perm (L' := [osl ct encP 2 a cap ys]) h q)) (fun hk => ?_)
    refine Sl.en ?_
    refine Sl.thenN ?_
    refine Sl.sq ?_
    refine Sl.rg ?_
    refine Sl.mv rfl rfl ?_
    refine Sl.mv rfl rfl ?_
    refine Sl.mv rfl rfl ?_
    refine Sl.lnL rfl rfl ?_
    refine Sl.mnI rfl rfl rfl ?_
    refine Sl.mxI rfl rfl rfl ?_
    rw [hm]
    refine Sl.slLh rfl rfl rfl (by omega) hk.2 ?_
    refine Sl.asg rfl rfl ?_
    refine Sl.asg rfl rfl ?_
    refine Sl.en ?_
    refine Sl.thenN ?_
    refine Sl.rt ?_
    refine Sl.ret2 [osl ct encP 2 a cap ys, mpS r l] Tryz.results227 rfl rfl ⟨a, cap, osl ct encP 2 a cap ys, by rw [hml2]; rfl, ?_, rfl⟩ (fun h q => ?_)
    · rw [hml2, ← htk]; exact SlIs.take (osl_is (enc := encP) (sz := 2) (fun _ _ => rfl)) m hml
    · exact Sl.perm (L := [mpS r l, osl ct encP 2 a cap ys, F]) h (Sats.headMono (fun k hk => mpi_done hk) (Sl.perm (L' := [mpi Value.string Value.string r it13 l done, osl ct encP 2 a cap ys, F]) h q))
  · skip
    refine Sl.xt rfl rfl rfl ?_
    refine Sl.en ?_
    refine Sl.thenN ?_
    refine Sl.sq ?_
    refine Sl.cdT rfl ?_
    refine Sl.sk ?_
    refine Sl.thenN ?_
    refine Sl.bl ?_
    refine Sl.sq ?_
    refine Sl.rg ?_
    refine Sl.entM (ds := done) (k := k) (v := v) (r := r) (l := l) (ek := Value.string) (evl := Value.string) rfl rfl ?_
    have hlen : rst'.length < rst.length := by
      have h1 := hnext.length_eq
      have h2 := hperm.length_eq
      simp at h1 h2; omega
    refine Sl.xt rfl rfl rfl ?_
    refine Sl.xt rfl rfl rfl ?_
    refine Sl.asg rfl rfl ?_
    refine Sl.asg rfl rfl ?_
    refine Sl.en ?_
    refine Sl.thenN ?_
    refine Sl.sq ?_
    refine Sl.rg ?_
    refine Sl.mv rfl rfl ?_
    refine Sl.mv rfl rfl ?_
    refine Sl.geqS rfl rfl rfl ?_
    refine Sl.en ?_
    refine Sl.thenN ?_
    refine Sl.cd rfl (fun h21 => ?_) (fun h21 => ?_)
    · skip
      have hf : (done ++ [(k, v)]).filter (fun p => !slt p.1 from') = done.filter (fun p => !slt p.1 from') ++ [(k, v)] := by simp [List.filter_append, h21]
      refine Sl.rg ?_
      refine Sl.mv rfl rfl ?_
      refine Sl.mv rfl rfl ?_
      refine Sl.mv rfl rfl ?_
      refine Sl.bd rfl rfl rfl ?_
      refine Sl.bs1a (by rfl) (by decide) (by decide) rfl rfl (by rfl) (fun b26 => ?_)
      refine Sl.apO (ys := [(k, v)]) (enc := encP) (sz := 2) ct rfl rfl rfl rfl (src_blk (cs := encP (k, v)) rfl) (fun _ _ => rfl) rfl (fun y hy v' hv' => ?_) (by rfl) (by decide) ?_ (fun a' cap' c' => ?_)
      · simp at hy; subst hy; simp [encP] at hv'; rcases hv' with rfl | rfl <;> rfl
      · have h1 := hnext.length_eq
        have h2 := List.length_filter_le (fun p : Str × Str => !slt p.1 from') done
        simp at h1 ⊢; omega
      refine Sl.asg rfl rfl ?_
      refine Sl.en ?_
      refine Sl.blkN ?_
      refine Sl.thenN ?_
      exact Sl.again (m' := rst'.length) ⟨done ++ [(k, v)], rst', a', cap', c', by simpa using hnext, rfl, rfl, rfl⟩ hlen ⟨by (simp only [Sl.look]; rw [hf]; rfl), rfl, rfl, rfl, trivial⟩ (by rw [hf]; exact Sl.perm)
    · skip
      have hf : (done ++ [(k, v)]).filter (fun p => !slt p.1 from') = done.filter (fun p => !slt p.1 from') := by simp [List.filter_append, h21]
      refine Sl.sk ?_
      refine Sl.blkN ?_
      refine Sl.thenN ?_
      exact Sl.again (m' := rst'.length) ⟨done ++ [(k, v)], rst', a, cap, ct, by simpa using hnext, rfl, rfl, rfl⟩ hlen ⟨by (simp only [Sl.look]; rw [hf]; rfl), rfl, rfl, rfl, trivial⟩ (by rw [hf]; exact Sl.perm)

theorem sscan_is (sortH : SortHyp) (sb : Nat) (l pl : Prs) (from' : Str) (n : Int) (hr : Rel pl l) (hbig : l.length < 2147483648) :
    Fnc Tryz.prog 49 [.pointer (some ⟨sb, 0, none⟩), .string from', .int .i64 n] [memS sb l]
    (fun v L' => ∃ a cap A, v = .tuple [.slice a (scanP pl from' n).length cap, .int .i64 0].toArray ∧ SlIs A encP 2 a (scanP pl from' n).length (scanP pl from' n) ∧ L' = [A, memS sb l]) := by
  refine Sl.fn_intro Tryz.func49 rfl Tryz.ntmps49 rfl (fun g F => ?_)
  simp only [Sl.slotsOf, List.cons_append, List.nil_append, Nat.reduceAdd]
  refine Sl.sq ?_
  refine Sl.rg ?_
  refine Sl.asg rfl rfl ?_
  refine Sl.asg rfl rfl ?_
  refine Sl.en ?_
  refine Sl.thenN ?_
  refine Sl.sq ?_
  refine Sl.sq ?_
  refine Sl.opn (memS sb l) (fun r => [memB sb r, mpS r l]) memS.open ?_
  intro r
  simp only [List.cons_append, List.nil_append]
  refine Sl.rg ?_
  refine Sl.mv rfl rfl ?_
  refine Sl.cl (ready_is sb r) rfl rfl ?_
  rintro _ _ ⟨rfl, rfl⟩
  simp only [List.cons_append, List.nil_append]
  refine Sl.asg rfl rfl ?_
  refine Sl.en ?_
  refine Sl.thenN ?_
  refine Sl.sq ?_
  refine Sl.rg ?_
  refine Sl.mv rfl rfl ?_
  refine Sl.neqI rfl rfl rfl ?_
  refine Sl.en ?_
  refine Sl.thenN ?_
  refine Sl.cdF rfl ?_
  refine Sl.sk ?_
  refine Sl.thenN ?_
  refine Sl.sq ?_
  refine Sl.rg ?_
  refine Sl.mv rfl rfl ?_
  refine Sl.nc rfl rfl ?_
  refine Sl.fa rfl rfl ?_
  refine Sl.ld rfl rfl rfl ?_
  refine Sl.mv rfl rfl ?_
  refine Sl.mv rfl rfl ?_
  refine Sl.civ (vs := [.string from', .int .i64 n]) (mscan_is sortH r l pl from' n hr hbig) rfl rfl rfl ?_
  rintro _ _ ⟨a, cap, A, rfl, hA, rfl⟩
  simp only [List.cons_append, List.nil_append]
  refine Sl.xt rfl rfl rfl ?_
  refine Sl.xt rfl rfl rfl ?_
  refine Sl.asg rfl rfl ?_
  refine Sl.asg rfl rfl ?_
  refine Sl.en ?_
  refine Sl.thenN ?_
  refine Sl.rt ?_
  exact Sl.ret2 [A, memS sb l] Tryz.results49 rfl rfl ⟨a, cap, A, rfl, hA, rfl⟩ (fun h q => Sl.perm (L := [memS sb l, A, F]) h (memS.close h (Sl.perm (L' := [memB sb r, mpS r l, A, F]) h q)))

theorem cscan_is (cb : Nat) (sv : Value) (most : Nat) (vw : Vw) (from' : Str) (n : Int) (S : HP) (R : Value → List HP → Prop)
    (hscan : Fnc Tryz.prog 49 [sv, .string from', .int .i64 n] [S] (fun v L' => ∃ x e L1, v = .tuple [x, .int .i64 e].toArray ∧ L' = L1 ∧ R v L1)) :
    Fnc Tryz.prog 34 [.pointer (some ⟨cb, 0, none⟩), .string from', .int .i64 n] [cache cb sv most vw, S]
    (fun v L' => ∃ L1, L' = cache cb sv most vw :: L1 ∧ R v L1) := by
  refine Sl.fn_intro Tryz.func34 rfl Tryz.ntmps34 rfl (fun g F => ?_)
  simp only [Sl.slotsOf, List.cons_append, List.nil_append, Nat.reduceAdd]
  refine Sl.sq ?_
  refine Sl.rg ?_
  refine Sl.asg rfl rfl ?_
  refine Sl.asg rfl rfl ?_
  refine Sl.en ?_
  refine Sl.thenN ?_
  refine Sl.sq ?_
  refine Sl.sq ?_
  refine Sl.rg ?_
  refine Sl.mv rfl rfl ?_
  refine Sl.eqlPN rfl rfl rfl ?_
  refine Sl.en ?_
  refine Sl.thenN ?_
  refine Sl.cdF rfl ?_
  refine Sl.sk ?_
  refine Sl.thenN ?_
  refine Sl.sq ?_
  refine Sl.opn (cache cb sv most vw) (fun x : { x : Nat × Int × Nds × List (Str × Option Nat) // CInv cb x.2.2.1 x.2.2.2 vw } => [ndh cb sv most x.1.1 x.1.2.1 x.1.2.2.1, mpE x.1.1 x.1.2.2.2]) cch.open ?_
  rintro ⟨⟨er, hits, N, ents⟩, hi⟩
  change CInv cb N ents vw at hi
  simp only [List.cons_append, List.nil_append]
  refine Sl.rg ?_
  refine Sl.mv rfl rfl ?_
  refine Sl.nc rfl rfl ?_
  refine Sl.fa rfl rfl ?_
  refine Sl.ldC (ndh cb sv most er hits N) rfl rfl (fun h q => q.head (i := 0) rfl) ?_
  refine Sl.mv rfl rfl ?_
  refine Sl.mv rfl rfl ?_
  refine Sl.cl hscan rfl rfl ?_
  rintro _ L2 ⟨x, e, L1, rfl, rfl, hR⟩
  refine Sl.xt rfl rfl rfl ?_
  refine Sl.xt rfl rfl rfl ?_
  refine Sl.asg rfl rfl ?_
  refine Sl.asg rfl rfl ?_
  refine Sl.en ?_
  refine Sl.thenN ?_
  refine Sl.rt ?_
  exact Sl.ret2 (cache cb sv most vw :: L2) Tryz.results34 rfl rfl ⟨L2, rfl, hR⟩ (fun h q => cch.close hi h (Sats.toFront (M := [ndh cb sv most er hits N, mpE er ents]) h q))
end Go.Proofs.YtdcjlbfmdkgcpaaGreatDoor
