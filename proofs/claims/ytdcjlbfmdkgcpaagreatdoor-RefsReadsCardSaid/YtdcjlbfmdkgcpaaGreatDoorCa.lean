/- The cache: what its functions do. -/
import Derived.Test.YtdcjlbfmdkgcpaaGreatDoorProg
import Derived.Test.YtdcjlbfmdkgcpaaGreatDoorCv
set_option linter.unusedSimpArgs false
set_option linter.unusedVariables false
namespace Go.Proofs.YtdcjlbfmdkgcpaaGreatDoor
open Go.Sl
instance tyCaAg32 : Sl.Ag Tryz.prog 32 3 := ⟨Tryz.isAgg32, Tryz.sizeOf32⟩
instance tyCaAg77 : Sl.Ag Tryz.prog 77 5 := ⟨Tryz.isAgg77, Tryz.sizeOf77⟩
instance tyCaAg79 : Sl.Ag Tryz.prog 79 9 := ⟨Tryz.isAgg79, Tryz.sizeOf79⟩
instance tyCaBy32 : Sl.ByT Tryz.prog 32 40 := ⟨fun w => ⟨_, Tryz.typeInfo32 w, rfl⟩⟩
instance tyCaCa30 : Sl.Ca Tryz.prog 30 := ⟨Tryz.call30⟩
instance tyCaCa31 : Sl.Ca Tryz.prog 31 := ⟨Tryz.call31⟩
instance tyCaCa46 : Sl.Ca Tryz.prog 46 := ⟨Tryz.call46⟩
instance tyCaCa47 : Sl.Ca Tryz.prog 47 := ⟨Tryz.call47⟩
instance tyCaCa50 : Sl.Ca Tryz.prog 50 := ⟨Tryz.call50⟩
instance tyCaFa32_0 : Sl.Fa Tryz.prog 32 0 0 := Sl.Fa.mk' Tryz.runUnderlying32 rfl rfl rfl Tryz.sizeOf9 (by decide)
instance tyCaFa32_1 : Sl.Fa Tryz.prog 32 1 1 := Sl.Fa.mk' Tryz.runUnderlying32 rfl rfl rfl Tryz.sizeOf9 (by decide)
instance tyCaFa32_2 : Sl.Fa Tryz.prog 32 2 2 := Sl.Fa.mk' Tryz.runUnderlying32 rfl rfl rfl Tryz.sizeOf4 (by decide)
instance tyCaFa77_0 : Sl.Fa Tryz.prog 77 0 0 := Sl.Fa.mk' Tryz.runUnderlying77 rfl rfl rfl Tryz.sizeOf9 (by decide)
instance tyCaFa77_1 : Sl.Fa Tryz.prog 77 1 1 := Sl.Fa.mk' Tryz.runUnderlying77 rfl rfl rfl Tryz.sizeOf9 (by decide)
instance tyCaFa77_2 : Sl.Fa Tryz.prog 77 2 2 := Sl.Fa.mk' Tryz.runUnderlying77 rfl rfl rfl Tryz.sizeOf4 (by decide)
instance tyCaFa77_3 : Sl.Fa Tryz.prog 77 3 3 := Sl.Fa.mk' Tryz.runUnderlying77 rfl rfl rfl Tryz.sizeOf75 (by decide)
instance tyCaFa77_4 : Sl.Fa Tryz.prog 77 4 4 := Sl.Fa.mk' Tryz.runUnderlying77 rfl rfl rfl Tryz.sizeOf75 (by decide)
instance tyCaFa79_0 : Sl.Fa Tryz.prog 79 0 0 := Sl.Fa.mk' Tryz.runUnderlying79 rfl rfl rfl Tryz.sizeOf70 (by decide)
instance tyCaFa79_1 : Sl.Fa Tryz.prog 79 1 1 := Sl.Fa.mk' Tryz.runUnderlying79 rfl rfl rfl Tryz.sizeOf3 (by decide)
instance tyCaFa79_2 : Sl.Fa Tryz.prog 79 2 2 := Sl.Fa.mk' Tryz.runUnderlying79 rfl rfl rfl Tryz.sizeOf74 (by decide)
instance tyCaFa79_3 : Sl.Fa Tryz.prog 79 3 3 := Sl.Fa.mk' Tryz.runUnderlying79 rfl rfl rfl Tryz.sizeOf77 (by decide)
instance tyCaFa79_4 : Sl.Fa Tryz.prog 79 4 8 := Sl.Fa.mk' Tryz.runUnderlying79 rfl rfl rfl Tryz.sizeOf3 (by decide)
instance tyCaKs9 : Sl.KeyT Tryz.prog 9 Sl.Str Value.string := Sl.KeyT.str Tryz.runUnderlying9
instance tyCaMp74 : Sl.MapT Tryz.prog 74 9 75 := ⟨Tryz.runUnderlying74⟩
instance tyCaPt27 : Sl.PtrT Tryz.prog 27 := Sl.PtrT.mk' Tryz.underlying27
instance tyCaPt75 : Sl.PtrT Tryz.prog 75 := Sl.PtrT.mk' Tryz.underlying75
instance tyCaSc3 : Sl.Sc Tryz.prog 3 := ⟨Tryz.isAgg3, Tryz.sizeOf3⟩
instance tyCaSc4 : Sl.Sc Tryz.prog 4 := ⟨Tryz.isAgg4, Tryz.sizeOf4⟩
instance tyCaSc70 : Sl.Sc Tryz.prog 70 := ⟨Tryz.isAgg70, Tryz.sizeOf70⟩
instance tyCaSc74 : Sl.Sc Tryz.prog 74 := ⟨Tryz.isAgg74, Tryz.sizeOf74⟩
instance tyCaSc75 : Sl.Sc Tryz.prog 75 := ⟨Tryz.isAgg75, Tryz.sizeOf75⟩
instance tyCaSc9 : Sl.Sc Tryz.prog 9 := ⟨Tryz.isAgg9, Tryz.sizeOf9⟩
instance tyCaSl41 : Sl.SlT Tryz.prog 41 32 3 := ⟨Tryz.runUnderlying41, Tryz.sizeOf32⟩
instance tyCaSt9 : Sl.StrT Tryz.prog 9 := ⟨Tryz.runUnderlying9⟩
instance tyCaSs77 : Sl.StT Tryz.prog 77 [(0, 1), (1, 1), (2, 1), (3, 1), (4, 1)] := ⟨⟨_, Tryz.runUnderlying77, fun w => by simp [Tryz.sizeOf4, Tryz.sizeOf75, Tryz.sizeOf9]⟩⟩
instance tyCaSs79 : Sl.StT Tryz.prog 79 [(0, 1), (1, 1), (2, 1), (3, 5), (8, 1)] := ⟨⟨_, Tryz.runUnderlying79, fun w => by simp [Tryz.sizeOf3, Tryz.sizeOf70, Tryz.sizeOf74, Tryz.sizeOf77]⟩⟩
instance tyCaZv32 : Sl.Zv Tryz.prog 32 (.agg [.string ⟨#[]⟩, .string ⟨#[]⟩, .bool false].toArray) := ⟨Tryz.zeroValue32⟩
instance tyCaZv75 : Sl.Zv Tryz.prog 75 (.pointer none) := ⟨Tryz.zeroValue75⟩
instance tyCaZv77 : Sl.Zv Tryz.prog 77 (.agg [.string ⟨#[]⟩, .string ⟨#[]⟩, .bool false, .pointer none, .pointer none].toArray) := ⟨Tryz.zeroValue77⟩
instance tyCaZv79 : Sl.Zv Tryz.prog 79 (.agg [.pointer none, .int .i64 0, .map none, .string ⟨#[]⟩, .string ⟨#[]⟩, .bool false, .pointer none, .pointer none, .int .i64 0].toArray) := ⟨Tryz.zeroValue79⟩
abbrev nd (cb : Nat) (pre post : List Value) (N : Nds) : HP := nds 77 79 cb pre post N

/-- What the reads of an entry's pointers lean on, while others are written. -/
def ndE (cb : Nat) (pre post : List Value) (p a c : Nat × Nat) : HP := fun h => ∃ N n, nd cb pre post N h ∧ N p = some n ∧ n.newer = some a ∧ n.elder = some c
theorem ndE.newer {cb : Nat} {pre post : List Value} {p a c : Nat × Nat} {h : Hp} (q : ndE cb pre post p a c h) : ∃ cs T fz, h p.1 = some (.cells cs T fz) ∧ cs[p.2 + 3]? = some (adr (some a)) := by
  obtain ⟨N, n, h1, h2, h3, h4⟩ := q
  obtain ⟨cs, T, fz, e1, e2⟩ := h1.cell h2 (i := 3) (by decide)
  exact ⟨cs, T, fz, e1, by rw [e2]; simp [ndc, h3]⟩
theorem ndE.elder {cb : Nat} {pre post : List Value} {p a c : Nat × Nat} {h : Hp} (q : ndE cb pre post p a c h) : ∃ cs T fz, h p.1 = some (.cells cs T fz) ∧ cs[p.2 + 4]? = some (adr (some c)) := by
  obtain ⟨N, n, h1, h2, h3, h4⟩ := q
  obtain ⟨cs, T, fz, e1, e2⟩ := h1.cell h2 (i := 4) (by decide)
  exact ⟨cs, T, fz, e1, by rw [e2]; simp [ndc, h4]⟩

theorem out_is (cb : Nat) (pre post : List Value) (N : Nds) (p : Nat × Nat) (n : Nd) (hp : N p = some n) (hok : N.Ok none) : Fnc Tryz.prog 46 [adr (some p)] [nd cb pre post N]
    (fun v L' => v = .tuple #[] ∧ ∃ N', L' = [nd cb pre post N'] ∧ N'.Ok none ∧ N.Same N') := by
  obtain ⟨a, c, na, nc, ha, hc, hna, hnc⟩ := hok.at hp (by simp)
  obtain ⟨nc1, hnc1⟩ : ∃ m, (N.upd a { na with elder := some c }) c = some m := Nds.upd_some ⟨nc, hnc⟩
  have e0 : ∀ (F : HP) h, Sats [nd cb pre post N, F] h → Sats [ndE cb pre post p a c] h := fun F h q => Sats.headMono (fun k hk => ⟨N, n, hk, hp, ha, hc⟩) (Sl.perm (L' := [nd cb pre post N]) h q)
  obtain ⟨n1, hp1, hn1, hc1⟩ : ∃ n1, (N.upd a { na with elder := some c }) p = some n1 ∧ n1.newer = some a ∧ n1.elder = some c := by
    by_cases e : p = a
    · subst e; rw [hp] at hna; cases hna; exact ⟨_, Nds.upd_at _ _ _, ha, rfl⟩
    · exact ⟨n, by rw [Nds.upd_ne e]; exact hp, ha, hc⟩
  have e1 : ∀ (F : HP) h, Sats [nd cb pre post (N.upd a { na with elder := some c }), F] h → Sats [ndE cb pre post p a c] h := fun F h q => Sats.headMono (fun k hk => ⟨_, n1, hk, hp1, hn1, hc1⟩) (Sl.perm (L' := [nd cb pre post (N.upd a { na with elder := some c })]) h q)
  obtain ⟨n2, hp2, hn2, hc2⟩ : ∃ n2, ((N.upd a { na with elder := some c }).upd c { nc1 with newer := some a }) p = some n2 ∧ n2.newer = some a ∧ n2.elder = some c := by
    by_cases e : p = c
    · subst e; rw [hp1] at hnc1; cases hnc1; exact ⟨_, Nds.upd_at _ _ _, rfl, hc1⟩
    · exact ⟨n1, by rw [Nds.upd_ne e]; exact hp1, hn1, hc1⟩
  refine Sl.fn_intro Tryz.func46 rfl Tryz.ntmps46 rfl (fun g F => ?_)
  simp only [Sl.slotsOf, List.cons_append, List.nil_append, Nat.reduceAdd]
  refine Sl.rgT ([ndE cb pre post p a c]) [0, 1, 2, 3, 4, 5, 6, 7, 8, 9, 10, 11, 12, 13, 14, 15, 16, 17, 18, 19, 21] [0, 1, 2, 3, 4, 5, 6, 7, 8, 9, 10, 11, 12, 13, 14, 15, 16, 17, 19, 20] (by kernel_rfl) (by kernel_rfl) (by kernel_rfl) ?_
  refine Sl.tk 0 (lst' := [true, false, false, false, false, false, false, false, false, false, false, false, false, false, false, false, false, false, false, false, false, false]) rfl (Sl.mvY rfl) rfl rfl rfl rfl (by kernel_rfl) (by kernel_rfl) (by first | exact e0 _ | exact e1 _) rfl ?_
  refine Sl.tk 1 (lst' := [true, true, false, false, false, false, false, false, false, false, false, false, false, false, false, false, false, false, false, false, false, false]) rfl (Sl.ncY rfl) rfl rfl rfl rfl (by kernel_rfl) (by kernel_rfl) (by first | exact e0 _ | exact e1 _) rfl ?_
  refine Sl.tk 2 (lst' := [true, true, true, false, false, false, false, false, false, false, false, false, false, false, false, false, false, false, false, false, false, false]) rfl (Sl.faY rfl) rfl rfl rfl rfl (by kernel_rfl) (by kernel_rfl) (by first | exact e0 _ | exact e1 _) rfl ?_
  refine Sl.tk 3 (lst' := [true, true, true, true, false, false, false, false, false, false, false, false, false, false, false, false, false, false, false, false, false, false]) rfl (Sl.ldCY (ndE cb pre post p a c) rfl (fun h q => q.newer)) rfl rfl rfl rfl (by kernel_rfl) (by kernel_rfl) (by first | exact e0 _ | exact e1 _) rfl ?_
  refine Sl.tk 4 (lst' := [true, true, true, true, true, false, false, false, false, false, false, false, false, false, false, false, false, false, false, false, false, false]) rfl (Sl.mvY rfl) rfl rfl rfl rfl (by kernel_rfl) (by kernel_rfl) (by first | exact e0 _ | exact e1 _) rfl ?_
  refine Sl.tk 5 (lst' := [true, true, true, true, true, true, false, false, false, false, false, false, false, false, false, false, false, false, false, false, false, false]) rfl (Sl.ncY rfl) rfl rfl rfl rfl (by kernel_rfl) (by kernel_rfl) (by first | exact e0 _ | exact e1 _) rfl ?_
  refine Sl.tk 6 (lst' := [true, true, true, true, true, true, true, false, false, false, false, false, false, false, false, false, false, false, false, false, false, false]) rfl (Sl.faY rfl) rfl rfl rfl rfl (by kernel_rfl) (by kernel_rfl) (by first | exact e0 _ | exact e1 _) rfl ?_
  refine Sl.tk 7 (lst' := [true, true, true, true, true, true, true, true, false, false, false, false, false, false, false, false, false, false, false, false, false, false]) rfl (Sl.ldCY (ndE cb pre post p a c) rfl (fun h q => q.elder)) rfl rfl rfl rfl (by kernel_rfl) (by kernel_rfl) (by first | exact e0 _ | exact e1 _) rfl ?_
  refine Sl.tk 8 (lst' := [true, true, true, true, true, true, true, true, true, false, false, false, false, false, false, false, false, false, false, false, false, false]) rfl (Sl.mvY rfl) rfl rfl rfl rfl (by kernel_rfl) (by kernel_rfl) (by first | exact e0 _ | exact e1 _) rfl ?_
  refine Sl.tk 9 (lst' := [true, true, true, true, true, true, true, true, true, true, false, false, false, false, false, false, false, false, false, false, false, false]) rfl (Sl.ncY rfl) rfl rfl rfl rfl (by kernel_rfl) (by kernel_rfl) (by first | exact e0 _ | exact e1 _) rfl ?_
  refine Sl.tk 10 (lst' := [true, true, true, true, true, true, true, true, true, true, true, false, false, false, false, false, false, false, false, false, false, false]) rfl (Sl.faY rfl) rfl rfl rfl rfl (by kernel_rfl) (by kernel_rfl) (by first | exact e0 _ | exact e1 _) rfl ?_
  refine Sl.tk 11 (lst' := [true, true, true, true, true, true, true, true, true, true, true, true, false, false, false, false, false, false, false, false, false, false]) rfl (Sl.ldCY (ndE cb pre post p a c) rfl (fun h q => q.elder)) rfl rfl rfl rfl (by kernel_rfl) (by kernel_rfl) (by first | exact e0 _ | exact e1 _) rfl ?_
  refine Sl.tk 12 (lst' := [true, true, true, true, true, true, true, true, true, true, true, true, true, false, false, false, false, false, false, false, false, false]) rfl (Sl.mvY rfl) rfl rfl rfl rfl (by kernel_rfl) (by kernel_rfl) (by first | exact e0 _ | exact e1 _) rfl ?_
  refine Sl.tk 13 (lst' := [true, true, true, true, true, true, true, true, true, true, true, true, true, true, false, false, false, false, false, false, false, false]) rfl (Sl.ncY rfl) rfl rfl rfl rfl (by kernel_rfl) (by kernel_rfl) (by first | exact e0 _ | exact e1 _) rfl ?_
  refine Sl.tk 14 (lst' := [true, true, true, true, true, true, true, true, true, true, true, true, true, true, true, false, false, false, false, false, false, false]) rfl (Sl.faY rfl) rfl rfl rfl rfl (by kernel_rfl) (by kernel_rfl) (by first | exact e0 _ | exact e1 _) rfl ?_
  refine Sl.tk 15 (lst' := [true, true, true, true, true, true, true, true, true, true, true, true, true, true, true, true, false, false, false, false, false, false]) rfl (Sl.ldCY (ndE cb pre post p a c) rfl (fun h q => q.newer)) rfl rfl rfl rfl (by kernel_rfl) (by kernel_rfl) (by first | exact e0 _ | exact e1 _) rfl ?_
  refine Sl.tk 16 (lst' := [true, true, true, true, true, true, true, true, true, true, true, true, true, true, true, true, true, false, false, false, false, false]) rfl (Sl.ncY rfl) rfl rfl rfl rfl (by kernel_rfl) (by kernel_rfl) (by first | exact e0 _ | exact e1 _) rfl ?_
  refine Sl.tk 17 (lst' := [true, true, true, true, true, true, true, true, true, true, true, true, true, true, true, true, true, true, false, false, false, false]) rfl (Sl.faY rfl) rfl rfl rfl rfl (by kernel_rfl) (by kernel_rfl) (by first | exact e0 _ | exact e1 _) rfl ?_
  refine Sl.rn1 18 (lst' := [true, true, true, true, true, true, true, true, true, true, true, true, true, true, true, true, true, true, true, false, false, false]) (by kernel_rfl) rfl rfl (fun hk hs hQ => ?_)
  refine Sl.stN (nd cb pre post N) rfl a 4 { na with elder := some c } rfl rfl rfl rfl rfl hna (by decide) (by simp [ndc]) ?_
  refine Sl.en ?_
  refine Sl.thenN ?_
  refine Sl.bk hk hs hQ (fun _ => (by first | exact e0 _ | exact e1 _)) ?_
  refine Sl.tk 19 (lst' := [true, true, true, true, true, true, true, true, true, true, true, true, true, true, true, true, true, true, true, true, false, false]) rfl (Sl.ncY rfl) rfl rfl rfl rfl (by kernel_rfl) (by kernel_rfl) (by first | exact e0 _ | exact e1 _) rfl ?_
  refine Sl.tk 20 (lst' := [true, true, true, true, true, true, true, true, true, true, true, true, true, true, true, true, true, true, true, true, true, false]) rfl (Sl.faY rfl) rfl rfl rfl rfl (by kernel_rfl) (by kernel_rfl) (by first | exact e0 _ | exact e1 _) rfl ?_
  refine Sl.rn1 21 (lst' := [true, true, true, true, true, true, true, true, true, true, true, true, true, true, true, true, true, true, true, true, true, true]) (by kernel_rfl) rfl rfl (fun hk hs hQ => ?_)
  refine Sl.stN (nd cb pre post (N.upd a { na with elder := some c })) rfl c 3 { nc1 with newer := some a } rfl rfl rfl rfl rfl hnc1 (by decide) (by simp [ndc]) ?_
  refine Sl.en ?_
  refine Sl.thenN ?_
  refine Sl.bk hk hs hQ (fun _ => (fun h q => Sats.headMono (fun k hk => ⟨_, n2, hk, hp2, hn2, hc2⟩) (Sl.perm (L' := [nd cb pre post ((N.upd a { na with elder := some c }).upd c { nc1 with newer := some a })]) h q))) ?_
  refine Sl.dn (by kernel_rfl) ?_
  have h1 : (N.upd a { na with elder := some c }).Ok none := hok.upd (fun q hq _ => hq) (fun _ => by
    obtain ⟨x, y, _, _, e1, _, e3, _⟩ := hok.at hna (by simp)
    exact ⟨x, c, e1, rfl, ⟨_, e3⟩, ⟨_, hnc⟩⟩)
  have h2 : ((N.upd a { na with elder := some c }).upd c { nc1 with newer := some a }).Ok none := h1.upd (fun q hq _ => hq) (fun _ => by
    obtain ⟨x, y, _, _, _, e2, _, e4⟩ := h1.at hnc1 (by simp)
    exact ⟨a, y, rfl, e2, ⟨_, Nds.upd_at _ _ _⟩, ⟨_, e4⟩⟩)
  have h3 : N.Same (N.upd a { na with elder := some c }) := Nds.same_upd hna rfl
  have h4 : (N.upd a { na with elder := some c }).Same ((N.upd a { na with elder := some c }).upd c { nc1 with newer := some a }) := Nds.same_upd hnc1 rfl
  exact Sl.ret0N [_] Tryz.results46 ⟨rfl, _, rfl, h2, h3.trans h4⟩ Sl.perm

theorem in_is (cb : Nat) (pre post : List Value) (N : Nds) (p : Nat × Nat) (n : Nd) (hp : N p = some n) (hs : p ≠ (cb, 3)) (hok : N.Ok (some p)) (ns : Nd) (hns : N (cb, 3) = some ns) :
    Fnc Tryz.prog 47 [.pointer (some ⟨cb, 0, none⟩), adr (some p)] [nd cb pre post N]
    (fun v L' => v = .tuple #[] ∧ ∃ N', L' = [nd cb pre post N'] ∧ N'.Ok none ∧ N.Same N') := by
  obtain ⟨a, c, na, nc, ha, hc, hna, hnc⟩ := hok.at hns (fun e => hs (Option.some.inj e).symm)
  obtain ⟨N1, hN1⟩ : ∃ N1, N1 = N.upd p { n with elder := some c } := ⟨_, rfl⟩
  have hp1 : N1 p = some { n with elder := some c } := by rw [hN1]; exact Nds.upd_at _ _ _
  obtain ⟨N2, hN2⟩ : ∃ N2, N2 = N1.upd p { n with elder := some c, newer := some (cb, 3) } := ⟨_, rfl⟩
  have hp2 : N2 p = some { n with elder := some c, newer := some (cb, 3) } := by rw [hN2]; exact Nds.upd_at _ _ _
  have hs2 : N2 (cb, 3) = some ns := by rw [hN2, Nds.upd_ne (Ne.symm hs), hN1, Nds.upd_ne (Ne.symm hs)]; exact hns
  obtain ⟨nc2, hnc2⟩ : ∃ m, N2 c = some m := by rw [hN2, hN1]; exact Nds.upd_some (Nds.upd_some ⟨nc, hnc⟩)
  obtain ⟨N3, hN3⟩ : ∃ N3, N3 = N2.upd c { nc2 with newer := some p } := ⟨_, rfl⟩
  obtain ⟨ns3, hns3⟩ : ∃ m, N3 (cb, 3) = some m := by rw [hN3]; exact Nds.upd_some ⟨ns, hs2⟩
  refine Sl.fn_intro Tryz.func47 rfl Tryz.ntmps47 rfl (fun g F => ?_)
  simp only [Sl.slotsOf, List.cons_append, List.nil_append, Nat.reduceAdd]
  refine Sl.sq ?_
  refine Sl.rgT ([]) [0, 1, 2, 3, 4, 5, 6, 7, 8, 9, 10, 11, 12, 13, 15] [0, 1, 2, 3, 4, 5, 7, 8, 9, 10, 11, 13, 14] (by kernel_rfl) (by kernel_rfl) (by kernel_rfl) ?_
  refine Sl.tk 0 (lst' := [true, false, false, false, false, false, false, false, false, false, false, false, false, false, false, false]) rfl (Sl.mvY rfl) rfl rfl rfl rfl (by kernel_rfl) (by kernel_rfl) Sl.perm rfl ?_
  refine Sl.tk 1 (lst' := [true, true, false, false, false, false, false, false, false, false, false, false, false, false, false, false]) rfl (Sl.mvY rfl) rfl rfl rfl rfl (by kernel_rfl) (by kernel_rfl) Sl.perm rfl ?_
  refine Sl.tk 2 (lst' := [true, true, true, false, false, false, false, false, false, false, false, false, false, false, false, false]) rfl (Sl.mvY rfl) rfl rfl rfl rfl (by kernel_rfl) (by kernel_rfl) Sl.perm rfl ?_
  refine Sl.tk 3 (lst' := [true, true, true, true, false, false, false, false, false, false, false, false, false, false, false, false]) rfl (Sl.ncY rfl) rfl rfl rfl rfl (by kernel_rfl) (by kernel_rfl) Sl.perm rfl ?_
  refine Sl.tk 4 (lst' := [true, true, true, true, true, false, false, false, false, false, false, false, false, false, false, false]) rfl (Sl.faY rfl) rfl rfl rfl rfl (by kernel_rfl) (by kernel_rfl) Sl.perm rfl ?_
  refine Sl.tk 5 (lst' := [true, true, true, true, true, true, false, false, false, false, false, false, false, false, false, false]) rfl (Sl.faY rfl) rfl rfl rfl rfl (by kernel_rfl) (by kernel_rfl) Sl.perm rfl ?_
  refine Sl.tk 7 (lst' := [true, true, true, true, true, true, false, true, false, false, false, false, false, false, false, false]) rfl (Sl.mvY rfl) rfl rfl rfl rfl (by kernel_rfl) (by kernel_rfl) Sl.perm rfl ?_
  refine Sl.tk 8 (lst' := [true, true, true, true, true, true, false, true, true, false, false, false, false, false, false, false]) rfl (Sl.ncY rfl) rfl rfl rfl rfl (by kernel_rfl) (by kernel_rfl) Sl.perm rfl ?_
  refine Sl.tk 9 (lst' := [true, true, true, true, true, true, false, true, true, true, false, false, false, false, false, false]) rfl (Sl.faY rfl) rfl rfl rfl rfl (by kernel_rfl) (by kernel_rfl) Sl.perm rfl ?_
  refine Sl.rn1 6 (lst' := [true, true, true, true, true, true, true, true, true, true, false, false, false, false, false, false]) (by kernel_rfl) rfl rfl (fun hk hs hQ => ?_)
  refine Sl.ldN (nd cb pre post N) rfl (cb, 3) 4 rfl rfl rfl rfl hns (by decide) (v := adr (some c)) (by simp [ndc, hc]) ?_
  refine Sl.en ?_
  refine Sl.thenN ?_
  refine Sl.bk hk hs hQ (fun _ => Sl.perm) ?_
  refine Sl.tk 10 (lst' := [true, true, true, true, true, true, true, true, true, true, true, false, false, false, false, false]) rfl (Sl.ncY rfl) rfl rfl rfl rfl (by kernel_rfl) (by kernel_rfl) Sl.perm rfl ?_
  refine Sl.tk 11 (lst' := [true, true, true, true, true, true, true, true, true, true, true, true, false, false, false, false]) rfl (Sl.faY rfl) rfl rfl rfl rfl (by kernel_rfl) (by kernel_rfl) Sl.perm rfl ?_
  refine Sl.rn1 12 (lst' := [true, true, true, true, true, true, true, true, true, true, true, true, true, false, false, false]) (by kernel_rfl) rfl rfl (fun hk hs hQ => ?_)
  refine Sl.stN (nd cb pre post N) rfl p 4 { n with elder := some c } rfl rfl rfl rfl rfl hp (by decide) (by simp [ndc]) ?_
  show Sl.At _ _ _ (nd cb pre post (N.upd p { n with elder := some c }) :: _) _
  rw [← hN1]
  refine Sl.en ?_
  refine Sl.thenN ?_
  refine Sl.bk hk hs hQ (fun _ => Sl.perm) ?_
  refine Sl.tk 13 (lst' := [true, true, true, true, true, true, true, true, true, true, true, true, true, true, false, false]) rfl (Sl.ncY rfl) rfl rfl rfl rfl (by kernel_rfl) (by kernel_rfl) Sl.perm rfl ?_
  refine Sl.tk 14 (lst' := [true, true, true, true, true, true, true, true, true, true, true, true, true, true, true, false]) rfl (Sl.faY rfl) rfl rfl rfl rfl (by kernel_rfl) (by kernel_rfl) Sl.perm rfl ?_
  refine Sl.rn1 15 (lst' := [true, true, true, true, true, true, true, true, true, true, true, true, true, true, true, true]) (by kernel_rfl) rfl rfl (fun hk hs hQ => ?_)
  refine Sl.stN (nd cb pre post N1) rfl p 3 { n with elder := some c, newer := some (cb, 3) } rfl rfl rfl rfl rfl hp1 (by decide) (by simp [ndc, adr]) ?_
  rw [← hN2]
  refine Sl.en ?_
  refine Sl.thenN ?_
  refine Sl.bk hk hs hQ (fun _ => Sl.perm) ?_
  refine Sl.dn (by kernel_rfl) ?_
  refine Sl.thenN ?_
  refine Sl.rg ?_
  refine Sl.mv rfl rfl ?_
  refine Sl.nc rfl rfl ?_
  refine Sl.fa rfl rfl ?_
  refine Sl.ldN (nd cb pre post N2) rfl p 4 rfl rfl rfl rfl hp2 (by decide) (v := adr (some c)) (by simp [ndc]) ?_
  refine Sl.mv rfl rfl ?_
  refine Sl.mv rfl rfl ?_
  refine Sl.mv rfl rfl ?_
  refine Sl.nc rfl rfl ?_
  refine Sl.fa rfl rfl ?_
  refine Sl.stN (nd cb pre post N2) rfl c 3 { nc2 with newer := some p } rfl rfl rfl rfl rfl hnc2 (by decide) (by simp [ndc]) ?_
  rw [← hN3]
  refine Sl.nc rfl rfl ?_
  refine Sl.fa rfl rfl ?_
  refine Sl.fa rfl rfl ?_
  refine Sl.stN (nd cb pre post N3) rfl (cb, 3) 4 { ns3 with elder := some p } rfl rfl rfl rfl rfl hns3 (by decide) (by simp [ndc]) ?_
  refine Sl.en ?_
  have h2 : N2.Ok none := by
    rw [hN2]
    refine Nds.Ok.upd (x := some p) (N := N1) ?_ (fun q hq hne => absurd (Option.some.inj hq) hne) (fun _ => ⟨(cb, 3), c, rfl, rfl, ?_, ?_⟩)
    · rw [hN1]; exact hok.upd (fun q hq _ => hq) (fun h => absurd rfl h)
    · rw [hN1]; exact Nds.upd_some ⟨ns, hns⟩
    · rw [hN1]; exact Nds.upd_some ⟨nc, hnc⟩
  have h3 : N3.Ok none := by
    rw [hN3]
    refine h2.upd (fun q hq _ => hq) (fun _ => ?_)
    obtain ⟨x, y, _, _, e1, e2, e3, e4⟩ := h2.at hnc2 (by simp)
    exact ⟨p, y, rfl, e2, ⟨_, hp2⟩, ⟨_, e4⟩⟩
  have hp3 : ∃ m, N3 p = some m := by rw [hN3]; exact Nds.upd_some ⟨_, hp2⟩
  have h4 : (N3.upd (cb, 3) { ns3 with elder := some p }).Ok none := h3.upd (fun q hq _ => hq) (fun _ => by
    obtain ⟨x, y, _, _, e1, e2, e3, e4⟩ := h3.at hns3 (by simp)
    exact ⟨x, p, e1, rfl, ⟨_, e3⟩, hp3⟩)
  have k1 : N.Same N1 := by rw [hN1]; exact Nds.same_upd hp rfl
  have k2 : N1.Same N2 := by rw [hN2]; exact Nds.same_upd hp1 rfl
  have k3 : N2.Same N3 := by rw [hN3]; exact Nds.same_upd hnc2 rfl
  have k4 : N3.Same (N3.upd (cb, 3) { ns3 with elder := some p }) := Nds.same_upd hns3 rfl
  exact Sl.ret0N [_] Tryz.results47 ⟨rfl, _, rfl, h4, ((k1.trans k2).trans k3).trans k4⟩ Sl.perm

abbrev cache (cb : Nat) (sv : Value) (most : Nat) (vw : Vw) : HP := cch 77 79 cb sv most vw
abbrev ndh (cb : Nat) (sv : Value) (most er : Nat) (hits : Int) (N : Nds) : HP := nd cb [sv, .int .i64 (most : Nat), .map (some er)] [.int .i64 hits] N
theorem out_h (cb : Nat) (sv : Value) (most er : Nat) (hits : Int) (N : Nds) (p : Nat × Nat) (n : Nd) (hp : N p = some n) (hok : N.Ok none) : Fnc Tryz.prog 46 [adr (some p)] [ndh cb sv most er hits N]
    (fun v L' => v = .tuple #[] ∧ ∃ N', L' = [ndh cb sv most er hits N'] ∧ N'.Ok none ∧ N.Same N') := out_is cb _ _ N p n hp hok
theorem in_h (cb : Nat) (sv : Value) (most er : Nat) (hits : Int) (N : Nds) (p : Nat × Nat) (n : Nd) (hp : N p = some n) (hs : p ≠ (cb, 3)) (hok : N.Ok (some p)) (ns : Nd) (hns : N (cb, 3) = some ns) :
    Fnc Tryz.prog 47 [.pointer (some ⟨cb, 0, none⟩), adr (some p)] [ndh cb sv most er hits N]
    (fun v L' => v = .tuple #[] ∧ ∃ N', L' = [ndh cb sv most er hits N'] ∧ N'.Ok none ∧ N.Same N') := in_is cb _ _ N p n hp hs hok ns hns
abbrev mpE (er : Nat) (ents : List (Str × Option Nat)) : HP := mp Value.string evE er ents

theorem keep_is (cb : Nat) (sv : Value) (most : Nat) (vw : Vw) (key val : Str) (is : Bool) : Fnc Tryz.prog 31 [.pointer (some ⟨cb, 0, none⟩), .string key, .string val, .bool is] [cache cb sv most vw]
    (fun v L' => v = .tuple #[] ∧ L' = [cache cb sv most (vw.put key (val, is))]) := by
  refine Sl.fn_intro Tryz.func31 rfl Tryz.ntmps31 rfl (fun g F => ?_)
  simp only [Sl.slotsOf, List.cons_append, List.nil_append, Nat.reduceAdd]
  refine Sl.sq ?_
  refine Sl.opn (cache cb sv most vw) (fun x : { x : Nat × Int × Nds × List (Str × Option Nat) // CInv cb x.2.2.1 x.2.2.2 vw } => [ndh cb sv most x.1.1 x.1.2.1 x.1.2.2.1, mpE x.1.1 x.1.2.2.2]) cch.open ?_
  rintro ⟨⟨er, hits, N, ents⟩, hi⟩
  change CInv cb N ents vw at hi
  simp only [List.cons_append, List.nil_append]
  refine Sl.know (p := (keysOf ents).Nodup) (mp_nodup (ek := Value.string) (evl := evE) (r := er)) (fun hnd => ?_)
  refine Sl.rg ?_
  refine Sl.mv rfl rfl ?_
  refine Sl.nc rfl rfl ?_
  refine Sl.fa rfl rfl ?_
  refine Sl.ldC (ndh cb sv most er hits N) rfl rfl (fun h q => q.head (i := 2) rfl) ?_
  refine Sl.mv rfl rfl ?_
  refine Sl.lk (r := er) (l := ents) (evl := evE) (z0 := none) rfl rfl rfl rfl ?_
  refine Sl.asg rfl rfl ?_
  refine Sl.en ?_
  refine Sl.thenN ?_
  refine Sl.sq ?_
  refine Sl.cut ((fun s L => ∃ N ents b, CInvX cb N ents vw key b ∧ s = [(8, .pointer (some ⟨b, 0, none⟩)), (0, .pointer (some ⟨cb, 0, none⟩)), (1, .string key), (2, .string val), (3, .bool is)] ∧ L = [ndh cb sv most er hits N, mpE er ents, F])) ?_ ?_
  · skip
    refine Sl.sq ?_
    refine Sl.rg ?_
    refine Sl.mv rfl rfl ?_
    refine Sl.eqlPN rfl rfl rfl ?_
    refine Sl.en ?_
    refine Sl.thenN ?_
    refine Sl.cd rfl (fun h17 => ?_) (fun h17 => ?_)
    · skip
      have hm : mget ents key = none := by
        cases e : mget ents key with
        | none => rfl
        | some o => obtain ⟨b, n, rfl, _⟩ := hi.ent _ _ e; rw [e] at h17; simp at h17
      refine Sl.sq ?_
      refine Sl.sq ?_
      refine Sl.rg ?_
      refine Sl.mv rfl rfl ?_
      refine Sl.nc rfl rfl ?_
      refine Sl.fa rfl rfl ?_
      refine Sl.ldC (ndh cb sv most er hits N) rfl rfl (fun h q => q.head (i := 1) rfl) ?_
      refine Sl.eqlI rfl rfl rfl ?_
      refine Sl.en ?_
      refine Sl.thenN ?_
      refine Sl.cdP rfl (fun h22 => ?_) (fun h22 => ?_)
      · skip
        refine Sl.rt ?_
        refine Sl.thenR ?_
        refine Sl.thenR ?_
        exact Sl.ret0 [_] Tryz.results31 ⟨rfl, rfl⟩ (fun h q => cch.close (hi.none hm) h (Sl.perm (L' := [ndh cb sv most er hits N, mpE er ents, F]) h q))
      · skip
        refine Sl.sk ?_
        refine Sl.thenN ?_
        refine Sl.sq ?_
        refine Sl.cut ((fun s L => ∃ N ents, CInv cb N ents vw ∧ mget ents key = none ∧ s = [(0, .pointer (some ⟨cb, 0, none⟩)), (1, .string key), (2, .string val), (3, .bool is)] ∧ L = [ndh cb sv most er hits N, mpE er ents, F])) ?_ ?_
        · skip
          refine Sl.sq ?_
          refine Sl.rgQ (by kernel_rfl) (by kernel_rfl) ?_
          refine Sl.mvQ rfl rfl ?_
          refine Sl.ncQ rfl rfl ?_
          refine Sl.faQ rfl rfl ?_
          refine Sl.ldCQ (ndh cb sv most er hits N) rfl rfl (fun h q => q.head (i := 2) rfl) ?_
          refine Sl.lnMQ (r := er) (l := ents) (evl := evE) (ek := Value.string) rfl rfl ?_
          refine Sl.mvQ rfl rfl ?_
          refine Sl.ncQ rfl rfl ?_
          refine Sl.faQ rfl rfl ?_
          refine Sl.ldCQ (ndh cb sv most er hits N) rfl rfl (fun h q => q.head (i := 1) rfl) ?_
          refine Sl.eqlIQ rfl rfl rfl ?_
          refine Sl.enQ ?_
          refine Sl.thenN ?_
          refine Sl.cdP rfl (fun h32 => ?_) (fun h32 => ?_)
          · skip
            refine Sl.sq ?_
            refine Sl.rg ?_
            refine Sl.mv rfl rfl ?_
            refine Sl.nc rfl rfl ?_
            refine Sl.fa rfl rfl ?_
            refine Sl.fa rfl rfl ?_
            obtain ⟨n0, hs0⟩ := hi.sent
            obtain ⟨a, c, na, nc, ha, hc, hna, hnc⟩ := hi.ok.at hs0 (by simp)
            refine Sl.ldN (ndh cb sv most er hits N) rfl (cb, 3) 3 rfl rfl rfl rfl hs0 (by decide) (v := adr (some a)) (by simp [ndc, ha]) ?_
            refine Sl.asg rfl rfl ?_
            refine Sl.en ?_
            refine Sl.thenN ?_
            refine Sl.sq ?_
            refine Sl.rg ?_
            refine Sl.mv rfl rfl ?_
            refine Sl.cl (out_h cb sv most er hits N a na hna hi.ok) rfl rfl ?_
            rintro _ _ ⟨rfl, N', rfl, hok', hsame⟩
            simp only [List.cons_append, List.nil_append]
            obtain ⟨na', hna', _⟩ := hsame.has hna
            refine Sl.en ?_
            refine Sl.thenN ?_
            refine Sl.rgT ([ndh cb sv most er hits N']) [0, 1, 2, 3, 4, 5, 6, 7, 8] [0, 1, 2, 3, 4, 5, 6, 7] (by kernel_rfl) (by kernel_rfl) (by kernel_rfl) ?_
            refine Sl.tk 0 (lst' := [true, false, false, false, false, false, false, false, false]) rfl (Sl.mvY rfl) rfl rfl rfl rfl (by kernel_rfl) (by kernel_rfl) Sl.perm rfl ?_
            refine Sl.tk 1 (lst' := [true, true, false, false, false, false, false, false, false]) rfl (Sl.ncY rfl) rfl rfl rfl rfl (by kernel_rfl) (by kernel_rfl) Sl.perm rfl ?_
            refine Sl.tk 2 (lst' := [true, true, true, false, false, false, false, false, false]) rfl (Sl.faY rfl) rfl rfl rfl rfl (by kernel_rfl) (by kernel_rfl) Sl.perm rfl ?_
            refine Sl.tk 3 (lst' := [true, true, true, true, false, false, false, false, false]) rfl (Sl.ldCY (ndh cb sv most er hits N') rfl (fun h q => q.head (i := 2) rfl)) rfl rfl rfl rfl (by kernel_rfl) (by kernel_rfl) Sl.perm rfl ?_
            refine Sl.tk 4 (lst' := [true, true, true, true, true, false, false, false, false]) rfl (Sl.mvY rfl) rfl rfl rfl rfl (by kernel_rfl) (by kernel_rfl) Sl.perm rfl ?_
            refine Sl.tk 5 (lst' := [true, true, true, true, true, true, false, false, false]) rfl (Sl.ncY rfl) rfl rfl rfl rfl (by kernel_rfl) (by kernel_rfl) Sl.perm rfl ?_
            refine Sl.tk 6 (lst' := [true, true, true, true, true, true, true, false, false]) rfl (Sl.faY rfl) rfl rfl rfl rfl (by kernel_rfl) (by kernel_rfl) Sl.perm rfl ?_
            refine Sl.tk 7 (lst' := [true, true, true, true, true, true, true, true, false]) rfl (Sl.ldNY (ndh cb sv most er hits N') rfl a 0 rfl rfl rfl hna' (by decide) rfl) rfl rfl rfl rfl (by kernel_rfl) (by kernel_rfl) Sl.perm rfl ?_
            refine Sl.rn1 8 (lst' := [true, true, true, true, true, true, true, true, true]) (by kernel_rfl) rfl rfl (fun hk hs hQ => ?_)
            refine Sl.dl (k := na'.key) (r := er) (l := ents) (evl := evE) (ek := Value.string) rfl rfl ?_
            refine Sl.en ?_
            refine Sl.thenN ?_
            refine Sl.bk hk hs hQ (fun _ => Sl.perm) ?_
            refine Sl.dn (by kernel_rfl) ?_
            refine Sl.thenN ?_
            exact Sl.join ⟨_, _, (hi.same hsame hok').del hnd na'.key, CInv.gone hnd hm, rfl, rfl⟩ ⟨rfl, rfl, rfl, rfl, trivial⟩ Sl.perm
          · skip
            refine Sl.sk ?_
            refine Sl.thenN ?_
            exact Sl.join ⟨_, _, hi, hm, rfl, rfl⟩ ⟨rfl, rfl, rfl, rfl, trivial⟩ Sl.perm
        rintro s L ⟨N, ents, hi, hm, rfl, rfl⟩
        refine Sl.sq ?_
        refine Sl.rg ?_
        refine Sl.mv rfl rfl ?_
        refine Sl.bd rfl rfl rfl ?_
        refine Sl.bxa rfl rfl (fun b50 => ?_)
        refine Sl.know (p := N (b50, 0) = none) (fun h q => ?_) (fun hnew => ?_)
        · have q' : Sats (blk b50 77 (ndc ⟨key, ⟨#[]⟩, false, none, none⟩) :: ndh cb sv most er hits N :: mpE er ents :: [F]) h := q
          exact (nds.more q').2.1
        refine Sl.asg rfl rfl ?_
        refine Sl.en ?_
        refine Sl.thenN ?_
        refine Sl.weakL (L' := ndh cb sv most er hits (N.upd (b50, 0) ⟨key, ⟨#[]⟩, false, none, none⟩) :: mpE er ents :: [F]) ?_ ?_
        · intro h q
          have q' : Sats (blk b50 77 (ndc ⟨key, ⟨#[]⟩, false, none, none⟩) :: ndh cb sv most er hits N :: mpE er ents :: [F]) h := q
          exact (nds.more q').1
        refine Sl.rg ?_
        refine Sl.mv rfl rfl ?_
        refine Sl.nc rfl rfl ?_
        refine Sl.fa rfl rfl ?_
        refine Sl.ldC (ndh cb sv most er hits (N.upd (b50, 0) ⟨key, ⟨#[]⟩, false, none, none⟩)) rfl rfl (fun h q => q.head (i := 2) rfl) ?_
        refine Sl.mv rfl rfl ?_
        refine Sl.mv rfl rfl ?_
        refine Sl.mu (k := key) (v := some b50) (r := er) (l := ents) (evl := evE) (ek := Value.string) rfl rfl rfl ?_
        refine Sl.en ?_
        refine Sl.thenN ?_
        exact Sl.join ⟨_, _, _, hi.fresh (n := ⟨key, ⟨#[]⟩, false, none, none⟩) hm hnew, rfl, rfl⟩ ⟨rfl, rfl, rfl, rfl, rfl, trivial⟩ Sl.perm
    · skip
      obtain ⟨o, hm⟩ : ∃ o, mget ents key = some o := by
        cases e : mget ents key with
        | none => rw [e] at h17; simp at h17
        | some o => exact ⟨o, rfl⟩
      obtain ⟨b, n, rfl, hn, hv⟩ := hi.ent _ _ hm
      simp only [hm, Option.getD_some]
      refine Sl.rg ?_
      refine Sl.mv rfl rfl ?_
      refine Sl.cl (out_h cb sv most er hits N (b, 0) n hn hi.ok) rfl rfl ?_
      rintro _ _ ⟨rfl, N', rfl, hok', hsame⟩
      simp only [List.cons_append, List.nil_append]
      refine Sl.en ?_
      refine Sl.thenN ?_
      exact Sl.join ⟨_, _, _, (hi.same hsame hok').old hm, rfl, rfl⟩ ⟨rfl, rfl, rfl, rfl, rfl, trivial⟩ Sl.perm
  rintro s L ⟨N, ents, b, hx, rfl, rfl⟩
  obtain ⟨n, hn⟩ := hx.node
  refine Sl.sq ?_
  refine Sl.rg ?_
  refine Sl.mv rfl rfl ?_
  refine Sl.mv rfl rfl ?_
  refine Sl.mv rfl rfl ?_
  refine Sl.mv rfl rfl ?_
  refine Sl.nc rfl rfl ?_
  refine Sl.fa rfl rfl ?_
  refine Sl.stN (ndh cb sv most er hits N) rfl (b, 0) 1 { n with val := val } rfl rfl rfl rfl rfl hn (by decide) (by simp [ndc]) ?_
  refine Sl.nc rfl rfl ?_
  refine Sl.fa rfl rfl ?_
  refine Sl.stN (ndh cb sv most er hits (N.upd (b, 0) { n with val := val })) rfl (b, 0) 2 { n with val := val, is := is } rfl rfl rfl rfl rfl (Nds.upd_at _ _ _) (by decide) (by simp [ndc]) ?_
  refine Sl.en ?_
  refine Sl.thenN ?_
  refine Sl.rg ?_
  refine Sl.mv rfl rfl ?_
  refine Sl.mv rfl rfl ?_
  obtain ⟨N2, hN2⟩ : ∃ N2, N2 = (N.upd (b, 0) { n with val := val }).upd (b, 0) { n with val := val, is := is } := ⟨_, rfl⟩
  have hN2' : N2 = N.upd (b, 0) { n with val := val, is := is } := by
    rw [hN2]; funext q; by_cases e : q = (b, 0) <;> simp [Nds.upd, e]
  obtain ⟨ns, hns⟩ : ∃ ns, N2 (cb, 3) = some ns := by rw [hN2']; exact Nds.upd_some hx.sent
  have hok2 : N2.Ok (some (b, 0)) := by rw [hN2']; exact hx.ok.upd (fun q hq _ => hq) (fun h => absurd rfl h)
  have hb3 : ((b, 0) : Nat × Nat) ≠ (cb, 3) := fun e => by injection e with e1 e2; cases e2
  rw [← hN2]
  refine Sl.cl (in_h cb sv most er hits N2 (b, 0) { n with val := val, is := is } (by rw [hN2']; exact Nds.upd_at _ _ _) hb3 hok2 ns hns) rfl rfl ?_
  rintro _ _ ⟨rfl, N', rfl, hok', hsame⟩
  simp only [List.cons_append, List.nil_append]
  rw [hN2'] at hsame
  refine Sl.en ?_
  exact Sl.ret0N [_] Tryz.results31 ⟨rfl, rfl⟩ (fun h q => cch.close (hx.fin hsame hok') h (Sl.perm (L' := [ndh cb sv most er hits N', mpE er ents, F]) h q))

theorem get_is (cb : Nat) (sv : Value) (most : Nat) (vw : Vw) (key : Str) (S : HP) (Q : Str → Bool → Int → HP → Prop)
    (hget : Fnc Tryz.prog 50 [sv, .string key] [S] (fun v L' => ∃ a b e S', v = .tuple [.string a, .bool b, .int .i64 e].toArray ∧ L' = [S'] ∧ Q a b e S' ∧ (e = 0 → (a, b) = vw key))) :
    Fnc Tryz.prog 37 [.pointer (some ⟨cb, 0, none⟩), .string key] [cache cb sv most vw, S]
    (fun v L' => ∃ a b e S', v = .tuple [.string a, .bool b, .int .i64 e].toArray ∧ L' = [cache cb sv most vw, S'] ∧ (e = 0 → (a, b) = vw key) ∧ ((e = 0 ∧ S' = S) ∨ Q a b e S')) := by
  refine Sl.fn_intro Tryz.func37 rfl Tryz.ntmps37 rfl (fun g F => ?_)
  simp only [Sl.slotsOf, List.cons_append, List.nil_append, Nat.reduceAdd]
  refine Sl.sq ?_
  refine Sl.rg ?_
  refine Sl.asg rfl rfl ?_
  refine Sl.asg rfl rfl ?_
  refine Sl.asg rfl rfl ?_
  refine Sl.en ?_
  refine Sl.thenN ?_
  refine Sl.sq ?_
  refine Sl.sq ?_
  refine Sl.opn (cache cb sv most vw) (fun x : { x : Nat × Int × Nds × List (Str × Option Nat) // CInv cb x.2.2.1 x.2.2.2 vw } => [ndh cb sv most x.1.1 x.1.2.1 x.1.2.2.1, mpE x.1.1 x.1.2.2.2]) cch.open ?_
  rintro ⟨⟨er, hits, N, ents⟩, hi⟩
  change CInv cb N ents vw at hi
  simp only [List.cons_append, List.nil_append]
  refine Sl.know (p := (keysOf ents).Nodup) (mp_nodup (ek := Value.string) (evl := evE) (r := er)) (fun hnd => ?_)
  refine Sl.rg ?_
  refine Sl.mv rfl rfl ?_
  refine Sl.eqlPN rfl rfl rfl ?_
  refine Sl.en ?_
  refine Sl.thenN ?_
  refine Sl.cdF rfl ?_
  refine Sl.sk ?_
  refine Sl.thenN ?_
  refine Sl.sq ?_
  refine Sl.sq ?_
  refine Sl.rg ?_
  refine Sl.mv rfl rfl ?_
  refine Sl.nc rfl rfl ?_
  refine Sl.fa rfl rfl ?_
  refine Sl.ldC (ndh cb sv most er hits N) rfl rfl (fun h q => q.head (i := 2) rfl) ?_
  refine Sl.mv rfl rfl ?_
  refine Sl.lk (r := er) (l := ents) (evl := evE) (z0 := none) rfl rfl rfl rfl ?_
  refine Sl.asg rfl rfl ?_
  refine Sl.en ?_
  refine Sl.thenN ?_
  refine Sl.sq ?_
  refine Sl.rg ?_
  refine Sl.mv rfl rfl ?_
  refine Sl.neqPN rfl rfl rfl ?_
  refine Sl.en ?_
  refine Sl.thenN ?_
  refine Sl.cd rfl (fun h20 => ?_) (fun h20 => ?_)
  · skip
    obtain ⟨o, hm⟩ : ∃ o, mget ents key = some o := by
      cases e : mget ents key with
      | none => rw [e] at h20; simp at h20
      | some o => exact ⟨o, rfl⟩
    obtain ⟨b, n, rfl, hn, hv⟩ := hi.ent _ _ hm
    simp only [hm, Option.getD_some]
    refine Sl.sq ?_
    refine Sl.rg ?_
    refine Sl.mv rfl rfl ?_
    refine Sl.nc rfl rfl ?_
    refine Sl.fa rfl rfl ?_
    refine Sl.ldC (v := .int .i64 hits) (ndh cb sv most er hits N) rfl rfl (fun h q => q.tail (i := 0) rfl) ?_
    refine Sl.arW (r := IntKind.i64.wrap (hits + 1)) rfl rfl rfl (fun w => by simp [binOp, Op.intArith]) ?_
    refine Sl.nc rfl rfl ?_
    refine Sl.fa rfl rfl ?_
    refine Sl.stC (ndh cb sv most er hits N) (ndh cb sv most er (IntKind.i64.wrap (hits + 1)) N) rfl rfl rfl (fun h q => q.setPost (i := 0) (Nat.zero_lt_one)) ?_
    refine Sl.en ?_
    refine Sl.thenN ?_
    refine Sl.sq ?_
    refine Sl.rg ?_
    refine Sl.mv rfl rfl ?_
    generalize IntKind.i64.wrap (hits + 1) = hits'
    refine Sl.cl (out_h cb sv most er hits' N (b, 0) n hn hi.ok) rfl rfl ?_
    rintro _ _ ⟨rfl, N1, rfl, hok1, hsame1⟩
    simp only [List.cons_append, List.nil_append]
    have hi1 := hi.same hsame1 hok1
    obtain ⟨ns1, hns1⟩ := hi1.sent
    obtain ⟨n1, hn1, hkv1⟩ := hsame1.has hn
    refine Sl.en ?_
    refine Sl.thenN ?_
    refine Sl.sq ?_
    refine Sl.rg ?_
    refine Sl.mv rfl rfl ?_
    refine Sl.mv rfl rfl ?_
    refine Sl.cl (in_h cb sv most er hits' N1 (b, 0) n1 hn1 (fun e => by injection e with e1 e2; cases e2) (hok1.weak (fun q hq => by cases hq)) ns1 hns1) rfl rfl ?_
    rintro _ _ ⟨rfl, N2, rfl, hok2, hsame2⟩
    simp only [List.cons_append, List.nil_append]
    have hi2 := hi1.same hsame2 hok2
    obtain ⟨n2, hn2, hkv2⟩ := hsame2.has hn1
    have hval : (n2.val, n2.is) = vw key := by rw [(kvi_eq hkv2).1, (kvi_eq hkv2).2, (kvi_eq hkv1).1, (kvi_eq hkv1).2]; exact hv
    refine Sl.en ?_
    refine Sl.thenN ?_
    refine Sl.sq ?_
    refine Sl.rgQ (by kernel_rfl) (by kernel_rfl) ?_
    refine Sl.mvQ rfl rfl ?_
    refine Sl.ncQ rfl rfl ?_
    refine Sl.faQ rfl rfl ?_
    refine Sl.ldNQ (ndh cb sv most er hits' N2) rfl (b, 0) 1 rfl rfl rfl rfl hn2 (by decide) (v := .string n2.val) rfl ?_
    refine Sl.mvQ rfl rfl ?_
    refine Sl.ncQ rfl rfl ?_
    refine Sl.faQ rfl rfl ?_
    refine Sl.ldNQ (ndh cb sv most er hits' N2) rfl (b, 0) 2 rfl rfl rfl rfl hn2 (by decide) (v := .bool n2.is) rfl ?_
    refine Sl.asgQ rfl rfl ?_
    refine Sl.asgQ rfl rfl ?_
    refine Sl.asgQ rfl rfl ?_
    refine Sl.enQ ?_
    refine Sl.thenN ?_
    refine Sl.rt ?_
    refine Sl.thenR ?_
    exact Sl.ret3 [cache cb sv most vw, S] Tryz.results37 rfl rfl rfl ⟨_, _, _, _, rfl, rfl, fun _ => hval, .inl ⟨rfl, rfl⟩⟩ (fun h q => cch.close hi2 h (Sl.perm (L' := [ndh cb sv most er hits' N2, mpE er ents, S, F]) h q))
  · skip
    refine Sl.sk ?_
    refine Sl.thenN ?_
    refine Sl.sq ?_
    refine Sl.rg ?_
    refine Sl.mv rfl rfl ?_
    refine Sl.nc rfl rfl ?_
    refine Sl.fa rfl rfl ?_
    refine Sl.ldC (ndh cb sv most er hits N) rfl rfl (fun h q => q.head (i := 0) rfl) ?_
    refine Sl.mv rfl rfl ?_
    refine Sl.cl hget rfl rfl ?_
    rintro _ _ ⟨a, bb, e, S', rfl, rfl, hQ, hvw⟩
    simp only [List.cons_append, List.nil_append]
    refine Sl.mv rfl rfl ?_
    refine Sl.xt rfl rfl rfl ?_
    refine Sl.xt rfl rfl rfl ?_
    refine Sl.xt rfl rfl rfl ?_
    refine Sl.asg rfl rfl ?_
    refine Sl.asg rfl rfl ?_
    refine Sl.asg rfl rfl ?_
    refine Sl.en ?_
    refine Sl.thenN ?_
    refine Sl.sq ?_
    refine Sl.cut ((fun s L => s = [(8, .string a), (9, .bool bb), (10, .int .i64 e)] ∧ L = [cache cb sv most vw, S', F])) ?_ ?_
    · skip
      refine Sl.sq ?_
      refine Sl.rg ?_
      refine Sl.mv rfl rfl ?_
      refine Sl.eqlI rfl rfl rfl ?_
      refine Sl.en ?_
      refine Sl.thenN ?_
      refine Sl.cdP rfl (fun h52 => ?_) (fun h52 => ?_)
      · skip
        refine Sl.weakL (fun h q => cch.close hi h (Sl.perm (L' := [ndh cb sv most er hits N, mpE er ents, S', F]) h q)) ?_
        refine Sl.rg ?_
        refine Sl.mv rfl rfl ?_
        refine Sl.mv rfl rfl ?_
        refine Sl.mv rfl rfl ?_
        refine Sl.mv rfl rfl ?_
        refine Sl.cl (keep_is cb sv most vw key a bb) rfl rfl ?_
        rintro _ _ ⟨rfl, rfl⟩
        simp only [List.cons_append, List.nil_append]
        rw [Vw.put_self (hvw h52)]
        refine Sl.en ?_
        refine Sl.thenN ?_
        exact Sl.join ⟨rfl, rfl⟩ ⟨rfl, rfl, rfl, trivial⟩ Sl.perm
      · skip
        refine Sl.sk ?_
        refine Sl.thenN ?_
        refine Sl.weakL (fun h q => cch.close hi h (Sl.perm (L' := [ndh cb sv most er hits N, mpE er ents, S', F]) h q)) ?_
        exact Sl.join ⟨rfl, rfl⟩ ⟨rfl, rfl, rfl, trivial⟩ Sl.perm
    rintro s L ⟨rfl, rfl⟩
    refine Sl.sq ?_
    refine Sl.rg ?_
    refine Sl.mv rfl rfl ?_
    refine Sl.mv rfl rfl ?_
    refine Sl.mv rfl rfl ?_
    refine Sl.asg rfl rfl ?_
    refine Sl.asg rfl rfl ?_
    refine Sl.asg rfl rfl ?_
    refine Sl.en ?_
    refine Sl.thenN ?_
    refine Sl.rt ?_
    exact Sl.ret3 [cache cb sv most vw, S'] Tryz.results37 rfl rfl rfl ⟨_, _, _, _, rfl, rfl, hvw, .inr hQ⟩ Sl.perm

theorem new_is (sa : Option Addr) (m : Int) (vw : Vw) : Fnc Tryz.prog 29 [.pointer sa, .int .i64 m] []
    (fun v L' => ∃ cb most, v = .pointer (some ⟨cb, 0, none⟩) ∧ L' = [cache cb (.pointer sa) most vw]) := by
  refine Sl.fn_intro Tryz.func29 rfl Tryz.ntmps29 rfl (fun g F => ?_)
  simp only [Sl.slotsOf, List.cons_append, List.nil_append, Nat.reduceAdd]
  refine Sl.sq ?_
  refine Sl.rg ?_
  refine Sl.asg rfl rfl ?_
  refine Sl.en ?_
  refine Sl.thenN ?_
  refine Sl.sq ?_
  refine Sl.rg ?_
  refine Sl.mv rfl rfl ?_
  refine Sl.mv rfl rfl ?_
  refine Sl.mxI rfl rfl rfl ?_
  refine Sl.mnI rfl rfl rfl ?_
  obtain ⟨most, hmost⟩ : ∃ most : Nat, (if 1024 < (if 0 > m then 0 else m) then 1024 else if 0 > m then 0 else m) = (most : Int) := ⟨(if 1024 < (if 0 > m then 0 else m) then 1024 else if 0 > m then 0 else m : Int).toNat, by split <;> (try split) <;> omega⟩
  rw [hmost]
  refine Sl.mk0 Str (Option Nat) Value.string evE rfl (fun r10 => ?_)
  refine Sl.bd rfl rfl rfl ?_
  refine Sl.bxa rfl rfl (fun b12 => ?_)
  refine Sl.asg rfl rfl ?_
  refine Sl.en ?_
  refine Sl.thenN ?_
  refine Sl.sq ?_
  refine Sl.rgT ([]) [0, 1, 2, 3, 4, 5, 6, 7, 8, 9, 10, 11, 12, 13, 14, 15] [0, 1, 2, 3, 4, 5, 6, 7, 8, 9, 10, 12, 13, 14] (by kernel_rfl) (by kernel_rfl) (by kernel_rfl) ?_
  refine Sl.tk 0 (lst' := [true, false, false, false, false, false, false, false, false, false, false, false, false, false, false, false]) rfl (Sl.mvY rfl) rfl rfl rfl rfl (by kernel_rfl) (by kernel_rfl) Sl.perm rfl ?_
  refine Sl.tk 1 (lst' := [true, true, false, false, false, false, false, false, false, false, false, false, false, false, false, false]) rfl (Sl.mvY rfl) rfl rfl rfl rfl (by kernel_rfl) (by kernel_rfl) Sl.perm rfl ?_
  refine Sl.tk 2 (lst' := [true, true, true, false, false, false, false, false, false, false, false, false, false, false, false, false]) rfl (Sl.mvY rfl) rfl rfl rfl rfl (by kernel_rfl) (by kernel_rfl) Sl.perm rfl ?_
  refine Sl.tk 3 (lst' := [true, true, true, true, false, false, false, false, false, false, false, false, false, false, false, false]) rfl (Sl.ncY rfl) rfl rfl rfl rfl (by kernel_rfl) (by kernel_rfl) Sl.perm rfl ?_
  refine Sl.tk 4 (lst' := [true, true, true, true, true, false, false, false, false, false, false, false, false, false, false, false]) rfl (Sl.faY rfl) rfl rfl rfl rfl (by kernel_rfl) (by kernel_rfl) Sl.perm rfl ?_
  refine Sl.tk 5 (lst' := [true, true, true, true, true, true, false, false, false, false, false, false, false, false, false, false]) rfl (Sl.mvY rfl) rfl rfl rfl rfl (by kernel_rfl) (by kernel_rfl) Sl.perm rfl ?_
  refine Sl.tk 6 (lst' := [true, true, true, true, true, true, true, false, false, false, false, false, false, false, false, false]) rfl (Sl.ncY rfl) rfl rfl rfl rfl (by kernel_rfl) (by kernel_rfl) Sl.perm rfl ?_
  refine Sl.tk 7 (lst' := [true, true, true, true, true, true, true, true, false, false, false, false, false, false, false, false]) rfl (Sl.faY rfl) rfl rfl rfl rfl (by kernel_rfl) (by kernel_rfl) Sl.perm rfl ?_
  refine Sl.tk 8 (lst' := [true, true, true, true, true, true, true, true, true, false, false, false, false, false, false, false]) rfl (Sl.ncY rfl) rfl rfl rfl rfl (by kernel_rfl) (by kernel_rfl) Sl.perm rfl ?_
  refine Sl.tk 9 (lst' := [true, true, true, true, true, true, true, true, true, true, false, false, false, false, false, false]) rfl (Sl.faY rfl) rfl rfl rfl rfl (by kernel_rfl) (by kernel_rfl) Sl.perm rfl ?_
  refine Sl.tk 10 (lst' := [true, true, true, true, true, true, true, true, true, true, true, false, false, false, false, false]) rfl (Sl.faY rfl) rfl rfl rfl rfl (by kernel_rfl) (by kernel_rfl) Sl.perm rfl ?_
  refine Sl.rn1 11 (lst' := [true, true, true, true, true, true, true, true, true, true, true, true, false, false, false, false]) (by kernel_rfl) rfl rfl (fun hk hs hQ => ?_)
  refine Sl.st rfl rfl rfl rfl ?_
  refine Sl.en ?_
  refine Sl.thenN ?_
  refine Sl.bk hk hs hQ (fun _ => Sl.perm) ?_
  refine Sl.tk 12 (lst' := [true, true, true, true, true, true, true, true, true, true, true, true, true, false, false, false]) rfl (Sl.ncY rfl) rfl rfl rfl rfl (by kernel_rfl) (by kernel_rfl) Sl.perm rfl ?_
  refine Sl.tk 13 (lst' := [true, true, true, true, true, true, true, true, true, true, true, true, true, true, false, false]) rfl (Sl.faY rfl) rfl rfl rfl rfl (by kernel_rfl) (by kernel_rfl) Sl.perm rfl ?_
  refine Sl.tk 14 (lst' := [true, true, true, true, true, true, true, true, true, true, true, true, true, true, true, false]) rfl (Sl.faY rfl) rfl rfl rfl rfl (by kernel_rfl) (by kernel_rfl) Sl.perm rfl ?_
  refine Sl.rn1 15 (lst' := [true, true, true, true, true, true, true, true, true, true, true, true, true, true, true, true]) (by kernel_rfl) rfl rfl (fun hk hs hQ => ?_)
  refine Sl.st rfl rfl rfl rfl ?_
  refine Sl.en ?_
  refine Sl.thenN ?_
  refine Sl.bk hk hs hQ (fun _ => Sl.perm) ?_
  refine Sl.dn (by kernel_rfl) ?_
  refine Sl.thenN ?_
  refine Sl.sq ?_
  refine Sl.rg ?_
  refine Sl.mv rfl rfl ?_
  refine Sl.asg rfl rfl ?_
  refine Sl.en ?_
  refine Sl.thenN ?_
  refine Sl.rt ?_
  refine Sl.ret1 [cache b12 (.pointer sa) most vw] Tryz.results29 rfl ⟨_, _, rfl, rfl⟩ (fun h q => ?_)
  have q0 : Sats [blk b12 79 [.pointer sa, .int .i64 (most : Nat), .map (some r10), .string ⟨#[]⟩, .string ⟨#[]⟩, .bool false, .pointer (some ⟨b12, 0 + 3, none⟩), .pointer (some ⟨b12, 0 + 3, none⟩), .int .i64 0], mpE r10 [], F] h := Sl.perm h q
  have q1 : Sats (blk b12 79 ([.pointer sa, .int .i64 (most : Nat), .map (some r10)] ++ ndc ⟨⟨#[]⟩, ⟨#[]⟩, false, some (b12, 3), some (b12, 3)⟩ ++ [.int .i64 0]) :: mpE r10 [] :: [F]) h := q0
  refine cch.close (er := r10) (hits := 0) (N := fun p => if p = (b12, 3) then some ⟨⟨#[]⟩, ⟨#[]⟩, false, some (b12, 3), some (b12, 3)⟩ else none) (ents := []) ⟨fun p n hp _ => ?_, ⟨_, if_pos rfl⟩, fun k e he => (by cases he), fun k j b he => (by cases he)⟩ h (Sats.headMono (fun k hk => nds.new rfl hk) q1)
  by_cases e : p = (b12, 3)
  · rw [if_pos e] at hp; cases hp; exact ⟨_, _, rfl, rfl, ⟨_, if_pos rfl⟩, ⟨_, if_pos rfl⟩⟩
  · rw [if_neg e] at hp; cases hp

theorem apply_is (cb : Nat) (sv : Value) (most : Nat) (vw : Vw) (A S : HP) (a : Option Addr) (cap : Nat) (ws : List Wr) (hA : SlIs A encW 3 a ws.length ws) (hbig : ws.length < 9223372036854775807) (Q : Int → HP → Prop)
    (hap : Fnc Tryz.prog 30 [sv, .slice a ws.length cap] [A, S] (fun v L' => ∃ e S', v = .int .i64 e ∧ L' = [A, S'] ∧ Q e S')) :
    Fnc Tryz.prog 9 [.pointer (some ⟨cb, 0, none⟩), .slice a ws.length cap] [A, cache cb sv most vw, S]
    (fun v L' => ∃ e S', v = .int .i64 e ∧ L' = [A, cache cb sv most (if e = 0 then vw.app ws else vw), S'] ∧ Q e S') := by
  refine Sl.fn_intro Tryz.func9 rfl Tryz.ntmps9 rfl (fun g F => ?_)
  simp only [Sl.slotsOf, List.cons_append, List.nil_append, Nat.reduceAdd]
  refine Sl.sq ?_
  refine Sl.rg ?_
  refine Sl.asg rfl rfl ?_
  refine Sl.en ?_
  refine Sl.thenN ?_
  refine Sl.sq ?_
  refine Sl.sq ?_
  refine Sl.rg ?_
  refine Sl.mv rfl rfl ?_
  refine Sl.eqlPN rfl rfl rfl ?_
  refine Sl.en ?_
  refine Sl.thenN ?_
  refine Sl.cdF rfl ?_
  refine Sl.sk ?_
  refine Sl.thenN ?_
  refine Sl.sq ?_
  refine Sl.opn (cache cb sv most vw) (fun x : { x : Nat × Int × Nds × List (Str × Option Nat) // CInv cb x.2.2.1 x.2.2.2 vw } => [ndh cb sv most x.1.1 x.1.2.1 x.1.2.2.1, mpE x.1.1 x.1.2.2.2]) cch.open ?_
  rintro ⟨⟨er, hits, N, ents⟩, hi⟩
  change CInv cb N ents vw at hi
  simp only [List.cons_append, List.nil_append]
  refine Sl.know (p := (keysOf ents).Nodup) (mp_nodup (ek := Value.string) (evl := evE) (r := er)) (fun hnd => ?_)
  refine Sl.rg ?_
  refine Sl.mv rfl rfl ?_
  refine Sl.nc rfl rfl ?_
  refine Sl.fa rfl rfl ?_
  refine Sl.ldC (ndh cb sv most er hits N) rfl rfl (fun h q => q.head (i := 0) rfl) ?_
  refine Sl.mv rfl rfl ?_
  refine Sl.cl hap rfl rfl ?_
  rintro _ _ ⟨e, S', rfl, rfl, hQ⟩
  simp only [List.cons_append, List.nil_append]
  refine Sl.weakL (L' := [A, S', cache cb sv most vw, F]) (fun h q => (Sl.perm (L' := [A, S', cache cb sv most vw, F]) h (cch.close hi h (Sl.perm (L' := [ndh cb sv most er hits N, mpE er ents, A, S', F]) h q)))) ?_
  refine Sl.asg rfl rfl ?_
  refine Sl.en ?_
  refine Sl.thenN ?_
  refine Sl.sq ?_
  refine Sl.sq ?_
  refine Sl.rg ?_
  refine Sl.mv rfl rfl ?_
  refine Sl.eqlI rfl rfl rfl ?_
  refine Sl.en ?_
  refine Sl.thenN ?_
  refine Sl.cdP rfl (fun h17 => ?_) (fun h17 => ?_)
  · skip
    refine Sl.sq ?_
    refine Sl.rg ?_
    refine Sl.mv rfl rfl ?_
    refine Sl.lnL rfl rfl ?_
    refine Sl.mv rfl rfl ?_
    refine Sl.en ?_
    refine Sl.thenN ?_
    refine Sl.bl ?_
    refine Sl.lp0 (fun m s L => ∃ j : Nat, j ≤ ws.length ∧ m = ws.length - j ∧
        s = [(20, .int .i64 (j : Nat)), (19, .int .i64 (ws.length : Nat)), (18, .slice a ws.length cap), (5, .int .i64 e), (0, .pointer (some ⟨cb, 0, none⟩))] ∧ L = [A, S', cache cb sv most (vw.app (ws.take j)), F])
        ws.length _ _ ⟨0, Nat.zero_le _, rfl, rfl, rfl⟩ ⟨rfl, rfl, rfl, rfl, rfl, trivial⟩ (by rw [show vw.app (ws.take 0) = vw from by simp [Vw.app]]; exact Sl.perm) ?_
    rintro m s L ⟨j, hj, rfl, rfl, rfl⟩
    refine Sl.sq ?_
    refine Sl.rg ?_
    refine Sl.lss rfl rfl rfl ?_
    refine Sl.en ?_
    refine Sl.thenN ?_
    refine Sl.sq ?_
    refine Sl.cdP rfl (fun h21 => ?_) (fun h21 => ?_)
    · skip
      refine Sl.sk ?_
      refine Sl.thenN ?_
      refine Sl.sq ?_
      refine Sl.bl ?_
      refine Sl.sq ?_
      obtain ⟨⟨k, vl, gn⟩, hw⟩ : ∃ w : Wr, ws[j]? = some w := ⟨ws[j], by simp⟩
      refine Sl.slAddr A hA (by omega) (fun ab ao ha => ?_)
      subst ha
      refine Sl.rg ?_
      refine Sl.ia rfl rfl rfl (by omega) ?_
      refine Sl.ldEa A hA j hw rfl rfl rfl ?_
      refine Sl.al rfl (fun b7 => ?_)
      refine Sl.sta rfl rfl rfl (by simp [encW, Value.oneCell']) rfl ?_
      refine Sl.en ?_
      refine Sl.thenN ?_
      refine Sl.sq ?_
      refine Sl.sq ?_
      refine Sl.rg ?_
      refine Sl.fa rfl rfl ?_
      refine Sl.ld rfl rfl rfl ?_
      refine Sl.en ?_
      refine Sl.thenN ?_
      refine Sl.cd rfl (fun h25 => ?_) (fun h25 => ?_)
      · skip
        subst h25
        refine Sl.rg ?_
        refine Sl.fa rfl rfl ?_
        refine Sl.st rfl rfl rfl rfl ?_
        refine Sl.en ?_
        refine Sl.thenN ?_
        refine Sl.rg ?_
        refine Sl.mv rfl rfl ?_
        refine Sl.fa rfl rfl ?_
        refine Sl.ld rfl rfl rfl ?_
        refine Sl.fa rfl rfl ?_
        refine Sl.ld rfl rfl rfl ?_
        refine Sl.fa rfl rfl ?_
        refine Sl.ld rfl rfl rfl ?_
        refine Sl.nt rfl rfl ?_
        refine Sl.cl (keep_is cb sv most (vw.app (ws.take j)) k ⟨#[]⟩ false) rfl rfl ?_
        rintro _ _ ⟨rfl, rfl⟩
        simp only [List.cons_append, List.nil_append]
        have hnow : Wr.now (k, vl, true) = (⟨#[]⟩, false) := rfl
        refine Sl.en ?_
        refine Sl.blkN ?_
        refine Sl.thenN ?_
        refine Sl.rg ?_
        refine Sl.add rfl rfl rfl (Sl.fits_i64 (by omega)) ?_
        refine Sl.mv rfl rfl ?_
        refine Sl.en ?_
        refine Sl.thenN ?_
        exact Sl.again (m' := ws.length - (j + 1)) ⟨j + 1, by omega, rfl, rfl, rfl⟩ (by omega) ⟨rfl, rfl, rfl, rfl, rfl, trivial⟩ (by rw [take_snoc hw, Vw.app_snoc, hnow]; exact Sl.perm)
      · skip
        subst h25
        refine Sl.sk ?_
        refine Sl.thenN ?_
        refine Sl.rg ?_
        refine Sl.mv rfl rfl ?_
        refine Sl.fa rfl rfl ?_
        refine Sl.ld rfl rfl rfl ?_
        refine Sl.fa rfl rfl ?_
        refine Sl.ld rfl rfl rfl ?_
        refine Sl.fa rfl rfl ?_
        refine Sl.ld rfl rfl rfl ?_
        refine Sl.nt rfl rfl ?_
        refine Sl.cl (keep_is cb sv most (vw.app (ws.take j)) k vl true) rfl rfl ?_
        rintro _ _ ⟨rfl, rfl⟩
        simp only [List.cons_append, List.nil_append]
        have hnow : Wr.now (k, vl, false) = (vl, true) := rfl
        refine Sl.en ?_
        refine Sl.blkN ?_
        refine Sl.thenN ?_
        refine Sl.rg ?_
        refine Sl.add rfl rfl rfl (Sl.fits_i64 (by omega)) ?_
        refine Sl.mv rfl rfl ?_
        refine Sl.en ?_
        refine Sl.thenN ?_
        exact Sl.again (m' := ws.length - (j + 1)) ⟨j + 1, by omega, rfl, rfl, rfl⟩ (by omega) ⟨rfl, rfl, rfl, rfl, rfl, trivial⟩ (by rw [take_snoc hw, Vw.app_snoc, hnow]; exact Sl.perm)
    · skip
      refine Sl.xi ?_
      refine Sl.thenE ?_
      refine Sl.thenE ?_
      refine Sl.blkE ?_
      refine Sl.thenN ?_
      refine Sl.sq ?_
      refine Sl.rg ?_
      refine Sl.mv rfl rfl ?_
      refine Sl.asg rfl rfl ?_
      refine Sl.en ?_
      refine Sl.thenN ?_
      refine Sl.rt ?_
      obtain rfl : j = ws.length := by omega
      exact Sl.ret1 [A, cache cb sv most (vw.app ws), S'] Tryz.results9 rfl ⟨e, S', rfl, by rw [if_pos h17], hQ⟩ (by rw [List.take_length]; exact Sl.perm)
  · skip
    refine Sl.sk ?_
    refine Sl.thenN ?_
    refine Sl.sq ?_
    refine Sl.rg ?_
    refine Sl.mv rfl rfl ?_
    refine Sl.asg rfl rfl ?_
    refine Sl.en ?_
    refine Sl.thenN ?_
    refine Sl.rt ?_
    exact Sl.ret1 [A, cache cb sv most vw, S'] Tryz.results9 rfl ⟨e, S', rfl, by rw [if_neg h17], hQ⟩ Sl.perm
end Go.Proofs.YtdcjlbfmdkgcpaaGreatDoor
