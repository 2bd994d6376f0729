/- The list of branches. -/
import Derived.Test.YtdcjlbfmdkgcpaaGreatDoorProg
import Derived.Test.YtdcjlbfmdkgcpaaGreatDoorSc
set_option linter.unusedSimpArgs false
set_option linter.unusedVariables false
namespace Go.Proofs.YtdcjlbfmdkgcpaaGreatDoor
open Go.Sl
instance tyLiAg24 : Sl.Ag Tryz.prog 24 33 := ⟨Tryz.isAgg24, Tryz.sizeOf24⟩
instance tyLiAg52 : Sl.Ag Tryz.prog 52 1 := ⟨Tryz.isAgg52, Tryz.sizeOf52⟩
instance tyLiAg57 : Sl.Ag Tryz.prog 57 2 := ⟨Tryz.isAgg57, Tryz.sizeOf57⟩
instance tyLiBy39 : Sl.ByT Tryz.prog 39 56 := ⟨fun w => ⟨_, Tryz.typeInfo39 w, rfl⟩⟩
instance tyLiBy57 : Sl.ByT Tryz.prog 57 32 := ⟨fun w => ⟨_, Tryz.typeInfo57 w, rfl⟩⟩
instance tyLiCa26 : Sl.Ca Tryz.prog 26 := ⟨Tryz.call26⟩
instance tyLiCa32 : Sl.Ca Tryz.prog 32 := ⟨Tryz.call32⟩
instance tyLiCa34 : Sl.Ca Tryz.prog 34 := ⟨Tryz.call34⟩
instance tyLiCa35 : Sl.Ca Tryz.prog 35 := ⟨Tryz.call35⟩
instance tyLiCa37 : Sl.Ca Tryz.prog 37 := ⟨Tryz.call37⟩
instance tyLiCa39 : Sl.Ca Tryz.prog 39 := ⟨Tryz.call39⟩
instance tyLiCa40 : Sl.Ca Tryz.prog 40 := ⟨Tryz.call40⟩
instance tyLiFa52_0 : Sl.Fa Tryz.prog 52 0 0 := Sl.Fa.mk' Tryz.runUnderlying52 rfl rfl rfl Tryz.sizeOf27 (by decide)
instance tyLiFa57_0 : Sl.Fa Tryz.prog 57 0 0 := Sl.Fa.mk' Tryz.runUnderlying57 rfl rfl rfl Tryz.sizeOf9 (by decide)
instance tyLiFa57_1 : Sl.Fa Tryz.prog 57 1 1 := Sl.Fa.mk' Tryz.runUnderlying57 rfl rfl rfl Tryz.sizeOf9 (by decide)
instance tyLiSc27 : Sl.Sc Tryz.prog 27 := ⟨Tryz.isAgg27, Tryz.sizeOf27⟩
instance tyLiSc9 : Sl.Sc Tryz.prog 9 := ⟨Tryz.isAgg9, Tryz.sizeOf9⟩
instance tyLiSl35 : Sl.SlT Tryz.prog 35 39 34 := ⟨Tryz.runUnderlying35, Tryz.sizeOf39⟩
instance tyLiSl43 : Sl.SlT Tryz.prog 43 57 2 := ⟨Tryz.runUnderlying43, Tryz.sizeOf57⟩
instance tyLiSt9 : Sl.StrT Tryz.prog 9 := ⟨Tryz.runUnderlying9⟩
instance tyLiSs39 : Sl.StT Tryz.prog 39 [(0, 1), (1, 33)] := ⟨⟨_, Tryz.runUnderlying39, fun w => by simp [Tryz.sizeOf24, Tryz.sizeOf9]⟩⟩
instance tyLiSs52 : Sl.StT Tryz.prog 52 [(0, 1)] := ⟨⟨_, Tryz.runUnderlying52, fun w => by simp [Tryz.sizeOf27]⟩⟩
instance tyLiSu35 : Sl.SlU Tryz.prog 35 := ⟨.inl ⟨_, Tryz.runUnderlying35⟩⟩
instance tyLiZv24 : Sl.Zv Tryz.prog 24 (.agg [.int .u8 0, .int .u8 0, .int .u8 0, .int .u8 0, .int .u8 0, .int .u8 0, .int .u8 0, .int .u8 0, .int .u8 0, .int .u8 0, .int .u8 0, .int .u8 0, .int .u8 0, .int .u8 0, .int .u8 0, .int .u8 0, .int .u8 0, .int .u8 0, .int .u8 0, .int .u8 0, .int .u8 0, .int .u8 0, .int .u8 0, .int .u8 0, .int .u8 0, .int .u8 0, .int .u8 0, .int .u8 0, .int .u8 0, .int .u8 0, .int .u8 0, .int .u8 0, .int .u8 0].toArray) := ⟨Tryz.zeroValue24⟩
instance tyLiZv39 : Sl.Zv Tryz.prog 39 (.agg [.string ⟨#[]⟩, .int .u8 0, .int .u8 0, .int .u8 0, .int .u8 0, .int .u8 0, .int .u8 0, .int .u8 0, .int .u8 0, .int .u8 0, .int .u8 0, .int .u8 0, .int .u8 0, .int .u8 0, .int .u8 0, .int .u8 0, .int .u8 0, .int .u8 0, .int .u8 0, .int .u8 0, .int .u8 0, .int .u8 0, .int .u8 0, .int .u8 0, .int .u8 0, .int .u8 0, .int .u8 0, .int .u8 0, .int .u8 0, .int .u8 0, .int .u8 0, .int .u8 0, .int .u8 0, .int .u8 0].toArray) := ⟨Tryz.zeroValue39⟩
instance tyLiZv52 : Sl.Zv Tryz.prog 52 (.agg [.pointer none].toArray) := ⟨Tryz.zeroValue52⟩
instance tyLiZv57 : Sl.Zv Tryz.prog 57 (.agg [.string ⟨#[]⟩, .string ⟨#[]⟩].toArray) := ⟨Tryz.zeroValue57⟩
/-- One branch: its name, its commit's kind and sum. -/
abbrev Br := Str × UInt8 × List UInt8
def encR (r : Br) : List Value := .string r.1 :: idc r.2.1 r.2.2
def tailS (s : Str) : Str := s.extract 1 s.size
def headR (s : Str) : Bool := decide (s.extract 0 1 = ⟨#[114]⟩)
/-- What a list of branches tells: the branches, an error's number. -/
def listGo : Prs → List Br → List Br × Int
  | [], out => (out, 0)
  | p :: zs, out => if headR p.1 then match parseT p.2 with
      | none => ([], 4)
      | some (k, bs) => if gname (tailS p.1) && !decide (out.length = 32) then listGo zs (out ++ [(tailS p.1, k, bs)]) else ([], 4)
    else (out, 0)
theorem encR_len {r : Br} (h : r.2.2.length = 32) : (encR r).length = 34 := by simp [encR, idc, h]
theorem encR_one {r : Br} : ∀ v ∈ encR r, v.oneCell' = true := fun v hv => by
  simp only [encR, List.mem_cons] at hv
  rcases hv with rfl | hv
  · rfl
  · exact idc_one v (by simpa [idc] using hv)
theorem parse_len {t : Str} {k : UInt8} {bs : List UInt8} (h : parseT t = some (k, bs)) : bs.length = 32 := by
  have := idOf_len t
  rw [h] at this
  simpa [idOf, idc] using this
theorem ge_r {s : Str} (h : slt s ⟨#[114]⟩ = false) : 1 ≤ s.size := by
  rcases Nat.eq_zero_or_pos s.size with q | q
  · have e : s = ⟨#[]⟩ := by apply ByteArray.ext; exact Array.eq_empty_of_size_eq_zero q
    subst e; rw [slt, toList_data, toList_data] at h; simp [Op.bytesLess] at h
  · exact q
theorem bld_ref {k : UInt8} {bs : List UInt8} {d : Str} {zs : List Value} (hb : bs.length = 32) (hz : zs.length = 34) : bld [(0, 1), (1, 33)] zs [(0, .string d), (1, .agg (idc k bs).toArray)] = some (encR (d, k, bs)) := by
  match zs, hz with
  | x :: zs', hz =>
    have h2 : setR (.string d :: zs') 1 (idc k bs) = some (.string d :: idc k bs) := by
      have := setR_app (vs := idc k bs) (l1 := [.string d]) (l2 := zs') (by rw [idc_len hb]; simp at hz; omega)
      rw [idc_len hb, List.drop_of_length_le (by simp at hz; omega)] at this
      simpa using this
    have e1 : (cellsL (.agg (idc k bs).toArray)).length = 33 := idc_len hb
    have h1 : setR (x :: zs') 0 (cellsL (.string d)) = some (.string d :: zs') := rfl
    simp only [bld, List.getElem?_cons_zero, List.getElem?_cons_succ, h1, e1, true_and, show (cellsL (.string d)).length = 1 from rfl, show (0 : Nat) < 1 from by decide, show (0 : Nat) < 33 from by decide, if_true]
    rw [show cellsL (.agg (idc k bs).toArray) = idc k bs from rfl, h2]
    rfl

theorem rlist_is (sortH : SortHyp) (cb sb most : Nat) (l pl : Prs) (hr : Rel pl l) (hbig : l.length < 2147483648) :
    Fnc Tryz.prog 11 [.pointer (some ⟨cb, 0, none⟩)] [cachM cb sb most l, memS sb l]
    (fun v L' => ∃ a cap A, v = .tuple [.slice a (listGo (scanP pl ⟨#[114]⟩ 33) []).1.length cap, .int .i64 (listGo (scanP pl ⟨#[114]⟩ 33) []).2].toArray ∧ SlIs A encR 34 a (listGo (scanP pl ⟨#[114]⟩ 33) []).1.length (listGo (scanP pl ⟨#[114]⟩ 33) []).1 ∧ L' = [A, cachM cb sb most l, memS sb l]) := by
  refine Sl.fn_intro Tryz.func11 rfl Tryz.ntmps11 rfl (fun g F => ?_)
  simp only [Sl.slotsOf, List.cons_append, List.nil_append, Nat.reduceAdd]
  refine Sl.sq ?_
  refine Sl.rg ?_
  refine Sl.asg rfl rfl ?_
  refine Sl.asg rfl rfl ?_
  refine Sl.en ?_
  refine Sl.thenN ?_
  refine Sl.sq ?_
  refine Sl.rg ?_
  refine Sl.mv rfl rfl ?_
  refine Sl.cl (key_is ⟨#[]⟩ (by decide)) rfl rfl ?_
  rintro _ _ ⟨rfl, rfl⟩
  simp only [List.nil_append]
  rw [show keyS ⟨#[]⟩ = ⟨#[114]⟩ from rfl]
  refine Sl.cl (cscan_is cb (sp sb) most (memV l) ⟨#[114]⟩ 33 (memS sb l) (fun v L1 => ∃ a cap A, v = .tuple [.slice a (scanP pl ⟨#[114]⟩ 33).length cap, .int .i64 0].toArray ∧ SlIs A encP 2 a (scanP pl ⟨#[114]⟩ 33).length (scanP pl ⟨#[114]⟩ 33) ∧ L1 = [A, memS sb l])
    (fnc_imp (sscan_is sortH sb l pl ⟨#[114]⟩ 33 hr hbig) (by rintro v L' ⟨a, cap, A, rfl, hA, rfl⟩; exact ⟨_, _, _, rfl, rfl, a, cap, A, rfl, hA, rfl⟩))) rfl rfl ?_
  rintro _ _ ⟨L1, rfl, za, zc, A, rfl, hA, rfl⟩
  obtain ⟨zs, hzs⟩ : ∃ zs, zs = scanP pl ⟨#[114]⟩ 33 := ⟨_, rfl⟩
  have hge : ∀ p ∈ zs, slt p.1 ⟨#[114]⟩ = false := fun p hp => by
    rw [hzs] at hp
    have := (List.mem_filter.1 (List.mem_of_mem_take hp)).2
    simpa using this
  have hzl : zs.length ≤ 33 := by rw [hzs]; exact List.length_take_le _ _
  rw [← hzs] at hA
  rw [← hzs]
  simp only [List.cons_append, List.nil_append]
  refine Sl.mv rfl rfl ?_
  refine Sl.xt rfl rfl rfl ?_
  refine Sl.xt rfl rfl rfl ?_
  refine Sl.asg rfl rfl ?_
  refine Sl.asg rfl rfl ?_
  refine Sl.en ?_
  refine Sl.thenN ?_
  refine Sl.sq ?_
  refine Sl.sq ?_
  refine Sl.rg ?_
  refine Sl.mv rfl rfl ?_
  refine Sl.neqI rfl rfl rfl ?_
  refine Sl.en ?_
  refine Sl.thenN ?_
  refine Sl.cdF rfl ?_
  refine Sl.sk ?_
  refine Sl.thenN ?_
  refine Sl.sq ?_
  refine Sl.rg ?_
  refine Sl.asg rfl rfl ?_
  refine Sl.en ?_
  refine Sl.thenN ?_
  refine Sl.sq ?_
  refine Sl.sq ?_
  refine Sl.rg ?_
  refine Sl.mv rfl rfl ?_
  refine Sl.lnL rfl rfl ?_
  refine Sl.mv rfl rfl ?_
  refine Sl.en ?_
  refine Sl.thenN ?_
  refine Sl.bl ?_
  refine Sl.nilO 39 encR 34 ?_
  refine Sl.lp0 (fun m s L => ∃ (j : Nat) (out : List Br) (a : Option Addr) (cap ct : Nat), j ≤ zs.length ∧ m = zs.length - j ∧ listGo (zs.drop j) out = listGo zs [] ∧ (∀ r ∈ out, r.2.2.length = 32) ∧ out.length ≤ 32 ∧
      s = [(22, .int .i64 (j : Nat)), (21, .int .i64 (zs.length : Nat)), (20, .slice za zs.length zc), (6, .slice a out.length cap)] ∧ L = [A, cachM cb sb most l, memS sb l, osl ct encR 34 a cap out, F])
      zs.length _ _ ⟨0, [], none, 0, 39, Nat.zero_le _, rfl, rfl, fun r hr => (by cases hr), Nat.zero_le _, rfl, rfl⟩ ⟨rfl, rfl, rfl, rfl, trivial⟩ Sl.perm ?_
  rintro m s L ⟨j, out, a, cap, ct, hj, rfl, hgo, hout, ho32, rfl, rfl⟩
  refine Sl.sq ?_
  refine Sl.rg ?_
  refine Sl.lss rfl rfl rfl ?_
  refine Sl.en ?_
  refine Sl.thenN ?_
  refine Sl.sq ?_
  refine Sl.cdP rfl (fun h23 => ?_) (fun h23 => ?_)
  · skip
    refine Sl.sk ?_
    refine Sl.thenN ?_
    refine Sl.sq ?_
    refine Sl.bl ?_
    refine Sl.sq ?_
    obtain ⟨p, hw⟩ : ∃ p, zs[j]? = some p := ⟨zs[j]'(by omega), by simp⟩
    have hdrop : zs.drop j = p :: zs.drop (j + 1) := by
      have hlt : j < zs.length := by omega
      rw [List.drop_eq_getElem_cons hlt]
      have : zs[j] = p := by rw [List.getElem?_eq_getElem hlt] at hw; exact Option.some.inj hw
      rw [this]
    have hge1 := ge_r (hge p (List.mem_of_getElem? hw))
    refine Sl.slAddr A hA (by omega) (fun ab ao ha => ?_)
    subst ha
    refine Sl.rg ?_
    refine Sl.ia rfl rfl rfl (by omega) ?_
    refine Sl.ldEa A hA j hw rfl rfl rfl ?_
    refine Sl.al rfl (fun b8 => ?_)
    refine Sl.sta rfl rfl rfl (by simp [encP, Value.oneCell']) rfl ?_
    refine Sl.en ?_
    refine Sl.thenN ?_
    refine Sl.sq ?_
    refine Sl.sq ?_
    refine Sl.rg ?_
    refine Sl.fa rfl rfl ?_
    refine Sl.ld rfl rfl rfl ?_
    refine Sl.slSh rfl rfl rfl (by omega) ?_
    refine Sl.neqS rfl rfl rfl ?_
    refine Sl.en ?_
    refine Sl.thenN ?_
    refine Sl.cdP rfl (fun h29 => ?_) (fun h29 => ?_)
    · skip
      have hhead : headR p.1 = false := by simp [headR]; exact h29
      refine Sl.xi ?_
      refine Sl.thenE ?_
      refine Sl.blkX rfl ?_
      refine Sl.thenE ?_
      refine Sl.thenE ?_
      refine Sl.blkE ?_
      refine Sl.thenN ?_
      refine Sl.sq ?_
      refine Sl.rg ?_
      refine Sl.mv rfl rfl ?_
      refine Sl.asg rfl rfl ?_
      refine Sl.asg rfl rfl ?_
      refine Sl.en ?_
      refine Sl.thenN ?_
      refine Sl.rt ?_
      have hres : listGo zs [] = (out, 0) := by rw [← hgo, hdrop]; simp [listGo, hhead]
      exact Sl.ret2 [osl ct encR 34 a cap out, cachM cb sb most l, memS sb l] Tryz.results11 rfl rfl ⟨a, cap, _, by rw [hres], by rw [hres]; exact osl_is (fun r hr => encR_len (hout r hr)), rfl⟩ Sl.perm
    · skip
      have hhead : headR p.1 = true := by simpa [headR] using h29
      refine Sl.sk ?_
      refine Sl.thenN ?_
      refine Sl.sq ?_
      refine Sl.rg ?_
      refine Sl.fa rfl rfl ?_
      refine Sl.ld rfl rfl rfl ?_
      refine Sl.cl (parse_is p.2) rfl rfl ?_
      rintro _ _ ⟨rfl, rfl⟩
      simp only [List.cons_append, List.nil_append]
      refine Sl.mv rfl rfl ?_
      refine Sl.xt rfl rfl rfl ?_
      refine Sl.xt rfl rfl rfl ?_
      refine Sl.al rfl (fun b9 => ?_)
      refine Sl.sta rfl rfl (idOf_len p.2) (idOf_one p.2) (setR_full (by rw [idOf_len]; rfl)) ?_
      refine Sl.asg rfl rfl ?_
      refine Sl.en ?_
      refine Sl.thenN ?_
      refine Sl.sq ?_
      refine Sl.sq ?_
      refine Sl.rg ?_
      refine Sl.mv rfl rfl ?_
      refine Sl.nt rfl rfl ?_
      refine Sl.mv rfl rfl ?_
      refine Sl.split (t := 38) rfl (fun h38 => ?_) (fun h38 => ?_)
      · skip
        have hp : parseT p.2 = none := by simpa using h38
        refine Sl.gskip rfl rfl rfl rfl rfl rfl ?_
        refine Sl.gskip rfl rfl rfl rfl rfl rfl ?_
        refine Sl.gskip rfl rfl rfl rfl rfl rfl ?_
        refine Sl.gskip rfl rfl rfl rfl rfl rfl ?_
        refine Sl.gskip rfl rfl rfl rfl rfl rfl ?_
        refine Sl.pk rfl rfl rfl ?_
        refine Sl.mv rfl rfl ?_
        refine Sl.split (t := 45) rfl (fun h45 => ?_) (fun h45 => ?_)
        · skip
          skip
          refine Sl.gskip rfl rfl rfl rfl rfl rfl ?_
          refine Sl.gskip rfl rfl rfl rfl rfl rfl ?_
          refine Sl.gskip rfl rfl rfl rfl rfl rfl ?_
          refine Sl.pk rfl rfl rfl ?_
          refine Sl.en ?_
          refine Sl.thenN ?_
          refine Sl.cdT rfl ?_
          refine Sl.sq ?_
          have herr : listGo zs [] = ([], 4) := by (rw [← hgo, hdrop]; simp_all [listGo])
          refine Sl.rg ?_
          refine Sl.asg rfl rfl ?_
          refine Sl.asg rfl rfl ?_
          refine Sl.en ?_
          refine Sl.thenN ?_
          refine Sl.rt ?_
          refine Sl.thenR ?_
          refine Sl.blkR ?_
          refine Sl.thenR ?_
          refine Sl.thenR ?_
          refine Sl.blkR ?_
          refine Sl.thenR ?_
          exact Sl.ret2 [A, cachM cb sb most l, memS sb l] Tryz.results11 rfl rfl ⟨none, 0, A, by rw [herr]; rfl, by rw [herr]; exact ⟨rfl, fun _ h => (by cases h), fun _ _ => .inl rfl⟩, rfl⟩ Sl.perm
        · skip
          cases h45 --closed
      · skip
        obtain ⟨⟨k, bs⟩, hp⟩ : ∃ x, parseT p.2 = some x := by (cases e : parseT p.2 with
          | none => simp [e] at h38
          | some x => exact ⟨x, rfl⟩)
        have hbs := parse_len hp
        refine Sl.gdo rfl rfl ?_
        refine Sl.fa rfl rfl ?_
        refine Sl.gdo rfl rfl ?_
        refine Sl.ld rfl rfl rfl ?_
        refine Sl.gdo rfl rfl ?_
        refine Sl.slSl rfl rfl rfl (by omega) ?_
        refine Sl.gdo rfl rfl ?_
        refine Sl.cl (good_is_r (tailS p.1)) rfl rfl ?_
        rintro _ _ ⟨rfl, rfl⟩
        simp only [List.cons_append, List.nil_append]
        refine Sl.gdo rfl rfl ?_
        refine Sl.nt rfl rfl ?_
        refine Sl.pk rfl rfl rfl ?_
        refine Sl.mv rfl rfl ?_
        refine Sl.split (t := 45) rfl (fun h45 => ?_) (fun h45 => ?_)
        · skip
          have hg45 : gname (tailS p.1) = false := by simpa using h45
          refine Sl.gskip rfl rfl rfl rfl rfl rfl ?_
          refine Sl.gskip rfl rfl rfl rfl rfl rfl ?_
          refine Sl.gskip rfl rfl rfl rfl rfl rfl ?_
          refine Sl.pk rfl rfl rfl ?_
          refine Sl.en ?_
          refine Sl.thenN ?_
          refine Sl.cdT rfl ?_
          refine Sl.sq ?_
          have herr : listGo zs [] = ([], 4) := by (rw [← hgo, hdrop]; simp_all [listGo])
          refine Sl.rg ?_
          refine Sl.asg rfl rfl ?_
          refine Sl.asg rfl rfl ?_
          refine Sl.en ?_
          refine Sl.thenN ?_
          refine Sl.rt ?_
          refine Sl.thenR ?_
          refine Sl.blkR ?_
          refine Sl.thenR ?_
          refine Sl.thenR ?_
          refine Sl.blkR ?_
          refine Sl.thenR ?_
          exact Sl.ret2 [A, cachM cb sb most l, memS sb l] Tryz.results11 rfl rfl ⟨none, 0, A, by rw [herr]; rfl, by rw [herr]; exact ⟨rfl, fun _ h => (by cases h), fun _ _ => .inl rfl⟩, rfl⟩ Sl.perm
        · skip
          have hgood : gname (tailS p.1) = true := by simpa using h45
          refine Sl.gdo rfl rfl ?_
          refine Sl.mv rfl rfl ?_
          refine Sl.gdo rfl rfl ?_
          refine Sl.lnL rfl rfl ?_
          refine Sl.gdo rfl rfl ?_
          refine Sl.eqlI rfl rfl rfl ?_
          refine Sl.pk rfl rfl rfl ?_
          refine Sl.en ?_
          refine Sl.thenN ?_
          refine Sl.cd rfl (fun h49 => ?_) (fun h49 => ?_)
          · skip
            refine Sl.sq ?_
            have h32 : out.length = 32 := by (have := of_decide_eq_true h49; omega)
            have herr : listGo zs [] = ([], 4) := by (rw [← hgo, hdrop]; simp [listGo, hhead, hp, hgood, h32])
            refine Sl.rg ?_
            refine Sl.asg rfl rfl ?_
            refine Sl.asg rfl rfl ?_
            refine Sl.en ?_
            refine Sl.thenN ?_
            refine Sl.rt ?_
            refine Sl.thenR ?_
            refine Sl.blkR ?_
            refine Sl.thenR ?_
            refine Sl.thenR ?_
            refine Sl.blkR ?_
            refine Sl.thenR ?_
            exact Sl.ret2 [A, cachM cb sb most l, memS sb l] Tryz.results11 rfl rfl ⟨none, 0, A, by rw [herr]; rfl, by rw [herr]; exact ⟨rfl, fun _ h => (by cases h), fun _ _ => .inl rfl⟩, rfl⟩ Sl.perm
          · skip
            refine Sl.sk ?_
            refine Sl.thenN ?_
            refine Sl.rgT ([blk b8 57 [Value.string p.1, Value.string p.2], blk b9 24 (idOf (parseT p.2))]) [0, 1, 2, 3, 4, 5, 6, 7] [0, 1, 2, 3, 4, 5, 8] (by kernel_rfl) (by kernel_rfl) (by kernel_rfl) ?_
            refine Sl.tk 0 (lst' := [true, false, false, false, false, false, false, false, false]) rfl (Sl.mvY rfl) rfl rfl rfl rfl (by kernel_rfl) (by kernel_rfl) Sl.perm rfl ?_
            refine Sl.tk 1 (lst' := [true, true, false, false, false, false, false, false, false]) rfl (Sl.faY rfl) rfl rfl rfl rfl (by kernel_rfl) (by kernel_rfl) Sl.perm rfl ?_
            refine Sl.tk 2 (lst' := [true, true, true, false, false, false, false, false, false]) rfl (Sl.ldY rfl rfl) rfl rfl rfl rfl (by kernel_rfl) (by kernel_rfl) Sl.perm rfl ?_
            refine Sl.tk 3 (lst' := [true, true, true, true, false, false, false, false, false]) rfl (Sl.slSlY rfl rfl (by omega)) rfl rfl rfl rfl (by kernel_rfl) (by kernel_rfl) Sl.perm rfl ?_
            refine Sl.tk 4 (lst' := [true, true, true, true, true, false, false, false, false]) rfl (Sl.ldaY rfl (Sl.sub_all (idOf_len p.2))) rfl rfl rfl rfl (by kernel_rfl) (by kernel_rfl) Sl.perm rfl ?_
            refine Sl.tk 5 (lst' := [true, true, true, true, true, true, false, false, false]) rfl (Sl.bdY (vs := encR (tailS p.1, k, bs)) rfl (by rw [hp]; exact bld_ref hbs (by rfl))) rfl rfl rfl rfl (by kernel_rfl) (by kernel_rfl) Sl.perm rfl ?_
            refine Sl.rn1 6 (lst' := [true, true, true, true, true, true, true, false, false]) (by kernel_rfl) rfl rfl (fun hk hs hQ => ?_)
            refine Sl.bs1a (vs := encR (tailS p.1, k, bs)) (by rfl) (by decide) (by decide) rfl rfl (encR_len hbs) (fun b56 => ?_)
            refine Sl.en ?_
            refine Sl.thenN ?_
            refine Sl.bk hk hs hQ (fun _ => Sl.perm) ?_
            refine Sl.rn1 7 (lst' := [true, true, true, true, true, true, true, true, false]) (by kernel_rfl) rfl rfl (fun hk hs hQ => ?_)
            refine Sl.apO (ys := [(tailS p.1, k, bs)]) (enc := encR) (sz := 34) ct rfl rfl rfl rfl (by rw [show flat encR [(tailS p.1, k, bs)] = encR (tailS p.1, k, bs) from by simp [flat]]; exact src_blk (m := 1) (sz := 34) (by rw [encR_len hbs])) (fun y hy => ?_) rfl (fun y hy v' hv' => ?_) (by rfl) (by decide) (by simp; omega) (fun a' cap' c' => ?_)
            · simp at hy; subst hy; exact encR_len hbs
            · exact encR_one v' hv'
            refine Sl.en ?_
            refine Sl.thenN ?_
            refine Sl.bk hk hs hQ (fun _ => Sl.perm) ?_
            refine Sl.tk 8 (lst' := [true, true, true, true, true, true, true, true, true]) rfl (Sl.asgY rfl) rfl rfl rfl rfl (by kernel_rfl) (by kernel_rfl) Sl.perm rfl ?_
            refine Sl.dn (by kernel_rfl) ?_
            refine Sl.blkN ?_
            refine Sl.thenN ?_
            refine Sl.rg ?_
            refine Sl.add rfl rfl rfl (Sl.fits_i64 (by omega)) ?_
            refine Sl.mv rfl rfl ?_
            refine Sl.en ?_
            refine Sl.thenN ?_
            have hlen32 : out.length ≠ 32 := by (have := of_decide_eq_false h49; omega)
            exact Sl.again (m' := zs.length - (j + 1)) ⟨j + 1, out ++ [(tailS p.1, k, bs)], a', cap', c', by omega, rfl, by rw [← hgo, hdrop]; simp [listGo, hhead, hp, hgood, hlen32], fun r hr => (by rcases List.mem_append.1 hr with q | q; exact hout r q; simp at q; subst q; exact hbs), by simp; omega, rfl, rfl⟩ (by omega) ⟨rfl, rfl, rfl, rfl, trivial⟩ Sl.perm
  · skip
    refine Sl.xi ?_
    refine Sl.thenE ?_
    refine Sl.thenE ?_
    refine Sl.blkE ?_
    refine Sl.thenN ?_
    refine Sl.sq ?_
    refine Sl.rg ?_
    refine Sl.mv rfl rfl ?_
    refine Sl.asg rfl rfl ?_
    refine Sl.asg rfl rfl ?_
    refine Sl.en ?_
    refine Sl.thenN ?_
    refine Sl.rt ?_
    have hres : listGo zs [] = (out, 0) := by rw [← hgo, List.drop_of_length_le (by omega)]; rfl
    exact Sl.ret2 [osl ct encR 34 a cap out, cachM cb sb most l, memS sb l] Tryz.results11 rfl rfl ⟨a, cap, _, by rw [hres], by rw [hres]; exact osl_is (fun r hr => encR_len (hout r hr)), rfl⟩ Sl.perm

theorem rof_is (a : Option Addr) : Fnc Tryz.prog 18 [.pointer a] [] (fun v L' => v = .agg #[.pointer a] ∧ L' = []) := by
  refine Sl.fn_intro Tryz.func18 rfl Tryz.ntmps18 rfl (fun g F => ?_)
  simp only [Sl.slotsOf, List.cons_append, List.nil_append, Nat.reduceAdd]
  refine Sl.sq ?_
  refine Sl.rg ?_
  refine Sl.al rfl (fun b2 => ?_)
  refine Sl.en ?_
  refine Sl.thenN ?_
  refine Sl.sq ?_
  refine Sl.rg ?_
  refine Sl.mv rfl rfl ?_
  refine Sl.bd rfl rfl rfl ?_
  refine Sl.sta rfl rfl rfl (by simp [Value.oneCell']) rfl ?_
  refine Sl.en ?_
  refine Sl.thenN ?_
  refine Sl.rt ?_
  exact Sl.retC (vs := [.pointer a]) [] Tryz.results18 rfl rfl ⟨rfl, rfl⟩ Sl.perm

/-- An object's bytes, or an error's number. -/
def objGet (l : Prs) (k : UInt8) (bs : List UInt8) : Str × Int := if goodId k bs then match mget l (objS k bs) with
    | some v => (v, 0)
    | none => (⟨#[]⟩, 5)
  else (⟨#[]⟩, 5)

theorem robj_is (cb sb most : Nat) (l : Prs) (k : UInt8) (bs : List UInt8) (hb : bs.length = 32) :
    Fnc Tryz.prog 19 [.agg #[.pointer (some ⟨cb, 0, none⟩)], .agg (idc k bs).toArray] [cachM cb sb most l, memS sb l]
    (fun v L' => v = .tuple [.string (objGet l k bs).1, .int .i64 (objGet l k bs).2].toArray ∧ L' = [cachM cb sb most l, memS sb l]) := by
  refine Sl.fn_intro Tryz.func19 rfl Tryz.ntmps19 rfl (fun g F => ?_)
  simp only [Sl.slotsOf, List.cons_append, List.nil_append, Nat.reduceAdd]
  refine Sl.sq ?_
  refine Sl.rg ?_
  refine Sl.bxa (vs := [.pointer (some ⟨cb, 0, none⟩)]) rfl rfl (fun b2 => ?_)
  refine Sl.bxa rfl rfl (fun b3 => ?_)
  refine Sl.asg rfl rfl ?_
  refine Sl.asg rfl rfl ?_
  refine Sl.en ?_
  refine Sl.thenN ?_
  refine Sl.sq ?_
  refine Sl.sq ?_
  refine Sl.rg ?_
  refine Sl.lda rfl rfl (Sl.sub_all (idc_len hb)) ?_
  refine Sl.cl (good_is k bs hb) rfl rfl ?_
  rintro _ _ ⟨rfl, rfl⟩
  simp only [List.nil_append]
  refine Sl.nt rfl rfl ?_
  refine Sl.en ?_
  refine Sl.thenN ?_
  refine Sl.cd rfl (fun h11 => ?_) (fun h11 => ?_)
  · skip
    have ho : objGet l k bs = (⟨#[]⟩, 5) := by (simp at h11; simp [objGet, h11])
    refine Sl.sq ?_
    refine Sl.rg ?_
    refine Sl.asg rfl rfl ?_
    refine Sl.asg rfl rfl ?_
    refine Sl.en ?_
    refine Sl.thenN ?_
    refine Sl.rt ?_
    refine Sl.thenR ?_
    exact Sl.ret2 [cachM cb sb most l, memS sb l] Tryz.results19 rfl rfl ⟨by rw [ho], rfl⟩ Sl.perm
  · skip
    have hg : goodId k bs = true := by simpa using h11
    refine Sl.sk ?_
    refine Sl.thenN ?_
    refine Sl.sq ?_
    refine Sl.rgT ([blk b2 52 [.pointer (some ⟨cb, 0, none⟩)], blk b3 24 (idc k bs)]) [0, 1, 2, 3, 4, 5, 6, 7, 8, 9, 10] [0, 1, 2, 5, 6, 7, 8, 9, 10, 11] (by kernel_rfl) (by kernel_rfl) (by kernel_rfl) ?_
    refine Sl.tk 0 (lst' := [true, false, false, false, false, false, false, false, false, false, false, false]) rfl (Sl.faY rfl) rfl rfl rfl rfl (by kernel_rfl) (by kernel_rfl) Sl.perm rfl ?_
    refine Sl.tk 1 (lst' := [true, true, false, false, false, false, false, false, false, false, false, false]) rfl (Sl.ldY (v := .pointer (some ⟨cb, 0, none⟩)) rfl rfl) rfl rfl rfl rfl (by kernel_rfl) (by kernel_rfl) Sl.perm rfl ?_
    refine Sl.tk 2 (lst' := [true, true, true, false, false, false, false, false, false, false, false, false]) rfl (Sl.ldaY rfl (Sl.sub_all (idc_len hb))) rfl rfl rfl rfl (by kernel_rfl) (by kernel_rfl) Sl.perm rfl ?_
    refine Sl.rn1 3 (lst' := [true, true, true, true, false, false, false, false, false, false, false, false]) (by kernel_rfl) rfl rfl (fun hk hs hQ => ?_)
    refine Sl.cl (objkey_is k bs hb) rfl rfl ?_
    rintro _ _ ⟨rfl, rfl⟩
    simp only [List.nil_append]
    refine Sl.en ?_
    refine Sl.thenN ?_
    refine Sl.bk hk hs hQ (fun _ => Sl.perm) ?_
    refine Sl.rn1 4 (lst' := [true, true, true, true, true, false, false, false, false, false, false, false]) (by kernel_rfl) rfl rfl (fun hk hs hQ => ?_)
    refine Sl.cl (cget_is cb sb most l (objS k bs)) rfl rfl ?_
    rintro _ _ ⟨rfl, rfl⟩
    simp only [List.cons_append, List.nil_append]
    refine Sl.en ?_
    refine Sl.thenN ?_
    refine Sl.bk hk hs hQ (fun _ => Sl.perm) ?_
    refine Sl.tk 5 (lst' := [true, true, true, true, true, true, false, false, false, false, false, false]) rfl (Sl.mvY rfl) rfl rfl rfl rfl (by kernel_rfl) (by kernel_rfl) Sl.perm rfl ?_
    refine Sl.tk 6 (lst' := [true, true, true, true, true, true, true, false, false, false, false, false]) rfl (Sl.xtY rfl rfl) rfl rfl rfl rfl (by kernel_rfl) (by kernel_rfl) Sl.perm rfl ?_
    refine Sl.tk 7 (lst' := [true, true, true, true, true, true, true, true, false, false, false, false]) rfl (Sl.xtY rfl rfl) rfl rfl rfl rfl (by kernel_rfl) (by kernel_rfl) Sl.perm rfl ?_
    refine Sl.tk 8 (lst' := [true, true, true, true, true, true, true, true, true, false, false, false]) rfl (Sl.xtY rfl rfl) rfl rfl rfl rfl (by kernel_rfl) (by kernel_rfl) Sl.perm rfl ?_
    refine Sl.tk 9 (lst' := [true, true, true, true, true, true, true, true, true, true, false, false]) rfl (Sl.asgY rfl) rfl rfl rfl rfl (by kernel_rfl) (by kernel_rfl) Sl.perm rfl ?_
    refine Sl.tk 10 (lst' := [true, true, true, true, true, true, true, true, true, true, true, false]) rfl (Sl.asgY rfl) rfl rfl rfl rfl (by kernel_rfl) (by kernel_rfl) Sl.perm rfl ?_
    refine Sl.tk 11 (lst' := [true, true, true, true, true, true, true, true, true, true, true, true]) rfl (Sl.asgY rfl) rfl rfl rfl rfl (by kernel_rfl) (by kernel_rfl) Sl.perm rfl ?_
    refine Sl.dn (by kernel_rfl) ?_
    refine Sl.thenN ?_
    refine Sl.sq ?_
    refine Sl.sq ?_
    refine Sl.rg ?_
    refine Sl.mv rfl rfl ?_
    refine Sl.eqlI rfl rfl rfl ?_
    refine Sl.mv rfl rfl ?_
    refine Sl.split (t := 23) rfl (fun h23 => ?_) (fun h23 => ?_)
    · skip
      refine Sl.gdo rfl rfl ?_
      refine Sl.mv rfl rfl ?_
      refine Sl.gdo rfl rfl ?_
      refine Sl.nt rfl rfl ?_
      refine Sl.pk rfl rfl rfl ?_
      refine Sl.en ?_
      refine Sl.thenN ?_
      refine Sl.cd rfl (fun h26 => ?_) (fun h26 => ?_)
      · skip
        have hm : mget l (objS k bs) = none := by simpa using h26
        have ho : objGet l k bs = (⟨#[]⟩, 5) := by simp [objGet, hg, hm]
        refine Sl.sq ?_
        refine Sl.rg ?_
        refine Sl.asg rfl rfl ?_
        refine Sl.asg rfl rfl ?_
        refine Sl.en ?_
        refine Sl.thenN ?_
        refine Sl.rt ?_
        refine Sl.thenR ?_
        exact Sl.ret2 [cachM cb sb most l, memS sb l] Tryz.results19 rfl rfl ⟨by rw [ho], rfl⟩ Sl.perm
      · skip
        obtain ⟨x, hm⟩ : ∃ x, mget l (objS k bs) = some x := by (cases e : mget l (objS k bs) with
          | none => simp [e] at h26
          | some x => exact ⟨x, rfl⟩)
        have ho : objGet l k bs = (x, 0) := by simp [objGet, hg, hm]
        refine Sl.sk ?_
        refine Sl.thenN ?_
        refine Sl.sq ?_
        refine Sl.rg ?_
        refine Sl.mv rfl rfl ?_
        refine Sl.mv rfl rfl ?_
        refine Sl.asg rfl rfl ?_
        refine Sl.asg rfl rfl ?_
        refine Sl.en ?_
        refine Sl.thenN ?_
        refine Sl.rt ?_
        exact Sl.ret2 [cachM cb sb most l, memS sb l] Tryz.results19 rfl rfl ⟨by rw [ho, hm]; rfl, rfl⟩ Sl.perm
    · skip
      exact absurd h23 (by decide) --closed
end Go.Proofs.YtdcjlbfmdkgcpaaGreatDoor
