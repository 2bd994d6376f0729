/- References over a cache over a memory store; the laws walked. -/
import Derived.Test.YtdcjlbfmdkgcpaaGreatDoorProg
import Derived.Test.YtdcjlbfmdkgcpaaGreatDoorRf
import Derived.Test.YtdcjlbfmdkgcpaaGreatDoorCa
import Derived.Test.YtdcjlbfmdkgcpaaGreatDoorEq
set_option linter.unusedSimpArgs false
set_option linter.unusedVariables false
namespace Go.Proofs.YtdcjlbfmdkgcpaaGreatDoor
open Go.Sl
instance tyLwAg24 : Sl.Ag Tryz.prog 24 33 := ⟨Tryz.isAgg24, Tryz.sizeOf24⟩
instance tyLwCa10 : Sl.Ca Tryz.prog 10 := ⟨Tryz.call10⟩
instance tyLwCa14 : Sl.Ca Tryz.prog 14 := ⟨Tryz.call14⟩
instance tyLwCa21 : Sl.Ca Tryz.prog 21 := ⟨Tryz.call21⟩
instance tyLwCa26 : Sl.Ca Tryz.prog 26 := ⟨Tryz.call26⟩
instance tyLwCa28 : Sl.Ca Tryz.prog 28 := ⟨Tryz.call28⟩
instance tyLwCa29 : Sl.Ca Tryz.prog 29 := ⟨Tryz.call29⟩
instance tyLwCa32 : Sl.Ca Tryz.prog 32 := ⟨Tryz.call32⟩
instance tyLwCa35 : Sl.Ca Tryz.prog 35 := ⟨Tryz.call35⟩
instance tyLwCa37 : Sl.Ca Tryz.prog 37 := ⟨Tryz.call37⟩
instance tyLwCa8 : Sl.Ca Tryz.prog 8 := ⟨Tryz.call8⟩
instance tyLwCa9 : Sl.Ca Tryz.prog 9 := ⟨Tryz.call9⟩
instance tyLwSs24 : Sl.StT Tryz.prog 24 [(0, 1), (1, 32)] := ⟨⟨_, Tryz.runUnderlying24, fun w => by simp [Tryz.sizeOf22, Tryz.sizeOf5]⟩⟩
instance tyLwZv24 : Sl.Zv Tryz.prog 24 (.agg [.int .u8 0, .int .u8 0, .int .u8 0, .int .u8 0, .int .u8 0, .int .u8 0, .int .u8 0, .int .u8 0, .int .u8 0, .int .u8 0, .int .u8 0, .int .u8 0, .int .u8 0, .int .u8 0, .int .u8 0, .int .u8 0, .int .u8 0, .int .u8 0, .int .u8 0, .int .u8 0, .int .u8 0, .int .u8 0, .int .u8 0, .int .u8 0, .int .u8 0, .int .u8 0, .int .u8 0, .int .u8 0, .int .u8 0, .int .u8 0, .int .u8 0, .int .u8 0, .int .u8 0].toArray) := ⟨Tryz.zeroValue24⟩
theorem fnc_imp {P : Program} {f : FuncId} {args : List Value} {L : List HP} {R R' : Value → List HP → Prop} (h : Fnc P f args L R) (i : ∀ v L', R v L' → R' v L') : Fnc P f args L R' := fun g w F hw =>
  (h g w F hw).mono fun e w' ⟨v, L', h1, h2, h3⟩ => ⟨v, L', h1, i _ _ h2, h3⟩
theorem cells_u8 : Tryz.prog.cellsOf 5 = 1 := cells_of Tryz.underlying5 Tryz.sizeOf5
theorem eqId {k k' : UInt8} {bs bs' : List UInt8} (hb : bs.length = 32) (hb' : bs'.length = 32) (w : World) :
    (Go.Op.equalIn 10000 24 (.agg (idc k bs).toArray) (.agg (idc k' bs').toArray)).run Tryz.prog w = .ok (decide (k = k' ∧ bs = bs')) w := by
  refine Eq.trans (eq_struct w 9999 Tryz.underlying24 Tryz.stoodInHeld24) ?_
  refine Eq.trans (eqF_cons w 9999 (by simp) (part_cell w Tryz.isAgg5 rfl) (part_cell w Tryz.isAgg5 rfl) (run_equalIn_int w 9998 _ .u8 .u8 _ _ Tryz.underlying5)
    (eqF_cons w 9999 (by simp) (part_agg w Tryz.isAgg22 Tryz.sizeOf22 (show List.take 32 (u8L bs) = u8L bs from List.take_of_length_le (by simp [hb])))
      (part_agg w Tryz.isAgg22 Tryz.sizeOf22 (show List.take 32 (u8L bs') = u8L bs' from List.take_of_length_le (by simp [hb'])))
      (equal_u8 w 9997 Tryz.underlying22 Tryz.underlying5 cells_u8 hb hb') (eqF_nil w 9999))) ?_
  rw [u8_beq]
  by_cases q : k = k' <;> by_cases r : bs = bs' <;> simp [q, r]
theorem eqWr (v v' : Wr) (w : World) : (Go.Op.equalIn 10000 32 (.agg (encW v).toArray) (.agg (encW v').toArray)).run Tryz.prog w = .ok (decide (v = v')) w := by
  obtain ⟨a, b, c⟩ := v
  obtain ⟨a', b', c'⟩ := v'
  refine Eq.trans (eq_struct w 9999 Tryz.underlying32 Tryz.stoodInHeld32) ?_
  refine Eq.trans (eqF_cons w 9999 (by simp) (part_cell w Tryz.isAgg9 rfl) (part_cell w Tryz.isAgg9 rfl) (run_equalIn_string w 9998 _ _ _ Tryz.underlying9)
    (eqF_cons w 9999 (by simp) (part_cell w Tryz.isAgg9 rfl) (part_cell w Tryz.isAgg9 rfl) (run_equalIn_string w 9998 _ _ _ Tryz.underlying9)
      (eqF_cons w 9999 (by simp) (part_cell w Tryz.isAgg4 rfl) (part_cell w Tryz.isAgg4 rfl) (run_equalIn_bool' w 9998 _ _ _ Tryz.underlying4) (eqF_nil w 9999)))) ?_
  simp only [toList_beq, Bool.and_true]
  by_cases q1 : a = a' <;> by_cases q2 : b = b' <;> cases c <;> cases c' <;> simp [q1, q2]
/-- What a memory store with these pairs shows. -/
def memV (l : List (Str × Str)) : Vw := fun k => match mget l k with
  | some v => (v, true)
  | none => (⟨#[]⟩, false)
theorem memV_eq (l : List (Str × Str)) (k : Str) : memV l k = ((mget l k).getD ⟨#[]⟩, (mget l k).isSome) := by unfold memV; cases mget l k <;> rfl
theorem memDo_nodup {l : List (Str × Str)} (h : (keysOf l).Nodup) (w : Wr) : (keysOf (memDo l w)).Nodup := by
  unfold memDo; split
  · exact nodup_mdel h
  · exact nodup_mset h
theorem memApp_nodup {ws : List Wr} : ∀ {l : List (Str × Str)}, (keysOf l).Nodup → (keysOf (memApp l ws)).Nodup := by
  induction ws with
  | nil => intro l h; exact h
  | cons w ws ih => intro l h; exact ih (l := memDo l w) (memDo_nodup h w)
theorem memV_do {l : List (Str × Str)} (h : (keysOf l).Nodup) (w : Wr) : memV (memDo l w) = (memV l).put w.1 w.now := by
  funext k
  obtain ⟨a, b, c⟩ := w
  rw [memV_eq]
  cases c
  · simp only [memDo, Vw.put, Wr.now, memV_eq, mget_mset, Bool.false_eq_true, if_false]
    by_cases q : k = a
    · subst q; simp
    · rw [if_neg (fun e => q e.symm), if_neg q]
  · simp only [memDo, Vw.put, Wr.now, memV_eq, if_true, mget_mdel h]
    by_cases q : k = a
    · subst q; simp
    · rw [if_neg (fun e => q e.symm), if_neg q]
theorem memV_app {ws : List Wr} : ∀ {l : List (Str × Str)}, (keysOf l).Nodup → memV (memApp l ws) = (memV l).app ws := by
  induction ws with
  | nil => intro l h; rfl
  | cons w ws ih =>
    intro l h
    have := ih (l := memDo l w) (memDo_nodup h w)
    rw [memV_do h] at this
    exact this
def memNext (l : List (Str × Str)) (ws : List Wr) : List (Str × Str) := if memBad ws then l else memApp l ws
theorem memNext_nodup {ws : List Wr} {l : List (Str × Str)} (h : (keysOf l).Nodup) : (keysOf (memNext l ws)).Nodup := by
  unfold memNext; split
  · exact h
  · exact memApp_nodup h
abbrev sp (sb : Nat) : Value := .pointer (some ⟨sb, 0, none⟩)
abbrev cachM (cb sb most : Nat) (l : List (Str × Str)) : HP := cache cb (sp sb) most (memV l)
theorem capply_is (A : HP) (a : Option Addr) (cap cb sb most : Nat) (ws : List Wr) (l : List (Str × Str)) (hA : SlIs A encW 3 a ws.length ws) (hbig : ws.length < 9223372036854775807) (hnd : (keysOf l).Nodup) :
    Fnc Tryz.prog 9 [.pointer (some ⟨cb, 0, none⟩), .slice a ws.length cap] [A, cachM cb sb most l, memS sb l]
    (fun v L' => v = .int .i64 (if memBad ws then 3 else 0) ∧ L' = [A, cachM cb sb most (memNext l ws), memS sb (memNext l ws)]) :=
  fnc_imp (apply_is cb (sp sb) most (memV l) A (memS sb l) a cap ws hA hbig (fun e S' => e = (if memBad ws then 3 else 0) ∧ S' = memS sb (memNext l ws))
    (fnc_imp (sapply_is A a cap sb ws l hA hbig) (by rintro v L' ⟨rfl, rfl⟩; exact ⟨_, _, rfl, rfl, rfl, rfl⟩))) (by
      rintro v L' ⟨e, S', rfl, rfl, rfl, rfl⟩
      refine ⟨rfl, ?_⟩
      by_cases hb : memBad ws = true
      · simp [hb, memNext]
      · simp only [hb, memNext, Bool.false_eq_true, if_false, if_true, cachM, memV_app hnd])
theorem cget_is (cb sb most : Nat) (l : List (Str × Str)) (key : Str) :
    Fnc Tryz.prog 37 [.pointer (some ⟨cb, 0, none⟩), .string key] [cachM cb sb most l, memS sb l]
    (fun v L' => v = .tuple [.string ((mget l key).getD ⟨#[]⟩), .bool (mget l key).isSome, .int .i64 0].toArray ∧ L' = [cachM cb sb most l, memS sb l]) :=
  fnc_imp (get_is cb (sp sb) most (memV l) key (memS sb l) (fun a b e S' => e = 0 ∧ S' = memS sb l)
    (fnc_imp (sget_is sb l key) (by rintro v L' ⟨rfl, rfl⟩; exact ⟨_, _, _, _, rfl, rfl, ⟨rfl, rfl⟩, fun _ => (memV_eq l key).symm⟩))) (by
      rintro v L' ⟨a, b, e, S', rfl, rfl, hv, h⟩
      have he : e = 0 := by rcases h with h | h <;> exact h.1
      have hs : S' = memS sb l := by rcases h with h | h <;> exact h.2
      subst he; subst hs
      have := hv rfl
      rw [memV_eq] at this
      injection this with h1 h2
      subst h1; subst h2
      exact ⟨rfl, rfl⟩)
/-- What a name leads to: an error's number, or a name's cells. -/
def getRef (l : List (Str × Str)) (name : Str) : Int × List Value :=
  if gname name then match mget l (keyS name) with
    | none => (5, idc 0 (zer 32))
    | some t => match parseT t with
      | some (k, bs) => (0, idc k bs)
      | none => (4, idc 0 (zer 32))
  else (1, idc 0 (zer 32))
theorem gname_size {s : Str} (h : gname s = true) : s.size ≤ 16 := by simp [gname] at h; exact h.1.2
theorem idOf_len (t : Str) : (idOf (parseT t)).length = 33 := by
  unfold parseT
  split
  · rfl
  · rename_i k r e
    split
    · rename_i h; exact idc_len (by have := szOf_le k.toNat; simp [zer]; omega)
    · rfl
theorem idOf_one (t : Str) : ∀ v ∈ idOf (parseT t), v.oneCell' = true := by
  cases parseT t with
  | none => exact idc_one
  | some p => exact idc_one

theorem rget_is (cb sb most : Nat) (l : List (Str × Str)) (name : Str) :
    Fnc Tryz.prog 14 [.pointer (some ⟨cb, 0, none⟩), .string name] [cachM cb sb most l, memS sb l]
    (fun v L' => v = .tuple [.agg (getRef l name).2.toArray, .int .i64 (getRef l name).1].toArray ∧ L' = [cachM cb sb most l, memS sb l]) := by
  refine Sl.fn_intro Tryz.func14 rfl Tryz.ntmps14 rfl (fun g F => ?_)
  simp only [Sl.slotsOf, List.cons_append, List.nil_append, Nat.reduceAdd]
  refine Sl.sq ?_
  refine Sl.rg ?_
  refine Sl.al rfl (fun b4 => ?_)
  refine Sl.asg rfl rfl ?_
  refine Sl.en ?_
  refine Sl.thenN ?_
  refine Sl.sq ?_
  refine Sl.sq ?_
  refine Sl.rg ?_
  refine Sl.mv rfl rfl ?_
  refine Sl.cl (good_is_r name) rfl rfl ?_
  rintro _ _ ⟨rfl, rfl⟩
  simp only [List.nil_append]
  refine Sl.nt rfl rfl ?_
  refine Sl.en ?_
  refine Sl.thenN ?_
  refine Sl.cd rfl (fun h13 => ?_) (fun h13 => ?_)
  · skip
    have hg : getRef l name = (1, idc 0 (zer 32)) := by (simp at h13; simp [getRef, h13])
    refine Sl.sq ?_
    refine Sl.rg ?_
    refine Sl.bd rfl rfl rfl ?_
    refine Sl.sta rfl rfl rfl (by simp [Value.oneCell']) rfl ?_
    refine Sl.asg rfl rfl ?_
    refine Sl.en ?_
    refine Sl.thenN ?_
    refine Sl.rt ?_
    refine Sl.thenR ?_
    exact Sl.retC1 [cachM cb sb most l, memS sb l] Tryz.results14 rfl (vs := idc 0 (zer 32)) (Sl.sub_all (idc_len (k := 0) (bs := zer 32) (by simp [zer]))) rfl ⟨by rw [hg], rfl⟩ Sl.perm
  · skip
    have hg : gname name = true := by simpa using h13
    refine Sl.sk ?_
    refine Sl.thenN ?_
    refine Sl.sq ?_
    refine Sl.rg ?_
    refine Sl.mv rfl rfl ?_
    refine Sl.mv rfl rfl ?_
    refine Sl.cl (key_is name (by have := gname_size hg; omega)) rfl rfl ?_
    rintro _ _ ⟨rfl, rfl⟩
    simp only [List.nil_append]
    refine Sl.cl (cget_is cb sb most l (keyS name)) rfl rfl ?_
    rintro _ _ ⟨rfl, rfl⟩
    simp only [List.cons_append, List.nil_append]
    refine Sl.mv rfl rfl ?_
    refine Sl.xt rfl rfl rfl ?_
    refine Sl.xt rfl rfl rfl ?_
    refine Sl.xt rfl rfl rfl ?_
    refine Sl.asg rfl rfl ?_
    refine Sl.asg rfl rfl ?_
    refine Sl.asg rfl rfl ?_
    refine Sl.en ?_
    refine Sl.thenN ?_
    refine Sl.sq ?_
    refine Sl.sq ?_
    refine Sl.rg ?_
    refine Sl.mv rfl rfl ?_
    refine Sl.neqI rfl rfl rfl ?_
    refine Sl.en ?_
    refine Sl.thenN ?_
    refine Sl.cdF rfl ?_
    refine Sl.sk ?_
    refine Sl.thenN ?_
    refine Sl.sq ?_
    refine Sl.sq ?_
    refine Sl.rg ?_
    refine Sl.mv rfl rfl ?_
    refine Sl.nt rfl rfl ?_
    refine Sl.en ?_
    refine Sl.thenN ?_
    refine Sl.cd rfl (fun h28 => ?_) (fun h28 => ?_)
    · skip
      have hm : mget l (keyS name) = none := by simpa using h28
      have hg : getRef l name = (5, idc 0 (zer 32)) := by simp [getRef, hg, hm]
      refine Sl.sq ?_
      refine Sl.rg ?_
      refine Sl.bd rfl rfl rfl ?_
      refine Sl.sta rfl rfl rfl (by simp [Value.oneCell']) rfl ?_
      refine Sl.asg rfl rfl ?_
      refine Sl.en ?_
      refine Sl.thenN ?_
      refine Sl.rt ?_
      refine Sl.thenR ?_
      exact Sl.retC1 [cachM cb sb most l, memS sb l] Tryz.results14 rfl (vs := idc 0 (zer 32)) (Sl.sub_all (idc_len (k := 0) (bs := zer 32) (by simp [zer]))) rfl ⟨by rw [hg], rfl⟩ Sl.perm
    · skip
      obtain ⟨t, hm⟩ : ∃ t, mget l (keyS name) = some t := by (cases e : mget l (keyS name) with
        | none => simp [e] at h28
        | some t => exact ⟨t, rfl⟩)
      simp only [hm, Option.getD_some, Option.isSome_some]
      refine Sl.sk ?_
      refine Sl.thenN ?_
      refine Sl.sq ?_
      refine Sl.rg ?_
      refine Sl.mv rfl rfl ?_
      refine Sl.cl (parse_is t) rfl rfl ?_
      rintro _ _ ⟨rfl, rfl⟩
      simp only [List.cons_append, List.nil_append]
      refine Sl.mv rfl rfl ?_
      refine Sl.xt rfl rfl rfl ?_
      refine Sl.xt rfl rfl rfl ?_
      refine Sl.al rfl (fun b9 => ?_)
      refine Sl.sta rfl rfl (idOf_len t) (idOf_one t) (setR_full (by rw [idOf_len]; rfl)) ?_
      refine Sl.asg rfl rfl ?_
      refine Sl.en ?_
      refine Sl.thenN ?_
      refine Sl.sq ?_
      refine Sl.sq ?_
      refine Sl.rg ?_
      refine Sl.mv rfl rfl ?_
      refine Sl.nt rfl rfl ?_
      refine Sl.en ?_
      refine Sl.thenN ?_
      refine Sl.cd rfl (fun h36 => ?_) (fun h36 => ?_)
      · skip
        have hp : parseT t = none := by simpa using h36
        have hg : getRef l name = (4, idc 0 (zer 32)) := by simp [getRef, hg, hm, hp]
        refine Sl.sq ?_
        refine Sl.rg ?_
        refine Sl.bd rfl rfl rfl ?_
        refine Sl.sta rfl rfl rfl (by simp [Value.oneCell']) rfl ?_
        refine Sl.asg rfl rfl ?_
        refine Sl.en ?_
        refine Sl.thenN ?_
        refine Sl.rt ?_
        refine Sl.thenR ?_
        exact Sl.retC1 [cachM cb sb most l, memS sb l] Tryz.results14 rfl (vs := idc 0 (zer 32)) (Sl.sub_all (idc_len (k := 0) (bs := zer 32) (by simp [zer]))) rfl ⟨by rw [hg], rfl⟩ Sl.perm
      · skip
        obtain ⟨⟨k, bs⟩, hp⟩ : ∃ p, parseT t = some p := by (cases e : parseT t with
          | none => simp [e] at h36
          | some p => exact ⟨p, rfl⟩)
        have hg : getRef l name = (0, idOf (parseT t)) := by (simp [getRef, hg, hm, hp]; rfl)
        refine Sl.sk ?_
        refine Sl.thenN ?_
        refine Sl.sq ?_
        refine Sl.rg ?_
        refine Sl.lda rfl rfl (Sl.sub_all (idOf_len t)) ?_
        refine Sl.sta rfl rfl (idOf_len t) (idOf_one t) (setR_full (by rw [idOf_len]; rfl)) ?_
        refine Sl.asg rfl rfl ?_
        refine Sl.en ?_
        refine Sl.thenN ?_
        refine Sl.rt ?_
        exact Sl.retC1 [cachM cb sb most l, memS sb l] Tryz.results14 rfl (Sl.sub_all (idOf_len t)) rfl ⟨by rw [hg], rfl⟩ Sl.perm

theorem fresh_is : Fnc Tryz.prog 8 [] [] (fun v L' => ∃ cb sb most, v = .pointer (some ⟨cb, 0, none⟩) ∧ L' = [cachM cb sb most [], memS sb []]) := by
  refine Sl.fn_intro Tryz.func8 rfl Tryz.ntmps8 rfl (fun g F => ?_)
  simp only [Sl.slotsOf, List.cons_append, List.nil_append, Nat.reduceAdd]
  refine Sl.sq ?_
  refine Sl.rg ?_
  refine Sl.asg rfl rfl ?_
  refine Sl.en ?_
  refine Sl.thenN ?_
  refine Sl.sq ?_
  refine Sl.rg ?_
  refine Sl.cl (openM_is _ _) rfl rfl ?_
  rintro _ _ ⟨sb, rfl, rfl⟩
  simp only [List.cons_append, List.nil_append]
  refine Sl.mv rfl rfl ?_
  refine Sl.xt rfl rfl rfl ?_
  refine Sl.xt rfl rfl rfl ?_
  refine Sl.asg rfl rfl ?_
  refine Sl.asg rfl rfl ?_
  refine Sl.en ?_
  refine Sl.thenN ?_
  refine Sl.sq ?_
  refine Sl.rg ?_
  refine Sl.mv rfl rfl ?_
  refine Sl.cl (new_is (some ⟨sb, 0, none⟩) 5 (memV [])) rfl rfl ?_
  rintro _ _ ⟨cb, most, rfl, rfl⟩
  simp only [List.cons_append, List.nil_append]
  refine Sl.asg rfl rfl ?_
  refine Sl.en ?_
  refine Sl.thenN ?_
  refine Sl.rt ?_
  exact Sl.ret1 [cachM cb sb most [], memS sb []] Tryz.results8 rfl ⟨_, _, _, rfl, rfl⟩ Sl.perm

theorem goodId_pad {bs : List UInt8} (hb : bs.length = 8) : goodId 1 (bs ++ zer 24) = true := by
  unfold goodId
  rw [show szOf (1 : UInt8).toNat = 8 from rfl]
  simp only [Bool.and_eq_true, decide_eq_true_eq]
  refine ⟨fun i hi => ?_, by decide⟩
  rw [List.getElem?_append_right (by omega), hb, show 8 + i - 8 = i from by omega]
  rw [zer, List.getElem?_replicate, if_pos (by omega)]
theorem txt_pad {bs : List UInt8} (hb : bs.length = 8) : txt 1 (bs ++ zer 24) = ⟨(1 :: bs).toArray⟩ := by
  unfold txt
  rw [if_pos (goodId_pad hb), show szOf (1 : UInt8).toNat = 8 from rfl, List.take_left' hb]
theorem parse_pad {bs : List UInt8} (hb : bs.length = 8) : parseT ⟨(1 :: bs).toArray⟩ = some (1, bs ++ zer 24) := by
  rw [parse_mk, show szOf (1 : UInt8).toNat = 8 from rfl, if_pos ⟨by decide, hb⟩, hb]
def mainS : Str := ⟨#[109, 97, 105, 110]⟩
theorem gname_main : gname mainS = true := by decide
theorem gname_Main : gname ⟨#[77, 97, 105, 110]⟩ = false := by decide

theorem alive_is : Fnc Tryz.prog 6 [] [] (fun v L' => v = .bool true ∧ L' = []) := by
  refine Sl.fn_intro Tryz.func6 rfl Tryz.ntmps6 rfl (fun g F => ?_)
  simp only [Sl.slotsOf, List.cons_append, List.nil_append, Nat.reduceAdd]
  refine Sl.sq ?_
  refine Sl.rg ?_
  refine Sl.asg rfl rfl ?_
  refine Sl.en ?_
  refine Sl.thenN ?_
  refine Sl.sq ?_
  refine Sl.rg ?_
  refine Sl.cl fresh_is rfl rfl ?_
  rintro _ _ ⟨cb, sb, most, rfl, rfl⟩
  simp only [List.cons_append, List.nil_append]
  refine Sl.asg rfl rfl ?_
  refine Sl.en ?_
  refine Sl.thenN ?_
  refine Sl.sq ?_
  refine Sl.rg ?_
  refine Sl.cl (of14_is ⟨#[120]⟩ (by decide)) rfl rfl ?_
  rintro _ _ ⟨⟨bs, hb, rfl⟩, rfl⟩
  simp only [List.nil_append]
  have hb32 : (bs ++ zer 24).length = 32 := by simp [zer, hb]
  refine Sl.al rfl (fun b2 => ?_)
  refine Sl.sta rfl rfl (idc_len hb32) idc_one (setR_full (by rw [idc_len hb32]; rfl)) ?_
  refine Sl.en ?_
  refine Sl.thenN ?_
  refine Sl.sq ?_
  refine Sl.rg ?_
  refine Sl.mv rfl rfl ?_
  refine Sl.lda rfl rfl (Sl.sub_all (idc_len hb32)) ?_
  refine Sl.cl (set_is mainS (by decide) 1 (bs ++ zer 24) hb32) rfl rfl ?_
  rintro _ _ ⟨rfl, rfl⟩
  simp only [List.nil_append]
  refine Sl.bs1a (vs := encW (keyS mainS, txt 1 (bs ++ zer 24), false)) (by rfl) (by decide) (by decide) rfl rfl (by rfl) (fun b11 => ?_)
  have hbad : memBad [(keyS mainS, txt 1 (bs ++ zer 24), false)] = false := by
    rw [txt_pad hb]
    have h1 : (keyS mainS).size = 5 := rfl
    have h2 : ByteArray.size ⟨(1 :: bs).toArray⟩ = 9 := by rw [size_mk]; simp [hb]
    simp [memBad, badW, h1, h2]
  refine Sl.cl (capply_is (blk b11 32 (encW (keyS mainS, txt 1 (bs ++ zer 24), false))) (some ⟨b11, 0, none⟩) 1 cb sb most [(keyS mainS, txt 1 (bs ++ zer 24), false)] []
    (blk_is (enc := encW) (o := 0) rfl (fun _ _ => rfl) (fun i hi => by simp [flat])) (by simp) (by simp [keysOf])) rfl rfl ?_
  rintro _ _ ⟨rfl, rfl⟩
  simp only [List.cons_append, List.nil_append, hbad]
  obtain ⟨l1, hl1⟩ : ∃ l1, l1 = memNext [] [(keyS mainS, txt 1 (bs ++ zer 24), false)] := ⟨_, rfl⟩
  have hget : getRef l1 mainS = (0, idc 1 (bs ++ zer 24)) := by
    have h1 : l1 = [(keyS mainS, txt 1 (bs ++ zer 24))] := by rw [hl1, memNext, hbad]; rfl
    have h2 : mget l1 (keyS mainS) = some ⟨(1 :: bs).toArray⟩ := by rw [h1, txt_pad hb]; simp [mget]
    simp only [getRef, gname_main, if_true, h2, parse_pad hb]
  rw [← hl1]
  refine Sl.asg rfl rfl ?_
  refine Sl.en ?_
  refine Sl.thenN ?_
  refine Sl.sq ?_
  refine Sl.rg ?_
  refine Sl.mv rfl rfl ?_
  refine Sl.cl (rget_is cb sb most l1 mainS) rfl rfl ?_
  rintro _ _ ⟨rfl, rfl⟩
  simp only [List.cons_append, List.nil_append, hget]
  refine Sl.mv rfl rfl ?_
  refine Sl.xt rfl rfl rfl ?_
  refine Sl.xt rfl rfl rfl ?_
  refine Sl.al rfl (fun b4 => ?_)
  refine Sl.sta rfl rfl (idc_len hb32) idc_one (setR_full (by rw [idc_len hb32]; rfl)) ?_
  refine Sl.asg rfl rfl ?_
  refine Sl.en ?_
  refine Sl.thenN ?_
  refine Sl.sq ?_
  refine Sl.rg ?_
  refine Sl.mv rfl rfl ?_
  refine Sl.eqlI rfl rfl rfl ?_
  refine Sl.mv rfl rfl ?_
  refine Sl.split (t := 20) rfl (fun h20 => ?_) (fun h20 => ?_)
  · skip
    refine Sl.gdo rfl rfl ?_
    refine Sl.mv rfl rfl ?_
    refine Sl.gdo rfl rfl ?_
    refine Sl.eqlI rfl rfl rfl ?_
    refine Sl.pk rfl rfl rfl ?_
    refine Sl.mv rfl rfl ?_
    refine Sl.split (t := 24) rfl (fun h24 => ?_) (fun h24 => ?_)
    · skip
      refine Sl.gdo rfl rfl ?_
      refine Sl.lda rfl rfl (Sl.sub_all (idc_len hb32)) ?_
      refine Sl.gdo rfl rfl ?_
      refine Sl.lda rfl rfl (Sl.sub_all (idc_len hb32)) ?_
      refine Sl.gdo rfl rfl ?_
      refine Sl.eqlG rfl rfl rfl Tryz.eqGuardType24 (eqId hb32 hb32) ?_
      refine Sl.pk rfl rfl rfl ?_
      refine Sl.mv rfl rfl ?_
      refine Sl.split (t := 29) rfl (fun h29 => ?_) (fun h29 => ?_)
      · skip
        refine Sl.gdo rfl rfl ?_
        refine Sl.cl (good_is_r ⟨#[77, 97, 105, 110]⟩) rfl rfl ?_
        rintro _ _ ⟨rfl, rfl⟩
        simp only [List.nil_append, gname_Main]
        refine Sl.gdo rfl rfl ?_
        refine Sl.nt rfl rfl ?_
        refine Sl.pk rfl rfl rfl ?_
        refine Sl.asg rfl rfl ?_
        refine Sl.en ?_
        refine Sl.thenN ?_
        refine Sl.rt ?_
        exact Sl.ret1 [] Tryz.results6 rfl ⟨rfl, rfl⟩ Sl.perm
      · skip
        exact absurd h29 (by simp) --closed
    · skip
      exact absurd h24 (by decide) --closed
  · skip
    exact absurd h20 (by decide) --closed

theorem pre_inj {c d : UInt8} {a b : Str} (h : (⟨#[c]⟩ : Str) ++ a = ⟨#[d]⟩ ++ b) : c = d ∧ a = b := by
  have h1 := congrArg (fun s : Str => s.data.toList) h
  simp at h1
  refine ⟨h1.1, ?_⟩
  apply ByteArray.ext
  exact h1.2
theorem key_inj {a b : Str} : keyS a = keyS b ↔ a = b := ⟨fun h => (pre_inj h).2, fun h => by rw [h]⟩
theorem key_ne_obj {a : Str} {k : UInt8} {bs : List UInt8} : ¬ keyS a = objS k bs := fun h => absurd (pre_inj h).1 (by decide)
theorem txt_good {k : UInt8} {bs : List UInt8} (h : ¬ txt k bs = ⟨#[]⟩) : goodId k bs = true := by
  cases e : goodId k bs with
  | true => rfl
  | false => exact absurd (by simp [txt, e]) h
theorem txt_inj {k k' : UInt8} {bs bs' : List UInt8} (hb : bs.length = 32) (hb' : bs'.length = 32) (h : ¬ txt k bs = ⟨#[]⟩) (h' : ¬ txt k' bs' = ⟨#[]⟩) : txt k bs = txt k' bs' ↔ k = k' ∧ bs = bs' := by
  have g := txt_good h
  have g' := txt_good h'
  constructor
  · intro e
    have e1 := congrArg (fun s : Str => s.data.toList) e
    simp only [txt, g, g', if_true, List.cons.injEq] at e1
    obtain ⟨rfl, e2⟩ := e1
    refine ⟨rfl, ?_⟩
    simp only [goodId, Bool.and_eq_true, decide_eq_true_eq] at g g'
    apply List.ext_getElem?
    intro i
    rcases Nat.lt_or_ge i (szOf k.toNat) with q | q
    · have := congrArg (fun l => l[i]?) e2
      simpa [List.getElem?_take, q] using this
    · rcases Nat.lt_or_ge i 32 with q' | q'
      · have a := g.1 (i - szOf k.toNat) (by omega)
        have b := g'.1 (i - szOf k.toNat) (by omega)
        rw [show szOf k.toNat + (i - szOf k.toNat) = i from by omega] at a b
        rw [a, b]
      · rw [List.getElem?_eq_none (by omega), List.getElem?_eq_none (by omega)]
  · rintro ⟨rfl, rfl⟩; rfl
theorem obj_inj {k k' : UInt8} {bs bs' : List UInt8} : objS k bs = objS k' bs' ↔ txt k bs = txt k' bs' := ⟨fun h => (pre_inj h).2, fun h => by unfold objS; rw [h]⟩
theorem bld_obj {k : UInt8} {bs : List UInt8} {d : Str} {zs : List Value} (hb : bs.length = 32) (hz : zs.length = 34) : bld [(0, 33), (33, 1)] zs [(0, .agg (idc k bs).toArray), (1, .string d)] = some (idc k bs ++ [.string d]) := by
  obtain ⟨x, hx⟩ : ∃ x, zs.drop 33 = [x] := by
    have h : (zs.drop 33).length = 1 := by rw [List.length_drop, hz]
    match e : zs.drop 33, h with
    | [x], _ => exact ⟨x, rfl⟩
  have h1 : setR zs 0 (idc k bs) = some (idc k bs ++ [x]) := by
    have := setR_app (vs := idc k bs) (l1 := []) (l2 := zs) (by rw [idc_len hb, hz]; decide)
    rw [idc_len hb, hx] at this
    exact this
  have h2 : setR (idc k bs ++ [x]) 33 [.string d] = some (idc k bs ++ [.string d]) := by
    have := setN_app (l1 := idc k bs) (u := x) (l2 := []) (v := .string d)
    rw [idc_len hb] at this
    simp only [setR, this]
  have e1 : (cellsL (.agg (idc k bs).toArray)).length = 33 := idc_len hb
  simp only [bld, List.getElem?_cons_zero, List.getElem?_cons_succ, e1, true_and, show (0 : Nat) < 33 from by decide, if_true]
  rw [show cellsL (.agg (idc k bs).toArray) = idc k bs from rfl, h1]
  simp only [show cellsL (.string d) = [.string d] from rfl, List.length_cons, List.length_nil, true_and, show (0 : Nat) < 1 from by decide, h2]
  rfl
end Go.Proofs.YtdcjlbfmdkgcpaaGreatDoor
