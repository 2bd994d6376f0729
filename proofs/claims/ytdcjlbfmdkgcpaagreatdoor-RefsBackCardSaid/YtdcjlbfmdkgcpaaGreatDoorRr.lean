/- The law RefsReads, walked. -/
import Derived.Test.YtdcjlbfmdkgcpaaGreatDoorProg
import Derived.Test.YtdcjlbfmdkgcpaaGreatDoorRp
set_option linter.unusedSimpArgs false
set_option linter.unusedVariables false
namespace Go.Proofs.YtdcjlbfmdkgcpaaGreatDoor
open Go.Sl
instance tyRrAg24 : Sl.Ag Tryz.prog 24 33 := ⟨Tryz.isAgg24, Tryz.sizeOf24⟩
instance tyRrCa11 : Sl.Ca Tryz.prog 11 := ⟨Tryz.call11⟩
instance tyRrCa12 : Sl.Ca Tryz.prog 12 := ⟨Tryz.call12⟩
instance tyRrCa13 : Sl.Ca Tryz.prog 13 := ⟨Tryz.call13⟩
instance tyRrCa14 : Sl.Ca Tryz.prog 14 := ⟨Tryz.call14⟩
instance tyRrCa15 : Sl.Ca Tryz.prog 15 := ⟨Tryz.call15⟩
instance tyRrCa16 : Sl.Ca Tryz.prog 16 := ⟨Tryz.call16⟩
instance tyRrCa17 : Sl.Ca Tryz.prog 17 := ⟨Tryz.call17⟩
instance tyRrCa18 : Sl.Ca Tryz.prog 18 := ⟨Tryz.call18⟩
instance tyRrCa19 : Sl.Ca Tryz.prog 19 := ⟨Tryz.call19⟩
instance tyRrCa20 : Sl.Ca Tryz.prog 20 := ⟨Tryz.call20⟩
instance tyRrCa21 : Sl.Ca Tryz.prog 21 := ⟨Tryz.call21⟩
instance tyRrCa6 : Sl.Ca Tryz.prog 6 := ⟨Tryz.call6⟩
instance tyRrCa7 : Sl.Ca Tryz.prog 7 := ⟨Tryz.call7⟩
instance tyRrCa8 : Sl.Ca Tryz.prog 8 := ⟨Tryz.call8⟩
instance tyRrCa9 : Sl.Ca Tryz.prog 9 := ⟨Tryz.call9⟩
instance tyRrFa57_1 : Sl.Fa Tryz.prog 57 1 1 := Sl.Fa.mk' Tryz.runUnderlying57 rfl rfl rfl Tryz.sizeOf9 (by decide)
instance tyRrSc9 : Sl.Sc Tryz.prog 9 := ⟨Tryz.isAgg9, Tryz.sizeOf9⟩
instance tyRrSl43 : Sl.SlT Tryz.prog 43 57 2 := ⟨Tryz.runUnderlying43, Tryz.sizeOf57⟩
instance tyRrSt9 : Sl.StrT Tryz.prog 9 := ⟨Tryz.runUnderlying9⟩
instance tyRrZv24 : Sl.Zv Tryz.prog 24 (.agg [.int .u8 0, .int .u8 0, .int .u8 0, .int .u8 0, .int .u8 0, .int .u8 0, .int .u8 0, .int .u8 0, .int .u8 0, .int .u8 0, .int .u8 0, .int .u8 0, .int .u8 0, .int .u8 0, .int .u8 0, .int .u8 0, .int .u8 0, .int .u8 0, .int .u8 0, .int .u8 0, .int .u8 0, .int .u8 0, .int .u8 0, .int .u8 0, .int .u8 0, .int .u8 0, .int .u8 0, .int .u8 0, .int .u8 0, .int .u8 0, .int .u8 0, .int .u8 0, .int .u8 0].toArray) := ⟨Tryz.zeroValue24⟩
theorem getRef_form (l : Prs) (name : Str) : ∃ e gk gb, gb.length = 32 ∧ getRef l name = (e, idc gk gb) := by
  unfold getRef
  split
  · split
    · exact ⟨_, 0, zer 32, by simp [zer], rfl⟩
    · split
      · rename_i k bs h
        exact ⟨_, k, bs, parse_len h, rfl⟩
      · exact ⟨_, 0, zer 32, by simp [zer], rfl⟩
  · exact ⟨_, 0, zer 32, by simp [zer], rfl⟩
theorem getRef_rel {pl l : Prs} (r : Rel pl l) (name : Str) : getRef pl name = getRef l name := by unfold getRef; rw [r.eq]
theorem txt_bad {k : UInt8} {bs : List UInt8} (h : txt k bs = ⟨#[]⟩) : goodId k bs = false := by
  cases e : goodId k bs with
  | false => rfl
  | true =>
    have : (txt k bs).size = 0 := by rw [h]; rfl
    simp [txt, e, ByteArray.size] at this
theorem SlIs.cell {α : Type} {A : HP} {enc : α → List Value} {sz b o len : Nat} {xs : List α} (h : SlIs A enc sz (some ⟨b, o, none⟩) len xs) {i j : Nat} {e : α} {v : Value} (hi : xs[i]? = some e) (hj : j < sz) (hv : (enc e)[j]? = some v) :
    ∀ h', A h' → ∃ cs T fz, h' b = some (.cells cs T fz) ∧ cs[o + i * sz + j]? = some v := by
  intro h' q
  rcases h.rd h' q with e' | ⟨b', o', e', cs, T, fz, hb, hc⟩
  · subst e'; simp at hi
  · injection e' with e'; injection e' with e1 e2
    subst e1; subst e2
    refine ⟨cs, T, fz, hb, ?_⟩
    have h1 := flat_at (enc := enc) h.sz hi j hj
    have hlt : i * sz + j < (flat enc xs).length := by
      rw [flat_length h.sz]
      have hil : i < xs.length := (List.getElem?_eq_some_iff.1 hi).1
      have : (i + 1) * sz ≤ xs.length * sz := Nat.mul_le_mul_right _ hil
      rw [Nat.add_mul] at this; omega
    rw [Nat.add_assoc, hc _ hlt, h1, hv]

theorem reads_is (sortH : SortHyp) (A : HP) (a : Option Addr) (cap : Nat) (ws : List Wr) (name : Str) (k : UInt8) (bs : List UInt8) (hb : bs.length = 32) (hA : SlIs A encW 3 a ws.length ws) (hbig : ws.length < 9223372036854775807) (hw0 : ∀ w ∈ ws, w.1.size ≤ 140737488355328 ∧ w.2.1.size ≤ 140737488355328) :
    Fnc Tryz.prog 4 [.slice a ws.length cap, .string name, .agg (idc k bs).toArray] [A] (fun v L' => v = .bool true ∧ L' = [A]) := by
  refine Sl.fn_intro Tryz.func4 rfl Tryz.ntmps4 rfl (fun g F => ?_)
  simp only [Sl.slotsOf, List.cons_append, List.nil_append, Nat.reduceAdd]
  refine Sl.sq ?_
  refine Sl.rg ?_
  refine Sl.bxa (vs := idc k bs) rfl rfl (fun b5 => ?_)
  refine Sl.asg rfl rfl ?_
  refine Sl.en ?_
  refine Sl.thenN ?_
  refine Sl.sq ?_
  refine Sl.sq ?_
  refine Sl.rg ?_
  refine Sl.cl (alive_is) rfl rfl ?_
  rintro _ _ ⟨rfl, rfl⟩
  simp only [List.cons_append, List.nil_append]
  refine Sl.nt rfl rfl ?_
  refine Sl.en ?_
  refine Sl.thenN ?_
  refine Sl.cdF rfl ?_
  refine Sl.sk ?_
  refine Sl.thenN ?_
  refine Sl.sq ?_
  refine Sl.sq ?_
  refine Sl.rg ?_
  refine Sl.mv rfl rfl ?_
  refine Sl.cl (great_is A a cap ws hA hbig hw0) rfl rfl ?_
  rintro _ _ ⟨⟨b, rfl, hgr⟩, rfl⟩
  simp only [List.cons_append, List.nil_append]
  refine Sl.mv rfl rfl ?_
  refine Sl.split (t := 27) rfl (fun h27 => ?_) (fun h27 => ?_)
  · skip
    refine Sl.gskip rfl rfl rfl rfl rfl rfl ?_
    refine Sl.gskip rfl rfl rfl rfl rfl rfl ?_
    refine Sl.gskip rfl rfl rfl rfl rfl rfl ?_
    refine Sl.pk rfl rfl rfl ?_
    refine Sl.en ?_
    refine Sl.thenN ?_
    refine Sl.cdT rfl ?_
    refine Sl.sq ?_
    refine Sl.rg ?_
    refine Sl.asg rfl rfl ?_
    refine Sl.en ?_
    refine Sl.thenN ?_
    refine Sl.rt ?_
    refine Sl.thenR ?_
    exact Sl.ret1 [A] Tryz.results4 rfl ⟨rfl, rfl⟩ Sl.perm
  · skip
    obtain ⟨hbad, hwl⟩ := hgr h27
    refine Sl.gdo rfl rfl ?_
    refine Sl.mv rfl rfl ?_
    refine Sl.gdo rfl rfl ?_
    refine Sl.lnS rfl rfl ?_
    refine Sl.gdo rfl rfl ?_
    refine Sl.gtr rfl rfl rfl ?_
    refine Sl.pk rfl rfl rfl ?_
    refine Sl.en ?_
    refine Sl.thenN ?_
    refine Sl.cdP rfl (fun h31 => ?_) (fun h31 => ?_)
    · skip
      refine Sl.sq ?_
      refine Sl.rg ?_
      refine Sl.asg rfl rfl ?_
      refine Sl.en ?_
      refine Sl.thenN ?_
      refine Sl.rt ?_
      refine Sl.thenR ?_
      exact Sl.ret1 [A] Tryz.results4 rfl ⟨rfl, rfl⟩ Sl.perm
    · skip
      refine Sl.sk ?_
      refine Sl.thenN ?_
      refine Sl.sq ?_
      refine Sl.rg ?_
      refine Sl.cl (fresh_is) rfl rfl ?_
      rintro _ _ ⟨cb, sb, most, rfl, rfl⟩
      simp only [List.cons_append, List.nil_append]
      refine Sl.asg rfl rfl ?_
      refine Sl.en ?_
      refine Sl.thenN ?_
      refine Sl.sq ?_
      refine Sl.sq ?_
      refine Sl.rg ?_
      refine Sl.mv rfl rfl ?_
      refine Sl.mv rfl rfl ?_
      refine Sl.cl (capply_is A a cap cb sb most ws [] hA hbig (by simp [keysOf])) rfl rfl ?_
      rintro _ _ ⟨rfl, rfl⟩
      simp only [List.cons_append, List.nil_append]
      simp only [hbad, Bool.false_eq_true, if_false]
      obtain ⟨l, hl⟩ : ∃ l, l = memNext [] ws := ⟨_, rfl⟩
      have hnd : (keysOf l).Nodup := by rw [hl]; exact memNext_nodup (by simp [keysOf])
      rw [← hl]
      obtain ⟨pl, hpl⟩ : ∃ pl, pl = ws.foldl doneP [] := ⟨_, rfl⟩
      have hr : Rel pl l := by
        rw [hl, hpl, memNext, hbad]
        exact rel_app rel_nil (by simp [keysOf])
      have hlen : pl.length ≤ 8192 := by
        have := foldP_len (ws := ws) (pl := []) List.Pairwise.nil
        rw [← hpl] at this
        simp at this; omega
      have hll : l.length ≤ 8192 := by rw [← Rel.len hr hnd]; exact hlen
      refine Sl.neqI rfl rfl rfl ?_
      refine Sl.en ?_
      refine Sl.thenN ?_
      refine Sl.cdF rfl ?_
      refine Sl.sk ?_
      refine Sl.thenN ?_
      refine Sl.sq ?_
      refine Sl.nilO 57 encP 2 ?_
      refine Sl.rg ?_
      refine Sl.mv rfl rfl ?_
      refine Sl.cl (all_is (osl 57 encP 2 none 0 []) A none a 0 cap [] ws (osl_is (fun _ _ => rfl)) hA List.Pairwise.nil (by simp; omega)) rfl rfl ?_
      rintro _ _ ⟨b, c, B, rfl, hB, rfl⟩
      simp only [List.cons_append, List.nil_append]
      rw [← hpl] at hB
      rw [← hpl]
      refine Sl.asg rfl rfl ?_
      refine Sl.en ?_
      refine Sl.thenN ?_
      refine Sl.sq ?_
      refine Sl.rg ?_
      refine Sl.mv rfl rfl ?_
      refine Sl.mv rfl rfl ?_
      refine Sl.cl (rget_is cb sb most l name) rfl rfl ?_
      rintro _ _ ⟨rfl, rfl⟩
      simp only [List.cons_append, List.nil_append]
      obtain ⟨e, gk, gb, hgb, hgr⟩ := getRef_form l name
      simp only [hgr]
      refine Sl.mv rfl rfl ?_
      refine Sl.xt rfl rfl rfl ?_
      refine Sl.xt rfl rfl rfl ?_
      refine Sl.al rfl (fun b9 => ?_)
      refine Sl.sta rfl rfl (idc_len hgb) idc_one (setR_full (by rw [idc_len hgb]; rfl)) ?_
      refine Sl.asg rfl rfl ?_
      refine Sl.en ?_
      refine Sl.thenN ?_
      refine Sl.sq ?_
      refine Sl.rg ?_
      refine Sl.mv rfl rfl ?_
      refine Sl.mv rfl rfl ?_
      refine Sl.cl (get18_is B b c pl name hB (by omega)) rfl rfl ?_
      rintro _ _ ⟨rfl, rfl⟩
      simp only [List.cons_append, List.nil_append]
      simp only [getRef_rel hr name, hgr]
      refine Sl.mv rfl rfl ?_
      refine Sl.xt rfl rfl rfl ?_
      refine Sl.xt rfl rfl rfl ?_
      refine Sl.al rfl (fun b11 => ?_)
      refine Sl.sta rfl rfl (idc_len hgb) idc_one (setR_full (by rw [idc_len hgb]; rfl)) ?_
      refine Sl.asg rfl rfl ?_
      refine Sl.en ?_
      refine Sl.thenN ?_
      refine Sl.sq ?_
      refine Sl.sq ?_
      refine Sl.rg ?_
      refine Sl.lda rfl rfl (Sl.sub_all (idc_len hgb)) ?_
      refine Sl.lda rfl rfl (Sl.sub_all (idc_len hgb)) ?_
      refine Sl.neqG rfl rfl rfl Tryz.eqGuardType24 (eqId hgb hgb) ?_
      refine Sl.mv rfl rfl ?_
      refine Sl.split (t := 54) rfl (fun h54 => ?_) (fun h54 => ?_)
      · skip
        exact absurd h54 (by simp) --closed
      · skip
        refine Sl.gdo rfl rfl ?_
        refine Sl.mv rfl rfl ?_
        refine Sl.gdo rfl rfl ?_
        refine Sl.mv rfl rfl ?_
        refine Sl.gdo rfl rfl ?_
        refine Sl.neqI rfl rfl rfl ?_
        refine Sl.pk rfl rfl rfl ?_
        refine Sl.en ?_
        refine Sl.thenN ?_
        refine Sl.cdP rfl (fun h58 => ?_) (fun h58 => ?_)
        · skip
          exact absurd rfl h58 --closed
        · skip
          refine Sl.sk ?_
          refine Sl.thenN ?_
          refine Sl.sq ?_
          refine Sl.rg ?_
          refine Sl.mv rfl rfl ?_
          refine Sl.cl (rlist_is sortH cb sb most l pl hr (by omega)) rfl rfl ?_
          rintro _ _ ⟨ra, rc, RA, rfl, hRA, rfl⟩
          simp only [List.cons_append, List.nil_append]
          refine Sl.mv rfl rfl ?_
          refine Sl.xt rfl rfl rfl ?_
          refine Sl.xt rfl rfl rfl ?_
          refine Sl.asg rfl rfl ?_
          refine Sl.asg rfl rfl ?_
          refine Sl.en ?_
          refine Sl.thenN ?_
          refine Sl.sq ?_
          refine Sl.rg ?_
          refine Sl.mv rfl rfl ?_
          refine Sl.cl (list18_is B b c pl hB (by omega)) rfl rfl ?_
          rintro _ _ ⟨la, lc, LB, rfl, hLB, rfl⟩
          simp only [List.cons_append, List.nil_append]
          rw [listR_eq hr.srt] at hLB ⊢
          have hx32 := listGo_len (zs := scanP pl ⟨#[114]⟩ 33) (out := []) (fun r h => by cases h)
          have hxl := listGo_le (zs := scanP pl ⟨#[114]⟩ 33) (out := []) (by simp)
          obtain ⟨X, hX⟩ : ∃ X, X = listGo (scanP pl ⟨#[114]⟩ 33) [] := ⟨_, rfl⟩
          rw [← hX] at hRA hLB hx32 hxl ⊢
          refine Sl.mv rfl rfl ?_
          refine Sl.xt rfl rfl rfl ?_
          refine Sl.xt rfl rfl rfl ?_
          refine Sl.asg rfl rfl ?_
          refine Sl.asg rfl rfl ?_
          refine Sl.en ?_
          refine Sl.thenN ?_
          refine Sl.sq ?_
          refine Sl.sq ?_
          refine Sl.rg ?_
          refine Sl.mv rfl rfl ?_
          refine Sl.mv rfl rfl ?_
          refine Sl.cl (same18_is RA LB ra la rc lc X.1 hRA hLB hx32 (by omega)) rfl rfl ?_
          rintro _ _ ⟨rfl, rfl⟩
          simp only [List.cons_append, List.nil_append]
          refine Sl.nt rfl rfl ?_
          refine Sl.mv rfl rfl ?_
          refine Sl.split (t := 73) rfl (fun h73 => ?_) (fun h73 => ?_)
          · skip
            exact absurd h73 (by simp) --closed
          · skip
            refine Sl.gdo rfl rfl ?_
            refine Sl.mv rfl rfl ?_
            refine Sl.gdo rfl rfl ?_
            refine Sl.mv rfl rfl ?_
            refine Sl.gdo rfl rfl ?_
            refine Sl.neqI rfl rfl rfl ?_
            refine Sl.pk rfl rfl rfl ?_
            refine Sl.en ?_
            refine Sl.thenN ?_
            refine Sl.cdP rfl (fun h77 => ?_) (fun h77 => ?_)
            · skip
              exact absurd rfl h77 --closed
            · skip
              refine Sl.sk ?_
              refine Sl.thenN ?_
              refine Sl.sq ?_
              refine Sl.rgT ([blk b5 24 (idc k bs)]) [0, 1, 2, 3, 4, 5, 6, 7] [0, 2, 4, 5, 6, 7, 8] (by kernel_rfl) (by kernel_rfl) (by kernel_rfl) ?_
              refine Sl.tk 0 (lst' := [true, false, false, false, false, false, false, false, false]) rfl (Sl.mvY rfl) rfl rfl rfl rfl (by kernel_rfl) (by kernel_rfl) Sl.perm rfl ?_
              refine Sl.tk 2 (lst' := [true, false, true, false, false, false, false, false, false]) rfl (Sl.ldaY rfl (Sl.sub_all (idc_len hb))) rfl rfl rfl rfl (by kernel_rfl) (by kernel_rfl) Sl.perm rfl ?_
              refine Sl.rn1 1 (lst' := [true, true, true, false, false, false, false, false, false]) (by kernel_rfl) rfl rfl (fun hk hs hQ => ?_)
              refine Sl.cl (rof_is (some ⟨cb, 0, none⟩)) rfl rfl ?_
              rintro _ _ ⟨rfl, rfl⟩
              simp only [List.cons_append, List.nil_append]
              refine Sl.en ?_
              refine Sl.thenN ?_
              refine Sl.bk hk hs hQ (fun _ => Sl.perm) ?_
              refine Sl.rn1 3 (lst' := [true, true, true, true, false, false, false, false, false]) (by kernel_rfl) rfl rfl (fun hk hs hQ => ?_)
              refine Sl.cl (robj_is cb sb most l k bs hb) rfl rfl ?_
              rintro _ _ ⟨rfl, rfl⟩
              simp only [List.cons_append, List.nil_append]
              refine Sl.en ?_
              refine Sl.thenN ?_
              refine Sl.bk hk hs hQ (fun _ => Sl.perm) ?_
              refine Sl.tk 4 (lst' := [true, true, true, true, true, false, false, false, false]) rfl (Sl.mvY rfl) rfl rfl rfl rfl (by kernel_rfl) (by kernel_rfl) Sl.perm rfl ?_
              refine Sl.tk 5 (lst' := [true, true, true, true, true, true, false, false, false]) rfl (Sl.xtY rfl rfl) rfl rfl rfl rfl (by kernel_rfl) (by kernel_rfl) Sl.perm rfl ?_
              refine Sl.tk 6 (lst' := [true, true, true, true, true, true, true, false, false]) rfl (Sl.xtY rfl rfl) rfl rfl rfl rfl (by kernel_rfl) (by kernel_rfl) Sl.perm rfl ?_
              refine Sl.tk 7 (lst' := [true, true, true, true, true, true, true, true, false]) rfl (Sl.asgY rfl) rfl rfl rfl rfl (by kernel_rfl) (by kernel_rfl) Sl.perm rfl ?_
              refine Sl.tk 8 (lst' := [true, true, true, true, true, true, true, true, true]) rfl (Sl.asgY rfl) rfl rfl rfl rfl (by kernel_rfl) (by kernel_rfl) Sl.perm rfl ?_
              refine Sl.dn (by kernel_rfl) ?_
              refine Sl.thenN ?_
              refine Sl.sq ?_
              refine Sl.rg ?_
              refine Sl.mv rfl rfl ?_
              refine Sl.lda rfl rfl (Sl.sub_all (idc_len hb)) ?_
              refine Sl.cl (name14_is k bs hb) rfl rfl ?_
              rintro _ _ ⟨rfl, rfl⟩
              simp only [List.cons_append, List.nil_append]
              refine Sl.addS rfl rfl rfl (by show 1 + (txt k bs).size ≤ _; have := txt_size k bs; omega) ?_
              rw [show (⟨#[111]⟩ : Str) ++ txt k bs = objS k bs from rfl]
              refine Sl.cl (get8_is B b c pl (objS k bs) hB (by omega)) rfl rfl ?_
              rintro _ _ ⟨⟨r, rfl, hcase⟩, rfl⟩
              simp only [List.cons_append, List.nil_append]
              rw [hr.eq] at hcase
              refine Sl.asg rfl rfl ?_
              refine Sl.en ?_
              refine Sl.thenN ?_
              refine Sl.sq ?_
              refine Sl.sq ?_
              refine Sl.rg ?_
              refine Sl.lda rfl rfl (Sl.sub_all (idc_len hb)) ?_
              refine Sl.cl (name14_is k bs hb) rfl rfl ?_
              rintro _ _ ⟨rfl, rfl⟩
              simp only [List.cons_append, List.nil_append]
              refine Sl.eqlS rfl rfl rfl ?_
              refine Sl.mv rfl rfl ?_
              refine Sl.split (t := 93) rfl (fun h93 => ?_) (fun h93 => ?_)
              · skip
                have hbadI := txt_bad (of_decide_eq_true h93)
                have ho : objGet l k bs = (⟨#[]⟩, 5) := by simp [objGet, hbadI]
                refine Sl.gskip rfl rfl rfl rfl rfl rfl ?_
                refine Sl.gskip rfl rfl rfl rfl rfl rfl ?_
                refine Sl.pk rfl rfl rfl ?_
                refine Sl.en ?_
                refine Sl.thenN ?_
                refine Sl.cdT rfl ?_
                refine Sl.sq ?_
                simp only [ho]
                refine Sl.rg ?_
                refine Sl.mv rfl rfl ?_
                refine Sl.neqI rfl rfl rfl ?_
                refine Sl.mv rfl rfl ?_
                refine Sl.split (t := 99) rfl (fun h99 => ?_) (fun h99 => ?_)
                · skip
                  exact absurd (of_decide_eq_true h99) (by simp) --closed
                · skip
                  refine Sl.gdo rfl rfl ?_
                  refine Sl.mv rfl rfl ?_
                  refine Sl.gdo rfl rfl ?_
                  refine Sl.neqS rfl rfl rfl ?_
                  refine Sl.pk rfl rfl rfl ?_
                  refine Sl.en ?_
                  refine Sl.thenN ?_
                  refine Sl.cdP rfl (fun h102 => ?_) (fun h102 => ?_)
                  · skip
                    exact absurd rfl h102 --closed
                  · skip
                    refine Sl.sk ?_
                    refine Sl.thenN ?_
                    refine Sl.sq ?_
                    refine Sl.rg ?_
                    refine Sl.cl (rgetN_is mainS gname_main) rfl rfl ?_
                    rintro _ _ ⟨rfl, rfl⟩
                    simp only [List.cons_append, List.nil_append]
                    refine Sl.mv rfl rfl ?_
                    refine Sl.xt rfl rfl rfl ?_
                    refine Sl.xt rfl rfl rfl ?_
                    refine Sl.al rfl (fun b17 => ?_)
                    refine Sl.sta rfl rfl (idc_len (bs := zer 32) (by simp [zer])) idc_one (setR_full (by rw [idc_len (by simp [zer])]; rfl)) ?_
                    refine Sl.asg rfl rfl ?_
                    refine Sl.en ?_
                    refine Sl.thenN ?_
                    refine Sl.sq ?_
                    refine Sl.rg ?_
                    refine Sl.cl (rlistN_is) rfl rfl ?_
                    rintro _ _ ⟨rfl, rfl⟩
                    simp only [List.cons_append, List.nil_append]
                    refine Sl.mv rfl rfl ?_
                    refine Sl.xt rfl rfl rfl ?_
                    refine Sl.xt rfl rfl rfl ?_
                    refine Sl.asg rfl rfl ?_
                    refine Sl.asg rfl rfl ?_
                    refine Sl.en ?_
                    refine Sl.thenN ?_
                    refine Sl.sq ?_
                    refine Sl.rg ?_
                    refine Sl.cl (rof_is none) rfl rfl ?_
                    rintro _ _ ⟨rfl, rfl⟩
                    simp only [List.cons_append, List.nil_append]
                    refine Sl.cl (of14_is ⟨#[]⟩ (by decide)) rfl rfl ?_
                    rintro _ _ ⟨⟨bs2, hb2, rfl⟩, rfl⟩
                    simp only [List.cons_append, List.nil_append]
                    refine Sl.cl (robjN_is 1 (bs2 ++ zer 24) (by simp [zer, hb2]) (goodId_pad hb2)) rfl rfl ?_
                    rintro _ _ ⟨rfl, rfl⟩
                    simp only [List.cons_append, List.nil_append]
                    refine Sl.mv rfl rfl ?_
                    refine Sl.xt rfl rfl rfl ?_
                    refine Sl.xt rfl rfl rfl ?_
                    refine Sl.asg rfl rfl ?_
                    refine Sl.asg rfl rfl ?_
                    refine Sl.en ?_
                    refine Sl.thenN ?_
                    refine Sl.sq ?_
                    refine Sl.rg ?_
                    refine Sl.mv rfl rfl ?_
                    refine Sl.eqlI rfl rfl rfl ?_
                    refine Sl.mv rfl rfl ?_
                    refine Sl.split (t := 130) rfl (fun h130 => ?_) (fun h130 => ?_)
                    · skip
                      refine Sl.gdo rfl rfl ?_
                      refine Sl.mv rfl rfl ?_
                      refine Sl.gdo rfl rfl ?_
                      refine Sl.eqlI rfl rfl rfl ?_
                      refine Sl.pk rfl rfl rfl ?_
                      refine Sl.mv rfl rfl ?_
                      refine Sl.split (t := 134) rfl (fun h134 => ?_) (fun h134 => ?_)
                      · skip
                        refine Sl.gdo rfl rfl ?_
                        refine Sl.mv rfl rfl ?_
                        refine Sl.gdo rfl rfl ?_
                        refine Sl.eqlI rfl rfl rfl ?_
                        refine Sl.pk rfl rfl rfl ?_
                        refine Sl.asg rfl rfl ?_
                        refine Sl.en ?_
                        refine Sl.thenN ?_
                        refine Sl.rt ?_
                        exact Sl.ret1 [A] Tryz.results4 rfl ⟨rfl, rfl⟩ Sl.perm
                      · skip
                        exact absurd h134 (by decide) --closed
                    · skip
                      exact absurd h130 (by decide) --closed
              · skip
                have hgood := txt_good (of_decide_eq_false h93)
                refine Sl.gdo rfl rfl ?_
                refine Sl.mv rfl rfl ?_
                refine Sl.gdo rfl rfl ?_
                refine Sl.lss rfl rfl rfl ?_
                refine Sl.pk rfl rfl rfl ?_
                refine Sl.en ?_
                refine Sl.thenN ?_
                refine Sl.cdP rfl (fun h96 => ?_) (fun h96 => ?_)
                · skip
                  have ho : objGet l k bs = (⟨#[]⟩, 5) := by
                    rcases hcase with ⟨i, x, h1, _⟩ | ⟨_, h2⟩
                    · omega
                    · simp [objGet, hgood, h2]
                  refine Sl.sq ?_
                  simp only [ho]
                  refine Sl.rg ?_
                  refine Sl.mv rfl rfl ?_
                  refine Sl.neqI rfl rfl rfl ?_
                  refine Sl.mv rfl rfl ?_
                  refine Sl.split (t := 99) rfl (fun h99 => ?_) (fun h99 => ?_)
                  · skip
                    exact absurd (of_decide_eq_true h99) (by simp) --closed
                  · skip
                    refine Sl.gdo rfl rfl ?_
                    refine Sl.mv rfl rfl ?_
                    refine Sl.gdo rfl rfl ?_
                    refine Sl.neqS rfl rfl rfl ?_
                    refine Sl.pk rfl rfl rfl ?_
                    refine Sl.en ?_
                    refine Sl.thenN ?_
                    refine Sl.cdP rfl (fun h102 => ?_) (fun h102 => ?_)
                    · skip
                      exact absurd rfl h102 --closed
                    · skip
                      refine Sl.sk ?_
                      refine Sl.thenN ?_
                      refine Sl.sq ?_
                      refine Sl.rg ?_
                      refine Sl.cl (rgetN_is mainS gname_main) rfl rfl ?_
                      rintro _ _ ⟨rfl, rfl⟩
                      simp only [List.cons_append, List.nil_append]
                      refine Sl.mv rfl rfl ?_
                      refine Sl.xt rfl rfl rfl ?_
                      refine Sl.xt rfl rfl rfl ?_
                      refine Sl.al rfl (fun b17 => ?_)
                      refine Sl.sta rfl rfl (idc_len (bs := zer 32) (by simp [zer])) idc_one (setR_full (by rw [idc_len (by simp [zer])]; rfl)) ?_
                      refine Sl.asg rfl rfl ?_
                      refine Sl.en ?_
                      refine Sl.thenN ?_
                      refine Sl.sq ?_
                      refine Sl.rg ?_
                      refine Sl.cl (rlistN_is) rfl rfl ?_
                      rintro _ _ ⟨rfl, rfl⟩
                      simp only [List.cons_append, List.nil_append]
                      refine Sl.mv rfl rfl ?_
                      refine Sl.xt rfl rfl rfl ?_
                      refine Sl.xt rfl rfl rfl ?_
                      refine Sl.asg rfl rfl ?_
                      refine Sl.asg rfl rfl ?_
                      refine Sl.en ?_
                      refine Sl.thenN ?_
                      refine Sl.sq ?_
                      refine Sl.rg ?_
                      refine Sl.cl (rof_is none) rfl rfl ?_
                      rintro _ _ ⟨rfl, rfl⟩
                      simp only [List.cons_append, List.nil_append]
                      refine Sl.cl (of14_is ⟨#[]⟩ (by decide)) rfl rfl ?_
                      rintro _ _ ⟨⟨bs2, hb2, rfl⟩, rfl⟩
                      simp only [List.cons_append, List.nil_append]
                      refine Sl.cl (robjN_is 1 (bs2 ++ zer 24) (by simp [zer, hb2]) (goodId_pad hb2)) rfl rfl ?_
                      rintro _ _ ⟨rfl, rfl⟩
                      simp only [List.cons_append, List.nil_append]
                      refine Sl.mv rfl rfl ?_
                      refine Sl.xt rfl rfl rfl ?_
                      refine Sl.xt rfl rfl rfl ?_
                      refine Sl.asg rfl rfl ?_
                      refine Sl.asg rfl rfl ?_
                      refine Sl.en ?_
                      refine Sl.thenN ?_
                      refine Sl.sq ?_
                      refine Sl.rg ?_
                      refine Sl.mv rfl rfl ?_
                      refine Sl.eqlI rfl rfl rfl ?_
                      refine Sl.mv rfl rfl ?_
                      refine Sl.split (t := 130) rfl (fun h130 => ?_) (fun h130 => ?_)
                      · skip
                        refine Sl.gdo rfl rfl ?_
                        refine Sl.mv rfl rfl ?_
                        refine Sl.gdo rfl rfl ?_
                        refine Sl.eqlI rfl rfl rfl ?_
                        refine Sl.pk rfl rfl rfl ?_
                        refine Sl.mv rfl rfl ?_
                        refine Sl.split (t := 134) rfl (fun h134 => ?_) (fun h134 => ?_)
                        · skip
                          refine Sl.gdo rfl rfl ?_
                          refine Sl.mv rfl rfl ?_
                          refine Sl.gdo rfl rfl ?_
                          refine Sl.eqlI rfl rfl rfl ?_
                          refine Sl.pk rfl rfl rfl ?_
                          refine Sl.asg rfl rfl ?_
                          refine Sl.en ?_
                          refine Sl.thenN ?_
                          refine Sl.rt ?_
                          exact Sl.ret1 [A] Tryz.results4 rfl ⟨rfl, rfl⟩ Sl.perm
                        · skip
                          exact absurd h134 (by decide) --closed
                      · skip
                        exact absurd h130 (by decide) --closed
                · skip
                  obtain ⟨i, x, rfl, hix, hmx⟩ : ∃ (i : Nat) (x : Str), r = i ∧ pl[i]? = some (objS k bs, x) ∧ mget l (objS k bs) = some x := by
                    rcases hcase with h | ⟨h1, _⟩
                    · exact h
                    · omega
                  have ho : objGet l k bs = (x, 0) := by simp [objGet, hgood, hmx]
                  have hil : i < pl.length := (List.getElem?_eq_some_iff.1 hix).1
                  refine Sl.sq ?_
                  simp only [ho]
                  refine Sl.rg ?_
                  refine Sl.mv rfl rfl ?_
                  refine Sl.neqI rfl rfl rfl ?_
                  refine Sl.mv rfl rfl ?_
                  refine Sl.split (t := 105) rfl (fun h105 => ?_) (fun h105 => ?_)
                  · skip
                    exact absurd (of_decide_eq_true h105) (by simp) --closed
                  · skip
                    refine Sl.gdo rfl rfl ?_
                    refine Sl.mv rfl rfl ?_
                    refine Sl.gdo rfl rfl ?_
                    refine Sl.mv rfl rfl ?_
                    refine Sl.gdo rfl rfl ?_
                    refine Sl.mv rfl rfl ?_
                    refine Sl.gdo rfl rfl ?_
                    refine Sl.slAddr B hB (by omega) (fun bb bo hbb => ?_)
                    subst hbb
                    refine Sl.ia rfl rfl rfl (by omega) ?_
                    refine Sl.gdo rfl rfl ?_
                    refine Sl.fa rfl rfl ?_
                    refine Sl.gdo rfl rfl ?_
                    refine Sl.ldC B rfl rfl (v := .string x) (by rw [show bo + (i : Int).toNat * 2 + 1 = bo + i * 2 + 1 from by omega]; exact SlIs.cell hB hix (by decide) rfl) ?_
                    refine Sl.gdo rfl rfl ?_
                    refine Sl.neqS rfl rfl rfl ?_
                    refine Sl.pk rfl rfl rfl ?_
                    refine Sl.en ?_
                    refine Sl.thenN ?_
                    refine Sl.cdP rfl (fun h113 => ?_) (fun h113 => ?_)
                    · skip
                      exact absurd rfl h113 --closed
                    · skip
                      refine Sl.sk ?_
                      refine Sl.thenN ?_
                      refine Sl.sq ?_
                      refine Sl.rg ?_
                      refine Sl.cl (rgetN_is mainS gname_main) rfl rfl ?_
                      rintro _ _ ⟨rfl, rfl⟩
                      simp only [List.cons_append, List.nil_append]
                      refine Sl.mv rfl rfl ?_
                      refine Sl.xt rfl rfl rfl ?_
                      refine Sl.xt rfl rfl rfl ?_
                      refine Sl.al rfl (fun b17 => ?_)
                      refine Sl.sta rfl rfl (idc_len (bs := zer 32) (by simp [zer])) idc_one (setR_full (by rw [idc_len (by simp [zer])]; rfl)) ?_
                      refine Sl.asg rfl rfl ?_
                      refine Sl.en ?_
                      refine Sl.thenN ?_
                      refine Sl.sq ?_
                      refine Sl.rg ?_
                      refine Sl.cl (rlistN_is) rfl rfl ?_
                      rintro _ _ ⟨rfl, rfl⟩
                      simp only [List.cons_append, List.nil_append]
                      refine Sl.mv rfl rfl ?_
                      refine Sl.xt rfl rfl rfl ?_
                      refine Sl.xt rfl rfl rfl ?_
                      refine Sl.asg rfl rfl ?_
                      refine Sl.asg rfl rfl ?_
                      refine Sl.en ?_
                      refine Sl.thenN ?_
                      refine Sl.sq ?_
                      refine Sl.rg ?_
                      refine Sl.cl (rof_is none) rfl rfl ?_
                      rintro _ _ ⟨rfl, rfl⟩
                      simp only [List.cons_append, List.nil_append]
                      refine Sl.cl (of14_is ⟨#[]⟩ (by decide)) rfl rfl ?_
                      rintro _ _ ⟨⟨bs2, hb2, rfl⟩, rfl⟩
                      simp only [List.cons_append, List.nil_append]
                      refine Sl.cl (robjN_is 1 (bs2 ++ zer 24) (by simp [zer, hb2]) (goodId_pad hb2)) rfl rfl ?_
                      rintro _ _ ⟨rfl, rfl⟩
                      simp only [List.cons_append, List.nil_append]
                      refine Sl.mv rfl rfl ?_
                      refine Sl.xt rfl rfl rfl ?_
                      refine Sl.xt rfl rfl rfl ?_
                      refine Sl.asg rfl rfl ?_
                      refine Sl.asg rfl rfl ?_
                      refine Sl.en ?_
                      refine Sl.thenN ?_
                      refine Sl.sq ?_
                      refine Sl.rg ?_
                      refine Sl.mv rfl rfl ?_
                      refine Sl.eqlI rfl rfl rfl ?_
                      refine Sl.mv rfl rfl ?_
                      refine Sl.split (t := 130) rfl (fun h130 => ?_) (fun h130 => ?_)
                      · skip
                        refine Sl.gdo rfl rfl ?_
                        refine Sl.mv rfl rfl ?_
                        refine Sl.gdo rfl rfl ?_
                        refine Sl.eqlI rfl rfl rfl ?_
                        refine Sl.pk rfl rfl rfl ?_
                        refine Sl.mv rfl rfl ?_
                        refine Sl.split (t := 134) rfl (fun h134 => ?_) (fun h134 => ?_)
                        · skip
                          refine Sl.gdo rfl rfl ?_
                          refine Sl.mv rfl rfl ?_
                          refine Sl.gdo rfl rfl ?_
                          refine Sl.eqlI rfl rfl rfl ?_
                          refine Sl.pk rfl rfl rfl ?_
                          refine Sl.asg rfl rfl ?_
                          refine Sl.en ?_
                          refine Sl.thenN ?_
                          refine Sl.rt ?_
                          exact Sl.ret1 [A] Tryz.results4 rfl ⟨rfl, rfl⟩ Sl.perm
                        · skip
                          exact absurd h134 (by decide) --closed
                      · skip
                        exact absurd h130 (by decide) --closed
end Go.Proofs.YtdcjlbfmdkgcpaaGreatDoor
