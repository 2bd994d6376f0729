/- slices.SortFunc, by the kit's contract, as a contract over memory in parts. No program in sight. -/
import Derived.Test.YtdcjlbfmdkgcpaaGreatDoorNd
import Derived.Shelf.SlSortCmp.WholeK
import Derived.Shelf.SlSortCmp.NoneTotal
set_option linter.unusedSimpArgs false
set_option linter.unusedSectionVars false
set_option linter.unusedVariables false
namespace Go.Sl
open Go.RowKit Go.Proofs Go.Sort Go.Shelf

theorem grown_of {w w' : World} (hs : Sat w w' [base w]) : ∃ q os', w' = grow (w.drewN q) os' := by
  have hb := Sat.below (w := w') (g := w) hs
  refine ⟨w'.drawn - w.drawn, w'.heap.extract w.heap.size w'.heap.size, ?_⟩
  have hd := hs.output.drawn
  have hh : w'.heap = w.heap ++ w'.heap.extract w.heap.size w'.heap.size := by
    apply Array.ext_getElem?
    intro i
    rw [Array.getElem?_append]
    by_cases hi : i < w.heap.size
    · rw [if_pos hi]
      obtain ⟨h1, h2, d, l1, l2, a, _⟩ := hs.mem
      have e := a i hi
      rw [Array.getElem?_eq_getElem hi] at e ⊢
      exact l1 _ _ e
    · rw [if_neg hi, Array.getElem?_extract]
      by_cases h2 : i < w'.heap.size
      · rw [if_pos (by omega)]; congr 1; omega
      · rw [if_neg (by omega), Array.getElem?_eq_none (by omega)]
  have e1 := hs.os
  have e2 := hs.tape
  have e3 := hs.output.out
  cases w; cases w'
  simp only [grow, World.drewN] at *
  subst e1; subst e2; subst e3
  simp only [World.mk.injEq, and_true, true_and]
  exact ⟨hh, by omega⟩
theorem cmpLays_of {P : Program} {α : Type} [Inhabited α] {gf : Nat} {enc : α → List Value} {k : Nat} {cf : α → α → Int} (h : ∀ x y : α, Fnc P gf [.agg (enc x).toArray, .agg (enc y).toArray] [] (fun v L' => v = .int .i64 (cf x y) ∧ L' = []))
    (blk off size : Nat) (w : World) : CmpLays P gf #[] enc k cf blk off size w := by
  intro m os dk _ x y
  have hc := h x y (sortWorldK enc k w blk off m dk os) (sortWorldK enc k w blk off m dk os) (base (sortWorldK enc k w blk off m dk os)) (Sat.begin _)
  rw [Array.append_empty]
  refine Calls.mono hc ?_
  rintro e w' ⟨v, L', rfl, ⟨rfl, rfl⟩, hs⟩
  exact ⟨rfl, grown_of hs⟩
theorem flatK_at {α : Type} [Inhabited α] {enc : α → List Value} {k : Nat} (hk : ∀ x, (enc x).length = k) (xs : List α) : (flatK enc k xs.toArray).toList = flat enc xs := by
  have hl := flat_length (enc := enc) (sz := k) (xs := xs) (fun x _ => hk x)
  apply List.ext_getElem?
  intro t
  rw [Array.getElem?_toList]
  simp only [flatK, Array.getElem?_map, List.size_toArray]
  rcases Nat.lt_or_ge t (xs.length * k) with h | h
  · have hkp : 0 < k := by
      rcases Nat.eq_zero_or_pos k with q | q
      · rw [q] at h; simp at h
      · exact q
    have hi : t / k < xs.length := (Nat.div_lt_iff_lt_mul hkp).2 h
    have hj : t % k < k := Nat.mod_lt _ hkp
    have := flat_at (enc := enc) (sz := k) (xs := xs) (i := t / k) (x := xs[t / k]) (fun x _ => hk x) (by simp [hi]) (t % k) hj
    rw [show t / k * k + t % k = t from by rw [Nat.mul_comm]; exact Nat.div_add_mod t k] at this
    rw [this]
    have e1 : (Array.range (xs.length * k))[t]? = some t := by simp [h]
    rw [e1]
    have e2 : xs.toArray[t / k]! = xs[t / k] := by simp [hi]
    simp only [Option.map_some, e2]
    rw [List.getElem!_eq_getElem?_getD]
    have e3 : (enc xs[t / k])[t % k]? = some ((enc xs[t / k])[t % k]'(by rw [hk]; exact hj)) := List.getElem?_eq_getElem (by rw [hk]; exact hj)
    rw [e3]; rfl
  · have e1 : (Array.range (xs.length * k))[t]? = none := by simp; omega
    rw [e1, List.getElem?_eq_none (by omega)]; rfl
theorem sorted_list {α : Type} [Inhabited α] {lt : α → α → Bool} {d : Array α} (h : SortedIn lt 0 d.size d) : d.toList.Pairwise fun x y => lt y x = false := by
  rw [List.pairwise_iff_getElem]
  intro i j hi hj hij
  have := h i j (Nat.zero_le _) hij (by simpa using hj)
  rw [getElem!_pos d i (by simpa using hi), getElem!_pos d j (by simpa using hj)] at this
  simpa using this
/-- The sort of a slice of the code's own. -/
theorem sortF {P : Program} {ρ : Ren} {α : Type} [Inhabited α] (Ly : SlLaysF0.n6 P ρ) {sz : Nat} (aE : ∀ w, (isAgg (ρ.t 24)).run P w = .ok true w) (zE : ∀ w, (Go.sizeOf (ρ.t 24)).run P w = .ok sz w)
    {enc : α → List Value} (hk : ∀ x, (enc x).length = sz) (h1 : ∀ x, ∀ v ∈ enc x, v.oneCell' = true) (cf : α → α → Int) (hO : SWO (ltOf cf)) {gf : Nat} (eg : ∀ args w, (callFunc gf args).run P w = .ok (.enter gf args) w)
    (hcmp : ∀ x y : α, Fnc P gf [.agg (enc x).toArray, .agg (enc y).toArray] [] (fun v L' => v = .int .i64 (cf x y) ∧ L' = []))
    {T cap : Nat} {a : Option Addr} {xs : List α} (hsz : xs.length < 4611686018427387904) :
    Fnc P (ρ.f 6) [.slice a xs.length cap, .func (.func gf) #[] #[]] [osl T enc sz a cap xs]
      (fun v L' => v = .tuple #[] ∧ ∃ ys : List α, ys.Perm xs ∧ (ys.Pairwise fun x y => ltOf cf y x = false) ∧ L' = [osl T enc sz a cap ys]) := by
  intro g w F hw
  by_cases hne : xs = []
  · subst hne
    refine (AnyF.slices_SortFunc_none Ly a cap (.func (.func gf) #[] #[]) w).mono ?_
    rintro e w' ⟨rfl, rfl⟩
    exact ⟨_, _, rfl, ⟨rfl, [], List.Perm.refl _, List.Pairwise.nil, rfl⟩, hw⟩
  · obtain ⟨k1, k2, dj, l1, l2, hA, hR⟩ := hw.mem
    obtain ⟨hxs, hcap, ⟨_, e, _⟩ | ⟨b, pre, spare, fz, e1, hb, hsp, hfz⟩⟩ := hA
    · exact absurd e hne
    · subst e1
      have hwb : hpOf w b = some (.cells (pre ++ flat enc xs ++ spare).toArray T fz) := l1 _ _ hb
      have hlt : b < w.heap.size := by
        rcases Nat.lt_or_ge b w.heap.size with q | q
        · exact q
        · have : w.heap[b]? = none := Array.getElem?_eq_none q
          rw [show hpOf w b = w.heap[b]? from rfl, this] at hwb; cases hwb
      have hH : HoldsK enc sz w b pre.length xs.toArray := by
        intro j hj
        have hfl := flatK_at hk xs
        have hsize : (flatK enc sz xs.toArray).size = (flat enc xs).length := by rw [← hfl]; simp
        have hj' : j < (flat enc xs).length := by rw [← hsize]; exact hj
        have hv : (flat enc xs)[j]? = some ((flatK enc sz xs.toArray)[j]!) := by
          rw [← hfl, Array.getElem?_toList, getElem!_pos (flatK enc sz xs.toArray) j hj, Array.getElem?_eq_getElem hj]
        refine ⟨?_, ?_⟩
        · rw [cell_of hwb, List.getElem?_toArray, List.append_assoc, List.getElem?_append_right (by omega), show pre.length + j - pre.length = j from by omega, List.getElem?_append_left hj', hv]; rfl
        · exact frozenG hwb (by simpa using hfz) (by simp only [List.size_toArray, List.length_append]; omega)
      refine (AnyQ.slices_SortFunc Ly sz aE zE enc hk h1 cf hO gf #[] b pre.length cap xs.toArray w eg (cmpLays_of hcmp _ _ _ _) hH hlt (by simpa using hsz)).mono ?_
      rintro e w' ⟨rfl, d', n, os, hp, hs, rfl⟩
      obtain ⟨hp1, _, hp3⟩ := hp
      have hperm : d'.toList.Perm xs := by
        have e1 : (d'.extract 0 xs.toArray.size).toList = d'.toList := by rw [show xs.toArray.size = d'.size from hp1.symm]; simp
        have e2 : (xs.toArray.extract 0 xs.toArray.size).toList = xs := by simp
        rw [e1, e2] at hp3; exact hp3
      have hdl : d'.size = xs.length := by simpa using hp1
      have hsorted : d'.toList.Pairwise fun x y => ltOf cf y x = false := sorted_list (by rw [hp1]; exact hs)
      refine ⟨_, _, rfl, ⟨rfl, d'.toList, hperm, hsorted, rfl⟩, ?_⟩
      have hys : ∀ x ∈ d'.toList, (enc x).length = sz := fun x _ => hk x
      have hfy := flat_length (enc := enc) (sz := sz) (xs := d'.toList) hys
      have hfx := flat_length (enc := enc) (sz := sz) (xs := xs) hxs
      have hflen : (flat enc d'.toList).length = (flat enc xs).length := by rw [hfy, hfx]; simp [hdl]
      have hput : putCells id pre.length (flatK enc sz d') (pre ++ flat enc xs ++ spare).toArray = (pre ++ flat enc d'.toList ++ spare).toArray := by
        have hfl := flatK_at hk d'.toList
        have hsize : (flatK enc sz d').size = (flat enc d'.toList).length := by rw [← hfl]; simp
        apply Array.ext_getElem?
        intro i
        simp only [putCells, Array.getElem?_mapIdx, List.getElem?_toArray, List.append_assoc]
        rcases Nat.lt_or_ge i pre.length with q | q
        · rw [List.getElem?_append_left q, List.getElem?_append_left q, List.getElem?_eq_getElem q, Option.map_some, if_neg (by omega)]
        · rw [List.getElem?_append_right q, List.getElem?_append_right q]
          rcases Nat.lt_or_ge (i - pre.length) (flat enc xs).length with r | r
          · rw [List.getElem?_append_left r, List.getElem?_append_left (by omega), List.getElem?_eq_getElem r]
            have hj : i - pre.length < (flatK enc sz d').size := by omega
            have hv : (flat enc d'.toList)[i - pre.length]? = some ((flatK enc sz d')[i - pre.length]!) := by
              have h2 := hfl
              simp only [Array.toArray_toList] at h2
              rw [← h2, Array.getElem?_toList, getElem!_pos (flatK enc sz d') _ hj, Array.getElem?_eq_getElem hj]
            rw [hv, Option.map_some, if_pos ⟨q, by omega⟩]; rfl
          · rw [List.getElem?_append_right r, List.getElem?_append_right (by omega), hflen]
            cases hq : spare[i - pre.length - (flat enc xs).length]? with
            | none => rfl
            | some v => rw [Option.map_some, if_neg (by omega)]
      have hheap : ∀ x, x < w.heap.size → hpOf (sortWorldK enc sz w b pre.length n d' os) x = if x = b then some (.cells (pre ++ flat enc d'.toList ++ spare).toArray T fz) else hpOf w x := by
        intro x hx
        have e0 : hpOf (sortWorldK enc sz w b pre.length n d' os) x = (w.heap.modify b (onCells (putCells id pre.length (flatK enc sz d'))))[x]? := by
          simp only [hpOf, sortWorldK, grow, putRowK, putRow, mapBlock, Sort.ahead]
          rw [Array.getElem?_append_left (by simpa using hx)]
        rw [e0, Array.getElem?_modify]
        by_cases q : x = b
        · subst q
          have h' : w.heap[x]? = some (.cells (pre ++ flat enc xs ++ spare).toArray T fz) := hwb
          rw [if_pos rfl, if_pos rfl, h']
          simp only [Option.map_some, onCells, hput]
        · rw [if_neg (fun r => q r.symm), if_neg q]; rfl
      have inb : ∀ x o, hpOf w x = some o → x < w.heap.size := fun x o hx => by
        rcases Nat.lt_or_ge x w.heap.size with q | q
        · exact q
        · have : w.heap[x]? = none := Array.getElem?_eq_none q
          rw [show hpOf w x = w.heap[x]? from rfl, this] at hx; cases hx
      refine ⟨hw.os, hw.tape, ⟨hw.output.out, Nat.le_trans hw.output.drawn (Nat.le_add_right _ _)⟩, Nat.le_trans hw.size (by simp [sortWorldK, grow, putRowK, putRow, mapBlock, Sort.ahead]), ?_⟩
      refine ⟨k1.put b (.cells (pre ++ flat enc d'.toList ++ spare).toArray T fz), k2, ?_, ?_, ?_, ?_, hR⟩
      · intro x
        by_cases q : x = b
        · subst q; right
          rcases dj x with r | r
          · rw [hb] at r; cases r
          · exact r
        · rcases dj x with r | r
          · left; simp [Hp.put, q, r]
          · exact .inr r
      · intro x o hx
        by_cases q : x = b
        · subst q
          simp [Hp.put] at hx; subst hx
          rw [hheap _ hlt, if_pos rfl]; simp
        · simp [Hp.put, q] at hx
          have := l1 _ _ hx
          rw [hheap _ (inb _ _ this), if_neg q]; exact this
      · intro x o hx
        have := l2 _ _ hx
        have q : x ≠ b := fun e => by
          subst e
          rcases dj x with r | r
          · rw [hb] at r; cases r
          · rw [r] at hx; cases hx
        rw [hheap _ (inb _ _ this), if_neg q]; exact this
      · refine ⟨hys, by simp [hdl]; exact hcap, .inr ⟨b, pre, spare, fz, rfl, by rw [Hp.put_at], by simp [hdl]; exact hsp, ?_⟩⟩
        have : (pre ++ flat enc d'.toList ++ spare).length = (pre ++ flat enc xs ++ spare).length := by simp [hflen]
        rw [this]; exact hfz
end Go.Sl
