/- What comes in, read off the start: strings, numbers, names. -/
import Derived.Test.YtdcjlbfmdkgcpaaGreatDoorProg
import Derived.Test.YtdcjlbfmdkgcpaaGreatDoorIn
import Derived.Test.YtdcjlbfmdkgcpaaGreatDoorIl
import Derived.Test.YtdcjlbfmdkgcpaaGreatDoorLw
import Derived.Test.YtdcjlbfmdkgcpaaGreatDoorRb
set_option linter.unusedSimpArgs false
set_option linter.unusedVariables false
namespace Go.Proofs.YtdcjlbfmdkgcpaaGreatDoor
open Go Go.Sl
open Go.ChangeShapes Go.WideShapes Go.ChangeAt Go.RowKit
open Go.ChangeMaps (open_string shut_string)

theorem own : ownKnob Tryz.prog.godebug = none := by kernel_rfl
theorem laidOut : laidOutB Tryz.prog = true := by kernel_rfl
theorem cells_sum : Tryz.prog.cellsOf 22 = 32 := cells_of Tryz.underlying22 Tryz.sizeOf22
theorem cells_id : Tryz.prog.cellsOf 24 = 33 := cells_of Tryz.underlying24 Tryz.sizeOf24
set_option maxRecDepth 100000 in
theorem in_id {H : Type} {enc : TypeId × Value → H} {w : World} {base b0 : Nat} {spare : Nat → Bool} {held : Bool} {v : Value} {d : DataW H} {p : List MemPlace} {r : Reach} (hv : Value.okWide Tryz.prog w r b0 24 v)
    (h : DataW.Trod enc Tryz.prog w base spare held 24 v d p) : ∃ k bs, bs.length = 32 ∧ v = .agg (idc k bs).toArray := by
  obtain ⟨k, bs, h1, h2⟩ := in_kb (P := Tryz.prog) Tryz.underlying24 Tryz.underlying5 Tryz.underlying22 Tryz.underlying5 rfl rfl cells_u8 cells_u8 cells_sum cells_id hv h
  exact ⟨k, bs, h1, h2⟩
theorem fit_of {H : Type} {P : Program} {ts us : List TypeId} {ds gs : List (DataW H)} (h : (DataW.weightsEach P (ts ++ us) (ds ++ gs)).all (· ≤ reachBytes) = true) {j : Nat} {t : TypeId} {d : DataW H} (ht : ts[j]? = some t) (hd : ds[j]? = some d) : Fit P t d := fun n hn => by
  have e1 : (ts ++ us)[j]? = some t := by rw [List.getElem?_append_left (List.getElem?_eq_some_iff.1 ht).1]; exact ht
  have e2 : (ds ++ gs)[j]? = some d := by rw [List.getElem?_append_left (List.getElem?_eq_some_iff.1 hd).1]; exact hd
  have := List.all_eq_true.1 h n (DataW.weights_mem_each e1 e2 n hn)
  simpa using this
theorem cells_str : Tryz.prog.cellsOf 9 = 1 := cells_of Tryz.underlying9 Tryz.sizeOf9
theorem cells_bool : Tryz.prog.cellsOf 4 = 1 := cells_of Tryz.underlying4 Tryz.sizeOf4
theorem bytes_write : Tryz.prog.bytesOf 32 = 40 := by kernel_rfl
theorem bytes_str : Tryz.prog.bytesOf 9 = 16 := by kernel_rfl
theorem bytes_id : Tryz.prog.bytesOf 24 = 33 := by kernel_rfl
theorem cells_write : Tryz.prog.cellsOf 32 = 3 := cells_of Tryz.underlying32 Tryz.sizeOf32
section
variable {H : Type} {enc : TypeId × Value → H} {w : World} {base' b0 : Nat} {spare : Nat → Bool} {held : Bool} {v : Value} {d : DataW H} {p : List MemPlace} {r : Reach}
set_option maxRecDepth 100000 in
theorem in_writes (hv : Value.okWide Tryz.prog w r b0 41 v) (h : DataW.Trod enc Tryz.prog w base' spare held 41 v d p) (hf : Fit Tryz.prog 41 d) :
    ∃ a cap, ∃ xs : List Wr, v = .slice a xs.length cap ∧ SlIs (base w) encW 3 a xs.length xs ∧ (∀ x ∈ xs, x.1.size ≤ reachBytes ∧ x.2.1.size ≤ reachBytes) ∧ xs.length ≤ 140737488355328 := by
  obtain ⟨a, cap, xs, h1, h2, h3, _, h4⟩ := in_slice (enc' := encW) (sz := 3) (fun x : Wr => x.1.size ≤ reachBytes ∧ x.2.1.size ≤ reachBytes) Tryz.underlying41 cells_write (by decide)
    (dec_write Tryz.underlying32 Tryz.underlying9 Tryz.underlying9 Tryz.underlying4 rfl rfl rfl cells_str cells_str cells_bool cells_write) (fun _ _ => rfl) hv h hf
  rw [bytes_write] at h4
  exact ⟨a, cap, xs, h1, h2, h3, by have := reachBytes_lt; omega⟩
set_option maxRecDepth 100000 in
theorem in_strs (hv : Value.okWide Tryz.prog w r b0 60 v) (h : DataW.Trod enc Tryz.prog w base' spare held 60 v d p) (hf : Fit Tryz.prog 60 d) :
    ∃ a cap, ∃ xs : List Str, v = .slice a xs.length cap ∧ SlIs (base w) encS 1 a xs.length xs ∧ (∀ x ∈ xs, x.size ≤ reachBytes) ∧ xs.length ≤ 140737488355328 := by
  obtain ⟨a, cap, xs, h1, h2, h3, _, h4⟩ := in_slice (enc' := encS) (sz := 1) (fun x : Str => x.size ≤ reachBytes) Tryz.underlying60 cells_str (by decide) (dec_str Tryz.underlying9) (fun _ _ => rfl) hv h hf
  rw [bytes_str] at h4
  exact ⟨a, cap, xs, h1, h2, h3, by have := reachBytes_lt; omega⟩
set_option maxRecDepth 100000 in
theorem in_ids (hv : Value.okWide Tryz.prog w r b0 61 v) (h : DataW.Trod enc Tryz.prog w base' spare held 61 v d p) (hf : Fit Tryz.prog 61 d) :
    ∃ a cap, ∃ xs : List (UInt8 × List UInt8), v = .slice a xs.length cap ∧ SlIs (base w) encI 33 a xs.length xs ∧ (∀ x ∈ xs, x.2.length = 32) ∧ xs.length ≤ 140737488355328 := by
  obtain ⟨a, cap, xs, h1, h2, h3, _, h4⟩ := in_slice (enc' := encI) (sz := 33) (fun x : UInt8 × List UInt8 => x.2.length = 32) Tryz.underlying61 cells_id (by decide)
    (dec_kb Tryz.underlying24 Tryz.underlying5 Tryz.underlying22 Tryz.underlying5 rfl rfl cells_u8 cells_u8 cells_sum cells_id) (fun y hy => idc_len hy) hv h hf
  rw [bytes_id] at h4
  exact ⟨a, cap, xs, h1, h2, h3, by have := reachBytes_lt; omega⟩
end
end Go.Proofs.YtdcjlbfmdkgcpaaGreatDoor
