/- Sets of names: plain facts. -/
import Derived.Test.YtkkhjpkkjpcbmaaE10
namespace Go.Proofs.Ytkkhjpkkjpcbmaa
open Go.RowKit
theorem und_s_string : Try.prog.underlying 33 = some (.slice 28) := by kernel_rfl
theorem siz_s_string : Try.prog.cellsOf 28 = 1 := by kernel_rfl
noncomputable def inf_s_string : TypeInfo := (Try.prog.info? 28).getD default
theorem inf_s_string_eq : Try.prog.info? 28 = some inf_s_string := by kernel_rfl
theorem inf_s_string_size : inf_s_string.size = 1 := by kernel_rfl
theorem inf_s_string_zero : inf_s_string.zero.isSome = true := by kernel_rfl
def addL (A l : List ByteArray) : List ByteArray := l.foldl addS A
theorem addL_mem : ∀ (l A : List ByteArray) (x : ByteArray), x ∈ addL A l ↔ x ∈ A ∨ x ∈ l
 | [], A, x => by simp [addL]
 | y :: r, A, x => by
  show x ∈ addL (addS A y) r ↔ _
  rw [addL_mem r, addS_mem, or_assoc, List.mem_cons]
theorem addL_nodup : ∀ (l A : List ByteArray), A.Nodup → (addL A l).Nodup
 | [], _A, h => h
 | y :: r, _A, h => addL_nodup r _ (addS_nodup h y)
theorem addL_len : ∀ (l A : List ByteArray), (addL A l).length ≤ A.length + l.length
 | [], A => Nat.le_refl _
 | y :: r, A => by
  have h1 := addL_len r (addS A y)
  have h2 := addS_len A y
  show (addL (addS A y) r).length ≤ _
  simp only [zlc]; omega
theorem addL_snoc (A l : List ByteArray) (i : Nat) (h : i < l.length) : addS (addL A (l.take i)) l[i] = addL A (l.take (i + 1)) := by
 unfold addL
 rw [List.take_succ_eq_append_getElem h, List.foldl_append]; rfl
theorem addL_app (A l m : List ByteArray) : addL (addL A l) m = addL A (l ++ m) := by
 unfold addL; rw [List.foldl_append]
theorem flat_snoc {X : List (List ByteArray)} {i : Nat} (h : i < X.length) : (X.take (i + 1)).flatten = (X.take i).flatten ++ X[i] := by
 rw [List.take_succ_eq_append_getElem h, List.flatten_append]; simp
theorem sD_half (A : List ByteArray) : (sD A).length / 2 = A.length := by rw [sD_len]; omega
theorem asc_nodup {A : List ByteArray} (h : Asc (nms A)) : A.Nodup := by
 have h1 : (nms A).Nodup := h.imp (fun {a b} q e => by rw [e] at q; exact absurd q (List.lt_irrefl _))
 exact (List.pairwise_map.1 h1).imp (fun {a b} q e => q (by rw [e]))
def locT (s : ByteArray) (u t w : Tr) : Tr := .mk 54 0 s [u, t, w]
def stkT (s : ByteArray) (t : Tr) : Tr := .mk 55 0 s [t]
theorem rr_mem {t : Tr} {x : ByteArray} : x ∈ rrT t ↔ x.data.toList ∈ readsT t := mem_nms.trans ((rrT_spec t).2 _)
theorem wr_mem {t : Tr} {x : ByteArray} : x ∈ wrT t ↔ x.data.toList ∈ writesT t := mem_nms.trans ((wrT_spec t).2 _)
theorem ne_data {x s : ByteArray} : x.data.toList ≠ s.data.toList ↔ x ≠ s := ⟨fun h e => h (by rw [e]), fun h e => h (ba_inj e)⟩
theorem loc_mem {s : ByteArray} {u t w : Tr} {x : ByteArray} : x ∈ rrT (locT s u t w) ↔ x ∈ rrT u ∨ (x ∈ rrT t ∧ x ≠ s) ∨ x ∈ rrT w := by
 rw [rr_mem, rr_mem, rr_mem, rr_mem, locT, readsT_mk]
 have h0 : usesN 54 = false := rfl
 have h1 : hidesN 54 0 = false := rfl
 have h2 : hidesN 54 1 = true := rfl
 have h3 : hidesN 54 2 = false := rfl
 simp only [h0, zft, if_false, zna, partsL, List.append_nil, List.mem_append, unionF_mem, h1, h2, h3, Nat.zero_add, Nat.reduceAdd, false_imp_iff, true_imp_iff, and_true, ne_data]
theorem stk_reads {s : ByteArray} {t : Tr} : s ∉ rrT (stkT s t) := by
 rw [rr_mem, stkT, readsT_mk]
 have h0 : usesN 55 = false := rfl
 have h1 : hidesN 55 0 = true := rfl
 simp only [h0, zft, if_false, zna, partsL, List.append_nil, unionF_mem, h1, true_imp_iff]
 exact fun h => h.2 rfl
theorem stk_writes {s : ByteArray} {t : Tr} : s ∉ wrT (stkT s t) := by
 rw [wr_mem, stkT, writesT_mk]
 have h1 : hidesN 55 0 = true := rfl
 have h2 : updN 55 = false := rfl
 have h3 : bodN 55 = true := rfl
 simp only [h2, h3, Int.reduceBEq, Bool.or_false, zft, if_false, if_true, partsL, List.append_nil, unionF_mem, h1, true_imp_iff]
 exact fun h => h.2 rfl
def others (s : ByteArray) (l : List ByteArray) : List ByteArray := l.filter fun x => !(x.toList == s.toList)
theorem others_y {s : ByteArray} {l : List ByteArray} {i : Nat} (h : i < l.length) (hq : (!(l[i].toList == s.toList)) = true) (A : List ByteArray) : addS (addL A (others s (l.take i))) l[i] = addL A (others s (l.take (i + 1))) := by
 unfold addL others
 rw [List.take_succ_eq_append_getElem h, List.filter_append, List.foldl_append]
 simp only [List.filter_cons, hq, if_true, List.filter_nil]
 rfl
theorem others_n {s : ByteArray} {l : List ByteArray} {i : Nat} (h : i < l.length) (hq : (!(l[i].toList == s.toList)) = false) : others s (l.take (i + 1)) = others s (l.take i) := by
 unfold others
 rw [List.take_succ_eq_append_getElem h, List.filter_append]
 simp only [List.filter_cons, hq, zft, if_false, List.filter_nil, List.append_nil]
theorem others_mem {s : ByteArray} {l : List ByteArray} {x : ByteArray} : x ∈ others s l ↔ x ∈ l ∧ x ≠ s := by
 unfold others
 rw [List.mem_filter]
 refine and_congr Iff.rfl ?_
 constructor
 ·intro h e; subst e; simp at h
 ·intro h
  cases q : (x.toList == s.toList)
  ·rfl
  ·exact absurd (ba_inj (beq_iff.1 q)) h
def two (u w : Tr) : List (List ByteArray) := [rrT u, rrT w]
def outerL (s : ByteArray) (u t w : Tr) : List ByteArray := addL (addL [] ((two u w).flatten)) (others s (rrT t))
theorem outer_mem {s : ByteArray} {u t w : Tr} {x : ByteArray} : x ∈ outerL s u t w ↔ x ∈ rrT (locT s u t w) := by
 unfold outerL two
 rw [addL_mem, addL_mem, others_mem, loc_mem]
 simp only [List.not_mem_nil, false_or, List.flatten_cons, List.flatten_nil, List.append_nil, List.mem_append]
 constructor
 ·rintro ((h | h) | h)
  ·exact .inl h
  ·exact .inr (.inr h)
  ·exact .inr (.inl h)
 ·rintro (h | h | h)
  ·exact .inl (.inl h)
  ·exact .inr h
  ·exact .inl (.inr h)
theorem outer_len (s : ByteArray) (u t w : Tr) : (rrT (locT s u t w)).length = (outerL s u t w).length :=
 ((List.perm_ext_iff_of_nodup (asc_nodup (rrT_spec _).1) (addL_nodup _ _ (addL_nodup _ _ List.nodup_nil))).2 fun _x => outer_mem.symm).length_eq
/-- a call on a tree that the caller has just built -/
theorem call_d {E : Env} {k : Nat} {d r : D} {t : Tr} (h : fn E k [dN t] = some r) (hs : d.strip = dN t) (hp : plain [d] = true) : fn E k [d] = some r := by
 rw [← h]
 exact fn_strip hp (by simp only [plain, List.all_cons, List.all_nil, dN_under, dN_good, Bool.and_true]) (by simp only [zmc, zmn, hs, dN_strip])
end Go.Proofs.Ytkkhjpkkjpcbmaa
