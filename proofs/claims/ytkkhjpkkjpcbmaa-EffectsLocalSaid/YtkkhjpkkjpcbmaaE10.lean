/- Maps that are sets of names. -/
import Derived.Test.YtkkhjpkkjpcbmaaE9
namespace Go.Proofs.Ytkkhjpkkjpcbmaa
open Go.RowKit


instance lawful_ba : LawfulBEq ByteArray := { eq_of_beq := fun h => ba_eq.1 h, rfl := ba_eq.2 rfl }
/-- a set of names as a map's box holds it -/
def sD (A : List ByteArray) : List D := A.flatMap fun s => [.str s, .bool true]
theorem sD_cons (s : ByteArray) (A : List ByteArray) : sD (s :: A) = .str s :: .bool true :: sD A := rfl
theorem sD_len (A : List ByteArray) : (sD A).length = 2 * A.length := by
 induction A with
 | nil => rfl
 | cons v l ih => rw [sD_cons]; simp only [zlc, ih]; omega
theorem s_find (s : ByteArray) (A : List ByteArray) : mfind .string (.str s) (sD A) = some (if s ∈ A then some (.bool true) else none) := by
 induction A with
 | nil => rfl
 | cons v l ih =>
  rw [sD_cons]
  by_cases h : s = v
  ·simp [mfind, sameK, h]
  ·simp only [mfind, sameK, h, decide_false, List.mem_cons, false_or]; exact ih
def addS (A : List ByteArray) (s : ByteArray) : List ByteArray := if s ∈ A then A else A ++ [s]
theorem s_put (s : ByteArray) (A : List ByteArray) : mput .string (.str s) (.bool true) (sD A) = some (sD (addS A s)) := by
 induction A with
 | nil => rfl
 | cons u l ih =>
  rw [sD_cons]
  by_cases h : s = u
  ·subst h
   simp only [mput, sameK, decide_true, addS, List.mem_cons, true_or, if_true]
   rfl
  ·have hd : decide (s = u) = false := decide_eq_false h
   simp only [mput, sameK, hd, ih, zmo]
   have : addS (u :: l) s = u :: addS l s := by
    unfold addS
    by_cases hm : s ∈ l
    ·rw [if_pos hm, if_pos (List.mem_cons_of_mem _ hm)]
    ·rw [if_neg hm, if_neg (by simp [h, hm])]; rfl
   rw [this, sD_cons]
theorem addS_mem {A : List ByteArray} {s x : ByteArray} : x ∈ addS A s ↔ x ∈ A ∨ x = s := by
 unfold addS
 split
 ·rename_i h
  exact ⟨.inl, fun q => q.elim id (fun e => e ▸ h)⟩
 ·simp
theorem addS_len (A : List ByteArray) (s : ByteArray) : (addS A s).length ≤ A.length + 1 := by
 unfold addS; split <;> simp
theorem addS_nodup {A : List ByteArray} (h : A.Nodup) (s : ByteArray) : (addS A s).Nodup := by
 unfold addS
 split
 ·exact h
 ·rename_i hs
  exact List.nodup_append.2 ⟨h, List.nodup_cons.2 ⟨by simp, List.nodup_nil⟩, fun a ha b hb e => by simp only [List.mem_singleton] at hb; subst hb; subst e; exact hs ha⟩
theorem und_msb : Try.prog.underlying 31 = some (.map 9 4) := by kernel_rfl
theorem ty_msb : tyOf Try.prog 31 = some { sz := 1, agg := false, flds := [], elem := none, zero := some [.nmap], bytes := 8 } := by kernel_rfl
theorem und_str0 : Try.prog.underlying 9 = some .string := by kernel_rfl
theorem zer_bool : ((Try.prog.info? 4).bind (·.zero)).bind ofValue = some (.bool false) := by kernel_rfl
theorem look_s (i : Nat) (A : List ByteArray) (s : ByteArray) (bx : Nat → Option (List D)) (h : bx i = some (sD A)) : alook Try.prog bx 31 (.mref i) (.str s) false = some (.bool (decide (s ∈ A))) := by
 unfold alook
 simp only [und_msb, und_str0, keyOk, if_true, mcont, h, s_find]
 by_cases hs : s ∈ A
 ·rw [if_pos hs, decide_eq_true hs]; rfl
 ·rw [if_neg hs, decide_eq_false hs]
  simp only [zft, if_false, zer_bool]
theorem look_yes {i : Nat} {A : List ByteArray} {s : ByteArray} (hs : s ∈ A) (bx : Nat → Option (List D)) (h : bx i = some (sD A)) : alook Try.prog bx 31 (.mref i) (.str s) false = some (.bool true) := by
 rw [look_s i A s bx h, decide_eq_true hs]
theorem set_s (i : Nat) (A : List ByteArray) (s : ByteArray) (hl : A.length ≤ 1000000) (σ : St) (h : σ.bx[i]? = some (sD A)) : amset Try.prog σ 31 (.mref i) (.str s) (.bool true) = some { σ with bx := σ.bx.set i (sD (addS A s)) } := by
 have hl2 : (sD A).length ≤ 16777216 := by rw [sD_len]; omega
 unfold amset
 simp only [und_msb, und_str0, keyOk, h, s_put]
 rw [if_pos ⟨trivial, rfl, rfl⟩, if_pos hl2]; rfl
theorem mem_nms {A : List ByteArray} {s : ByteArray} : s ∈ A ↔ s.data.toList ∈ nms A := ⟨fun h => List.mem_map.2 ⟨s, h, rfl⟩, fun h => by
 obtain ⟨a, ha, e⟩ := List.mem_map.1 h
 rw [← ba_inj e]; exact ha⟩
theorem asc_at {A : List ByteArray} (h : Asc (nms A)) {i : Nat} (h0 : 0 < i) (hi : i < A.length) : Op.bytesLess A[i - 1].toList A[i].toList = true := by
 have h1 := List.pairwise_iff_getElem.1 h (i - 1) i (by simp [nms]; omega) (by simp [nms]; omega) (by omega)
 simp only [nms, List.getElem_map] at h1
 exact ltB_iff.2 h1
theorem own_name {t : Tr} (h : isPl t = true) : nmOf t ∈ readsT t := by
 cases t with
 | mk k n s c =>
  have hu : usesN k = true := by
   simp only [isPl, Tr.kind, Bool.or_eq_true, beq_iff_eq] at h
   rcases h with rfl | rfl <;> rfl
  rw [readsT_mk, if_pos hu]
  exact List.mem_append_left _ (by simp [nmOf, Tr.name])
mutual
/-- what is written is read -/
theorem writes_reads : ∀ (t : Tr) (x : Nm), x ∈ writesT t → x ∈ readsT t
 | .mk k n s c, x, h => by
  rw [writesT_mk] at h
  rw [readsT_mk, List.mem_append]
  have key : ∀ m : Int, (∀ i, hidesN k i = false) → x ∈ partsL (placeF m) 0 c → x ∈ partsL (unionF readsT k s.data.toList) 0 c := fun m hh q => by
   obtain ⟨j, hj, q⟩ := partsL_mem.1 q
   obtain ⟨_, hp, rfl⟩ := placeF_mem.1 q
   refine partsL_mem.2 ⟨j, hj, unionF_mem.2 ⟨own_name hp, fun e => ?_⟩⟩
   rw [hh] at e; cases e
  have hno : ¬ k = 54 → ¬ k = 55 → ∀ i, hidesN k i = false := fun h1 h2 i => by simp [hidesN, h1, h2]
  by_cases h1 : updN k = true
  ·rw [if_pos h1] at h
   exact .inr (key _ (hno (fun e => by subst e; cases h1) (fun e => by subst e; cases h1)) h)
  ·rw [if_neg h1] at h
   by_cases h2 : (k == 43) = true
   ·rw [if_pos h2] at h
    exact .inr (key _ (hno (fun e => by subst e; cases h2) (fun e => by subst e; cases h2)) h)
   ·rw [if_neg h2] at h
    by_cases h3 : (k == 44 || k == 45) = true
    ·rw [if_pos h3, List.mem_append] at h
     have hu : usesN k = true := by
      simp only [Bool.or_eq_true, beq_iff_eq] at h3
      rcases h3 with rfl | rfl <;> rfl
     rcases h with h | h
     ·rw [if_pos hu]; exact .inl h
     ·exact .inr (key _ (hno (fun e => by subst e; cases h3) (fun e => by subst e; cases h3)) h)
    ·rw [if_neg h3] at h
     by_cases h4 : (k == 50 || k == 51) = true
     ·rw [if_pos h4] at h
      exact .inr (key _ (hno (fun e => by subst e; cases h4) (fun e => by subst e; cases h4)) h)
     ·rw [if_neg h4] at h
      by_cases h5 : bodN k = true
      ·rw [if_pos h5] at h
       exact .inr (writesK_reads k s.data.toList c 0 x h)
      ·rw [if_neg h5] at h; cases h
theorem writesK_reads (k : Int) (s : Nm) : ∀ (c : List Tr) (i : Nat) (x : Nm), x ∈ partsL (unionF writesT k s) i c → x ∈ partsL (unionF readsT k s) i c
 | [], _, x, h => by cases h
 | t :: r, i, x, h => by
  rw [partsL, List.mem_append] at h ⊢
  rcases h with h | h
  ·obtain ⟨h1, h2⟩ := unionF_mem.1 h
   exact .inl (unionF_mem.2 ⟨writes_reads t x h1, h2⟩)
  ·exact .inr (writesK_reads k s r (i + 1) x h)
end
theorem wr_in_rr {t : Tr} {x : ByteArray} (h : x ∈ wrT t) : x ∈ rrT t := mem_nms.2 (((rrT_spec t).2 _).2 (writes_reads t _ (((wrT_spec t).2 _).1 (mem_nms.1 h))))
mutual
/-- what is read is a name in the tree -/
theorem reads_walk : ∀ (t : Tr) (p : List Int) (x : Nm), x ∈ readsT t → ∃ y ∈ walkL p t, nmOf y.2 = x
 | .mk k n s c, p, x, h => by
  rw [readsT_mk, List.mem_append] at h
  simp only [walkL]
  rcases h with h | h
  ·split at h
   ·simp only [List.mem_singleton] at h
    exact ⟨_, List.mem_cons_self, by rw [h]; rfl⟩
   ·cases h
  ·obtain ⟨y, hy, e⟩ := readsK_walk k s.data.toList c 0 p 0 x h
   exact ⟨y, List.mem_cons_of_mem _ hy, e⟩
theorem readsK_walk (k : Int) (s : Nm) : ∀ (c : List Tr) (i : Nat) (p : List Int) (q : Nat) (x : Nm), x ∈ partsL (unionF readsT k s) i c → ∃ y ∈ walksL p q c, nmOf y.2 = x
 | [], _, _, _, x, h => by cases h
 | t :: r, i, p, q, x, h => by
  rw [partsL, List.mem_append] at h
  simp only [walksL]
  rcases h with h | h
  ·obtain ⟨y, hy, e⟩ := reads_walk t _ x (unionF_mem.1 h).1
   exact ⟨y, List.mem_append_left _ hy, e⟩
  ·obtain ⟨y, hy, e⟩ := readsK_walk k s r (i + 1) p (q + 1) x h
   exact ⟨y, List.mem_append_right _ hy, e⟩
end
def addAll (A : List ByteArray) (l : List (List Int × Tr)) : List ByteArray := l.foldl (fun A y => addS A y.2.name) A
theorem addAll_mem : ∀ (l : List (List Int × Tr)) (A : List ByteArray) (x : ByteArray), x ∈ addAll A l ↔ x ∈ A ∨ ∃ y ∈ l, y.2.name = x
 | [], A, x => by simp [addAll]
 | y :: r, A, x => by
  show x ∈ addAll (addS A y.2.name) r ↔ _
  rw [addAll_mem r, addS_mem, or_assoc]
  refine or_congr Iff.rfl ?_
  simp only [List.mem_cons, exists_eq_or_imp]
  exact or_congr eq_comm Iff.rfl
mutual
theorem walkL_len : ∀ (t : Tr) (p : List Int), (walkL p t).length = t.size
 | .mk k n s c, p => by
  have := walksL_len c p 0
  simp only [walkL, zlc, Tr.size]; omega
theorem walksL_len : ∀ (c : List Tr) (p : List Int) (i : Nat), (walksL p i c).length = Tr.sizes c
 | [], _, _ => rfl
 | t :: r, p, i => by simp only [walksL, zla, walkL_len t, walksL_len r, Tr.sizes]
end
theorem rr_in_walk {t : Tr} {x : ByteArray} (h : x ∈ rrT t) : x ∈ addAll [] (walkL [] t) := by
 rw [addAll_mem]
 obtain ⟨y, hy, e⟩ := reads_walk t [] _ (((rrT_spec t).2 _).1 (mem_nms.1 h))
 exact .inr ⟨y, hy, ba_inj e⟩
theorem sub1 {i : Nat} (h : 0 < i) (h' : i ≤ 1000000) : IntKind.i64.wrap ((i : Int) - 1) = ((i - 1 : Nat) : Int) := by
 simp only [IntKind.wrap, IntKind.bits, IntKind.signed]; simp; omega
set_option maxRecDepth 100000 in
set_option maxHeartbeats 4000000 in
theorem in_fn (l : List ByteArray) (z : ByteArray) (hl : l.length ≤ 1000000) : fn EV 22 [sl 1 (l.map dS), .str z] = some (.bool (decide (z ∈ l))) := by
 refine fn_X rfl Try.func22 rfl (by simp only [plain, List.all_cons, List.all_nil, sl_under (map_under (dS_under 0) l), sl_gd, D.under, gd_str, Bool.and_self]) (rfl) (rfl) (rfl) ?_
 simp only [zmc, zmn, D.strip, sl_strip (map_strip dS_strip l)]
 simp only [enterSt, Try.ntmps22, zlc, zln, Nat.reduceAdd, Nat.reduceSub, zr1, zr0, zca, zna]
 refine X_seq ?_
 refine X_rg fun R hR => ?_
 simp only [aops, astep, awant, aeff, aop, ev, ofValue, St.put, zgd, zmo, if_true, zs1, zs0, sl]
 with_reducible refine hR _ ?_
 clear hR R
 show X _ _ _ _
 refine X_seq ?_
 refine X_seq ?_
 refine X_rg fun R hR => ?_
 simp only [EVP, inr_i64, Int.reduceLE, Int.reduceNeg, aops, astep, awant, aeff, aop, ev, ofValue, St.put, zg1, zg0, zgd, zmo, if_true, zs1, zs0, zlm, and_self, und_string]
 with_reducible refine hR _ ?_
 clear hR R
 show X _ _ _ _
 refine X_block ?_
 refine X_loop (fun m σ => ∃ (i : Nat), σ = ⟨[slotOf σ 0, .str z, slotOf σ 2, slotOf σ 3, slotOf σ 4, slotOf σ 5, slotOf σ 6, .slice .imm (if (l.map dS).isEmpty = true then 0 else 1) (l.map dS), .int .i64 l.length, .int .i64 i, slotOf σ 10, slotOf σ 11, slotOf σ 12, slotOf σ 13, slotOf σ 14, slotOf σ 15, slotOf σ 16], [], 0, []⟩ ∧ m = l.length - i ∧ i ≤ l.length ∧ Hid (decide (z ∈ l) = decide (z ∈ l.drop i))) ?_ (l.length) _ ?_
 rotate_left
 ·exact ⟨0, rfl, rfl, Nat.zero_le _, Lib.hid rfl⟩
 rintro m σ ⟨i, hσ, rfl, hi, hf⟩
 generalize slotOf σ = x at hσ
 subst hσ
 refine X_seq ?_
 refine X_rg fun R hR => ?_
 simp only [nat_lt, aops, astep, awant, aeff, aop, abin, aint, ev, St.put, zg1, zg0, zgd, zmo, if_true, zs1, zs0]
 with_reducible refine hR _ ?_
 clear hR R
 show X _ _ _ _
 refine X_seq ?_
 refine X_ite (by simp only [ev, zg1, zg0, zgd]; exact rfl) ?_ ?_
 ·intro b1
  have c1 := b1
  try simp only [decide_eq_true_eq] at c1
  refine X_skip ?_
  show X _ _ _ _
  refine X_seq ?_
  refine X_block ?_
  refine X_seq ?_
  have hlt : i < l.length := by first | assumption | omega | simp_all
  have hn1 := idx_n (f := dS) (n := 1) hlt
  have e1 : (l.map dS)[i]? = some (.str l[i]) := by rw [List.getElem?_map, List.getElem?_eq_getElem hlt]; rfl
  refine X_rg fun R hR => ?_
  simp only [EVP, nat_lt, nat_0, nat_to, aops, astep, awant, aeff, aop, ev, St.put, ia_str, cl_str, zg1, zg0, zgd, zmo, if_true, zs1, zs0, zlm, zlc, zln, Nat.zero_add, and_self, decide_true, zis, ty_string, und_string, siz_string, inf_string_eq, hlt, hn1, e1]
  with_reducible refine hR _ ?_
  clear hR R
  show X _ _ _ _
  refine X_seq ?_
  refine X_rg fun R hR => ?_
  simp only [aops, astep, awant, aeff, aop, abin, astr, ev, St.put, zg1, zg0, zgd, zmo, if_true, zs1, zs0]
  with_reducible refine hR _ ?_
  clear hR R
  show X _ _ _ _
  refine X_ite (by simp only [ev, zg1, zg0, zgd]; exact rfl) ?_ ?_
  ·intro b2
   have c2 := b2
   try simp only [beq_iff_eq] at c2
   refine X_seq ?_
   refine X_rg fun R hR => ?_
   simp only [aops, astep, awant, aeff, aop, ev, ofValue, St.put, zgd, zmo, if_true, zs1, zs0, b2]
   with_reducible refine hR _ ?_
   clear hR R
   show X _ _ _ _
   refine X_ret ?_
   show resD _ _ _ = some _
   simp only [resD, resAll, resOne, resTup, Try.results22, EVP, zg1, zg0, D.good, if_true, zmo]
   have hq : (l[i].toList == z.toList) = true := by first | assumption | simp_all
   have he : z ∈ l := by rw [← ba_inj (beq_iff.1 hq)]; exact List.getElem_mem hlt
   rw [decide_eq_true he]
  ·intro b3
   have c3 := b3
   try simp only [ne_eq, beq_eq_false_iff_ne] at c3
   refine X_skip ?_
   show X _ _ _ _
   have hbig : i < 9223372036854775807 := by omega
   refine X_rg fun R hR => ?_
   simp only [inr_i64, Int.reduceLE, Int.reduceNeg, aops, astep, awant, aeff, aop, abin, aint, ev, ofValue, St.put, zg1, zg0, zgd, zmo, if_true, zs1, zs0, and_self, b3, nat_succ hbig]
   with_reducible refine hR _ ?_
   clear hR R
   show ∃ m, m < _ ∧ _
   have he : ¬ z = l[i] := fun e => by
    have hq : (l[i].toList == z.toList) = false := by first | assumption | simp_all
    rw [e] at hq
    simp at hq
   exact ⟨l.length - (i + 1), by omega, i + 1, rfl, rfl, by omega, Lib.hid (hf.out.trans (decide_eq_decide.2 (by rw [List.drop_eq_getElem_cons hlt, List.mem_cons]; exact ⟨fun q => q.resolve_left he, .inr⟩)))⟩
 ·intro b4
  have c4 := b4
  try simp only [decide_eq_false_iff_not] at c4
  refine X_exit ?_
  show X _ _ _ _
  refine X_seq ?_
  refine X_rg fun R hR => ?_
  simp only [aops, astep, awant, aeff, aop, ev, ofValue, St.put, zgd, zmo, if_true, zs1, zs0, b4]
  with_reducible refine hR _ ?_
  clear hR R
  show X _ _ _ _
  refine X_ret ?_
  show resD _ _ _ = some _
  simp only [resD, resAll, resOne, resTup, Try.results22, EVP, zg1, zg0, D.good, if_true, zmo]
  rw [hf.out, List.drop_of_length_le (by first | omega | (simp_all; done))]; rfl

end Go.Proofs.Ytkkhjpkkjpcbmaa
