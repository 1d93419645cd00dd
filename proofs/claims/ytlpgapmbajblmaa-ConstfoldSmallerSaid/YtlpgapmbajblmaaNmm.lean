/- Counts of names. -/
import Derived.Test.YtlpgapmbajblmaaPq3
import Derived.Test.YtlpgapmbajblmaaQ8g
namespace Go.Proofs.Ytlpgapmbajblmaa
open Go.RowKit


instance lawful_ba : LawfulBEq ByteArray := { eq_of_beq := fun h => ba_eq.1 h, rfl := ba_eq.2 rfl }
theorem esz : (if (ByteArray.mk #[]).size ≤ 9223372036854775807 then some (D.str (ByteArray.mk #[])) else none) = some (D.str (ByteArray.mk #[])) := if_pos (by simp [ByteArray.size])
/-- counts of names as a map's box holds them -/
def nD (M : List (ByteArray × Int)) : List D := M.flatMap fun x => [.str x.1, .int .i64 x.2]
def cntM : List (ByteArray × Int) → ByteArray → Int
 | [], _ => 0
 | x :: r, s => if s = x.1 then x.2 else cntM r s
def putM : List (ByteArray × Int) → ByteArray → Int → List (ByteArray × Int)
 | [], s, v => [(s, v)]
 | x :: r, s, v => if s = x.1 then (x.1, v) :: r else x :: putM r s v
theorem nD_cons (x : ByteArray × Int) (M : List (ByteArray × Int)) : nD (x :: M) = .str x.1 :: .int .i64 x.2 :: nD M := rfl
theorem nD_len (M : List (ByteArray × Int)) : (nD M).length = 2 * M.length := by
 induction M with
 | nil => rfl
 | cons v l ih => rw [nD_cons]; simp only [zlc, ih]; omega
theorem nD_under (m : Nat) (M : List (ByteArray × Int)) : D.unders m (nD M) = true := by
 induction M with
 | nil => rfl
 | cons v l ih => rw [nD_cons]; simp only [D.unders, D.under, ih, Bool.and_true]
theorem nD_agg (M : List (ByteArray × Int)) : ∀ d ∈ nD M, d.isAgg = false := fun d hd => by
 obtain ⟨x, _, hx⟩ := List.mem_flatMap.1 hd
 simp only [List.mem_cons, List.not_mem_nil, or_false] at hx
 rcases hx with rfl | rfl <;> rfl
theorem nD_at : ∀ (M : List (ByteArray × Int)) (j : Nat) (hj : 2 * j + 1 < (nD M).length), ∃ x ∈ M, (nD M)[2 * j] = .str x.1 ∧ (nD M)[2 * j + 1] = .int .i64 x.2
 | [], j, hj => absurd hj (Nat.not_lt_zero _)
 | x :: r, 0, _ => ⟨x, List.mem_cons_self, rfl, rfl⟩
 | x :: r, j + 1, hj => by
  have hj' : 2 * j + 1 < (nD r).length := by rw [nD_len] at hj ⊢; simp only [zlc] at hj; omega
  obtain ⟨y, hy, e1, e2⟩ := nD_at r j hj'
  exact ⟨y, List.mem_cons_of_mem _ hy, e1, e2⟩
theorem cnt_none {M : List (ByteArray × Int)} {s : ByteArray} (h : s ∉ M.map (·.1)) : cntM M s = 0 := by
 induction M with
 | nil => rfl
 | cons x r ih =>
  simp only [zmc, List.mem_cons, not_or] at h
  unfold cntM
  rw [if_neg h.1, ih h.2]
theorem m_find (s : ByteArray) (M : List (ByteArray × Int)) : mfind .string (.str s) (nD M) = some (if s ∈ M.map (·.1) then some (.int .i64 (cntM M s)) else none) := by
 induction M with
 | nil => rfl
 | cons x r ih =>
  rw [nD_cons]
  by_cases h : s = x.1
  ·simp [mfind, sameK, h, cntM]
  ·simp only [mfind, sameK, h, decide_false, zmc, List.mem_cons, false_or, cntM, if_false]; exact ih
theorem m_put (s : ByteArray) (v : Int) (M : List (ByteArray × Int)) : mput .string (.str s) (.int .i64 v) (nD M) = some (nD (putM M s v)) := by
 induction M with
 | nil => rfl
 | cons x r ih =>
  rw [nD_cons]
  by_cases h : s = x.1
  ·simp only [mput, sameK, h, decide_true, putM, if_true]; rfl
  ·simp only [mput, sameK, h, decide_false, ih, zmo, putM, if_false]; rfl
theorem putM_keys {M : List (ByteArray × Int)} {s x : ByteArray} {v : Int} : x ∈ (putM M s v).map (·.1) ↔ x ∈ M.map (·.1) ∨ x = s := by
 induction M with
 | nil => simp [putM]
 | cons y r ih =>
  unfold putM
  split
  ·rename_i h
   simp only [zmc, List.mem_cons]
   constructor
   ·exact .inl
   ·rintro (q | rfl)
    ·exact q
    ·exact .inl h
  ·simp only [zmc, List.mem_cons, ih, or_assoc]
theorem putM_nodup {M : List (ByteArray × Int)} {s : ByteArray} {v : Int} (h : (M.map (·.1)).Nodup) : ((putM M s v).map (·.1)).Nodup := by
 induction M with
 | nil => simp [putM]
 | cons y r ih =>
  simp only [zmc, List.nodup_cons] at h
  unfold putM
  split
  ·simp only [zmc, List.nodup_cons]; exact h
  ·rename_i hne
   simp only [zmc, List.nodup_cons]
   refine ⟨fun q => ?_, ih h.2⟩
   rcases putM_keys.1 q with q | q
   ·exact h.1 q
   ·exact hne q.symm
theorem putM_len (M : List (ByteArray × Int)) (s : ByteArray) (v : Int) : (putM M s v).length ≤ M.length + 1 := by
 induction M with
 | nil => simp [putM]
 | cons y r ih =>
  unfold putM
  split
  ·simp
  ·simp only [zlc]; omega
theorem cnt_mem {M : List (ByteArray × Int)} (h : (M.map (·.1)).Nodup) {x : ByteArray × Int} (hx : x ∈ M) : cntM M x.1 = x.2 := by
 induction M with
 | nil => simp at hx
 | cons y r ih =>
  simp only [zmc, List.nodup_cons] at h
  unfold cntM
  rcases List.mem_cons.1 hx with rfl | hx
  ·rw [if_pos rfl]
  ·rw [if_neg (fun e => h.1 (List.mem_map.2 ⟨x, hx, e⟩)), ih h.2 hx]
def stepM (M : List (ByteArray × Int)) (s : ByteArray) : List (ByteArray × Int) := putM M s (IntKind.i64.wrap (cntM M s + 1))
def visN (M : List (ByteArray × Int)) (l : List ByteArray) : List (ByteArray × Int) := l.foldl stepM M
theorem visN_app (M : List (ByteArray × Int)) (l m : List ByteArray) : visN M (l ++ m) = visN (visN M l) m := by simp only [visN, List.foldl_append]
theorem visN_len : ∀ (l : List ByteArray) (M : List (ByteArray × Int)), (visN M l).length ≤ M.length + l.length
 | [], M => by simp [visN]
 | s :: r, M => by
  have h1 := visN_len r (stepM M s)
  have h2 : (stepM M s).length ≤ M.length + 1 := putM_len M s (IntKind.i64.wrap (cntM M s + 1))
  simp only [visN, List.foldl_cons, zlc] at h1 ⊢
  omega
theorem visN_nodup : ∀ (l : List ByteArray) {M : List (ByteArray × Int)}, (M.map (·.1)).Nodup → ((visN M l).map (·.1)).Nodup
 | [], _, h => h
 | _ :: r, _, h => visN_nodup r (putM_nodup h)
mutual
theorem nmT_len : ∀ t : Tr, (nmT t).length ≤ t.size
 | .mk k n s c => by
  have := nmL_len c
  have h2 : (if neB s = true then [s] else []).length ≤ 1 := by split <;> simp
  simp only [nmT, zla, Tr.size]; omega
theorem nmL_len : ∀ c : List Tr, (nmL c).length ≤ Tr.sizes c
 | [] => Nat.le_refl _
 | t :: r => by
  have h1 := nmT_len t
  have h2 := nmL_len r
  simp only [nmL, zla, Tr.sizes]; omega
end
theorem nmL_step {c : List Tr} {i : Nat} (h : i < c.length) : nmL (c.drop i) = nmT c[i] ++ nmL (c.drop (i + 1)) := by
 rw [List.drop_eq_getElem_cons h]; simp only [nmL]
theorem sizes_kids2 (t : Tr) : t.size = 1 + Tr.sizes t.kids := by cases t; simp only [Tr.size, Tr.kids]; omega
theorem sizes_drop2 (c : List Tr) (i : Nat) (h : i < c.length) : Tr.sizes (c.drop i) = c[i].size + Tr.sizes (c.drop (i + 1)) := by
 rw [List.drop_eq_getElem_cons h]; simp only [Tr.sizes]
def UnB (B : List (List D)) : Prop := B.all (D.unders B.length) = true
theorem unB_set {B : List (List D)} (h : UnB B) (b : Nat) (A : List (ByteArray × Int)) : UnB (B.set b (nD A)) := by
 unfold UnB at h ⊢
 rw [List.all_eq_true] at h ⊢
 intro x hx
 rw [List.length_set]
 rcases List.mem_or_eq_of_mem_set hx with q | q
 ·exact h x q
 ·rw [q]; exact nD_under _ A
theorem unB_app {B Y : List (List D)} (h : UnB B) (hY : Free Y) : UnB (B ++ Y) := by
 unfold UnB at h ⊢
 rw [List.all_eq_true] at h ⊢
 intro x hx
 rcases List.mem_append.1 hx with q | q
 ·exact D.unders_le (by simp) x (h x q)
 ·exact hY x q _
def Bx (B0 : List (List D)) (b : Nat) (A : List (ByteArray × Int)) (Y B : List (List D)) : Prop := B = B0.set b (nD A) ++ Y ∧ Free Y
section
variable {B0 Y B : List (List D)} {b : Nat} {A : List (ByteArray × Int)}
theorem Bx.len (h : Bx B0 b A Y B) : B.length = B0.length + Y.length := by rw [h.1]; simp
theorem Bx.get (h : Bx B0 b A Y B) (j : Nat) : B[B0.length + j]? = Y[j]? := by
 rw [h.1, List.getElem?_append_right (by simp)]; congr 1; simp
theorem Bx.snoc (h : Bx B0 b A Y B) {X : List (List D)} (hX : Free X) : Bx B0 b A (Y ++ X) (B ++ X) := by
 refine ⟨by rw [h.1, zaa], fun c hc m => ?_⟩
 rcases List.mem_append.1 hc with q | q
 ·exact h.2 c q m
 ·exact hX c q m
theorem Bx.un (h : Bx B0 b A Y B) (h0 : UnB B0) : UnB B := by
 rw [h.1]; exact unB_app (unB_set h0 b A) h.2
theorem Bx.inf (h : Bx B0 b A Y B) (hl : b < B0.length) : B[b]? = some (nD A) := by
 rw [h.1, List.getElem?_append_left (by simpa using hl), List.getElem?_set_self (by simpa using hl)]
theorem Bx.set (h : Bx B0 b A Y B) (hl : b < B0.length) (A' : List (ByteArray × Int)) : Bx B0 b A' Y (B.set b (nD A')) := by
 refine ⟨?_, h.2⟩
 rw [h.1, List.set_append_left _ _ (by simpa using hl), List.set_set]
theorem Bx.cut (h : Bx B0 b A Y B) : B.take B0.length = B0.set b (nD A) := by
 rw [h.1, List.take_append_of_le_length (by simp), List.take_of_length_le (by simp)]
theorem Bx.start (h : B0[b]? = some (nD A)) : Bx B0 b A [] B0 := by
 obtain ⟨hb, e⟩ := List.getElem?_eq_some_iff.1 h
 refine ⟨?_, fun c hc => by simp at hc⟩
 rw [← e, List.set_getElem_self hb, List.append_nil]
end
theorem freeN (t : Tr) : Free [[.int .u8 t.kind, .int .i64 t.num, .str t.name, .slice .imm (if (t.kids.map dN).isEmpty = true then 0 else 4) (t.kids.map dN)]] := by
 intro c hc m
 rw [List.mem_singleton.1 hc]
 have h := dN_under m t
 rw [dN_eq] at h
 simpa only [D.under, sl] using h
theorem und_msi : Try.prog.underlying 54 = some (.map 9 3) := by kernel_rfl
theorem und_str0 : Try.prog.underlying 9 = some .string := by kernel_rfl
theorem zer_int : ((Try.prog.info? 3).bind (·.zero)).bind ofValue = some (.int .i64 0) := by kernel_rfl
theorem look_n (i : Nat) (M : List (ByteArray × Int)) (s : ByteArray) (bx : Nat → Option (List D)) (h : bx i = some (nD M)) : alook Try.prog bx 54 (.mref i) (.str s) false = some (.int .i64 (cntM M s)) := by
 unfold alook
 simp only [und_msi, und_str0, keyOk, if_true, mcont, h, m_find]
 by_cases hs : s ∈ M.map (·.1)
 ·rw [if_pos hs]; rfl
 ·rw [if_neg hs, cnt_none hs]
  simp only [zft, if_false, zer_int]
theorem set_n (i : Nat) (M : List (ByteArray × Int)) (s : ByteArray) (v : Int) (hl : M.length ≤ 1000000) (σ : St) (h : σ.bx[i]? = some (nD M)) : amset Try.prog σ 54 (.mref i) (.str s) (.int .i64 v) = some { σ with bx := σ.bx.set i (nD (putM M s v)) } := by
 have hl2 : (nD M).length ≤ 16777216 := by rw [nD_len]; omega
 unfold amset
 simp only [und_msi, und_str0, keyOk, h, m_put]
 rw [if_pos ⟨trivial, rfl, rfl⟩, if_pos hl2]; rfl
theorem idx_n2 {α : Type} {f : α → D} {l : List α} {i n : Nat} (h : i < l.length) : ((if (l.map f).isEmpty = true then 0 else n) = n) = True := eq_true (sl_n (j := i) (by simpa using h))
set_option maxRecDepth 100000 in
set_option maxHeartbeats 4000000 in
theorem names_cal : ∀ (N : Nat) (t : Tr), t.size ≤ N → ∀ (B : List (List D)) (nx : Nat) (lv : List Nat) (b : Nat) (M : List (ByteArray × Int)), B[b]? = some (nD M) → UnB B → M.length + t.size ≤ 1000000 →
  ∃ d B' nx' lv', (∀ fr, cal EVp 34 [dN t, .mref b] ⟨fr, B, nx, lv⟩ = some (d, ⟨fr, B', nx', lv'⟩)) ∧ d = .tup [] ∧ B' = B.set b (nD (visN M (nmT t))) := by
 intro N
 induction N with
 | zero => intro t h; cases t; simp only [Tr.size] at h; omega
 | succ N IH =>
 intro t hN B nx lv b M h2 hu hAl
 have ih := fun (c : Tr) (hc : c.size < t.size) => IH c (by omega)
 clear IH
 refine cal_XE (Φ := fun d B' _ _ => d = .tup [] ∧ B' = B.set b (nD (visN M (nmT t)))) rfl Try.func34 rfl (by simp [plain, D.under]) ?_
 simp only [enterSt, Try.ntmps34, zlc, zln, Nat.reduceAdd, Nat.reduceSub, zr1, zr0, zca, zna]
 refine X_seq ?_
 refine X_rg fun R hR => ?_
 simp only [aops, astep, awant, aeff, ev, St.put, zg0, zgd, zmo, if_true, zs1, zs0, dN_cells, dN_good, sl]
 with_reducible refine hR _ ?_
 clear hR R
 show X _ _ _ _
 refine X_seq ?_
 refine X_seq ?_
 have g1 : (B ++ [([.int .u8 t.kind, .int .i64 t.num, .str t.name, .slice .imm (if (t.kids.map dN).isEmpty = true then 0 else 4) (t.kids.map dN)] : List D)])[B.length]? = some [.int .u8 t.kind, .int .i64 t.num, .str t.name, .slice .imm (if (t.kids.map dN).isEmpty = true then 0 else 4) (t.kids.map dN)] := by simp
 have hbl : b < B.length := (List.getElem?_eq_some_iff.1 h2).1
 refine X_rg fun R hR => ?_
 simp only [EVpP, aops, astep, awant, aeff, aop, abin, astr, mkD, ev, ofValue, St.put, ia_str, zg1, zg0, zgd, zmo, if_true, zs1, zs0, zlc, zln, zd1, zd0, zt1, zt0, Nat.reduceAdd, Nat.reduceLeDiff, Nat.zero_add, zft, if_false, reduceCtorEq, ty_string, ty_api_Node, esz, g1]
 with_reducible refine hR _ ?_
 clear hR R
 show X _ _ _ _
 refine X_ite (by simp only [ev, zg1, zg0, zgd]; exact rfl) ?_ ?_
 ·intro b1
  have c1 := b1
  try simp only [znt, ne_eq, beq_eq_false_iff_ne] at c1
  have g2 := snoc_get h2 [([.int .u8 t.kind, .int .i64 t.num, .str t.name, .slice .imm (if (t.kids.map dN).isEmpty = true then 0 else 4) (t.kids.map dN)] : List D)]
  have hlk := look_n b M t.name (fun j => (B ++ [([.int .u8 t.kind, .int .i64 t.num, .str t.name, .slice .imm (if (t.kids.map dN).isEmpty = true then 0 else 4) (t.kids.map dN)] : List D)])[j]?) g2
  have hsm := fun fr => set_n b M t.name (IntKind.i64.wrap (cntM M t.name + 1)) (by omega) ⟨fr, B ++ [[.int .u8 t.kind, .int .i64 t.num, .str t.name, .slice .imm (if (t.kids.map dN).isEmpty = true then 0 else 4) (t.kids.map dN)]], nx, lv⟩ g2
  refine X_rg fun R hR => ?_
  simp only [EVpP, inr_i64, Int.reduceLE, Int.reduceNeg, aops, astep, awant, aeff, aop, abin, aint, mkD, ev, ofValue, St.put, ia_str, zg1, zg0, zgd, zmo, if_true, zs1, zs0, zlc, zln, zd1, zd0, zt1, zt0, Nat.reduceAdd, Nat.reduceLeDiff, Nat.zero_add, zft, if_false, and_self, reduceCtorEq, ty_string, ty_api_Node, b1, g1, hlk, hsm]
  with_reducible refine hR _ ?_
  clear hR R
  show X _ _ _ _
  refine X_seq ?_
  refine X_rg fun R hR => ?_
  simp only [inr_i64, Int.reduceLE, Int.reduceNeg, aops, astep, awant, aeff, aop, ev, ofValue, St.put, zgd, zmo, if_true, zs1, zs0, and_self]
  with_reducible refine hR _ ?_
  clear hR R
  show X _ _ _ _
  refine X_block ?_
  refine X_loop (fun m σ => ∃ (i : Nat) (M2 : List (ByteArray × Int)) (B2 : List (List D)) (nx2 : Nat) (lv2 : List Nat), σ = ⟨[slotOf σ 0, .mref b, .ptr B.length 0, slotOf σ 3, .int .i64 i, slotOf σ 5, slotOf σ 6, slotOf σ 7, slotOf σ 8, slotOf σ 9, slotOf σ 10, slotOf σ 11, slotOf σ 12, slotOf σ 13, slotOf σ 14, slotOf σ 15, slotOf σ 16, slotOf σ 17, slotOf σ 18, slotOf σ 19, slotOf σ 20, slotOf σ 21, slotOf σ 22, slotOf σ 23, slotOf σ 24, slotOf σ 25, slotOf σ 26], B2, nx2, lv2⟩ ∧ m = t.kids.length - i ∧ i ≤ t.kids.length ∧ Hid (Bx B b M2 [[.int .u8 t.kind, .int .i64 t.num, .str t.name, .slice .imm (if (t.kids.map dN).isEmpty = true then 0 else 4) (t.kids.map dN)]] B2) ∧ Hid (visN M2 (nmL (t.kids.drop i)) = visN M (nmT t)) ∧ M2.length + Tr.sizes (t.kids.drop i) ≤ M.length + t.size) ?_ (t.kids.length) _ ?_
  rotate_left
  ·have hc : neB t.name = true := by first | (unfold neB; assumption) | (unfold neB; simp [b1]; done) | (unfold neB; simp_all; done)
   have hf1 := freeN t
   exact ⟨0, stepM M t.name, _, _, _, rfl, rfl, Nat.zero_le _, Lib.hid (((Bx.start h2).snoc hf1).set hbl _), Lib.hid (by rw [nmT_eq, if_pos hc]; rfl), by have := putM_len M t.name (IntKind.i64.wrap (cntM M t.name + 1)); rw [zd0, sizes_kids2 t]; unfold stepM; omega⟩
  rintro m σ ⟨i, M2, B2, nx2, lv2, hσ, rfl, hi, hB2, hM2, hL2⟩
  generalize slotOf σ = x at hσ
  subst hσ
  have g1 : B2[B.length]? = some [.int .u8 t.kind, .int .i64 t.num, .str t.name, .slice .imm (if (t.kids.map dN).isEmpty = true then 0 else 4) (t.kids.map dN)] := by have := hB2.out.get 0; simpa using this
  refine X_seq ?_
  refine X_seq ?_
  refine X_rg fun R hR => ?_
  simp only [EVpP, nat_lt, aops, astep, awant, aeff, aop, abin, aint, mkD, ev, St.put, ia_slice, zg1, zg0, zgd, zmo, if_true, zs1, zs0, zlm, zlc, zln, zd1, zd0, zt1, zt0, Nat.reduceAdd, Nat.reduceLeDiff, Nat.zero_add, zft, if_false, reduceCtorEq, ty_s_api_Node, ty_api_Node, und_api_Node, g1]
  with_reducible refine hR _ ?_
  clear hR R
  show X _ _ _ _
  refine X_ite (by simp only [ev, zg1, zg0, zgd]; exact rfl) ?_ ?_
  ·intro b2
   have c2 := b2
   try simp only [decide_eq_true_eq] at c2
   refine X_skip ?_
   show X _ _ _ _
   refine X_seq ?_
   refine X_block ?_
   have hlt : i < t.kids.length := by first | assumption | omega | simp_all
   have hn1 := idx_n2 (f := dN) (n := 4) hlt
   have e1 : (t.kids.map dN)[i]? = some (dN t.kids[i]) := by simp [hlt]
   have hsk : t.kids[i].size < t.size := by have h1 := sizes_kids2 t; have h2 := Tr.size_le_of_mem (List.getElem_mem hlt); omega
   have hsd := sizes_drop2 t.kids i hlt
   obtain ⟨_, B3, nx3, lv3, hc3, rfl, hB3⟩ := ih t.kids[i] hsk B2 nx2 lv2 b M2 (hB2.out.inf hbl) (hB2.out.un hu) (by omega)
   have hB4 := hB2.out.set hbl (visN M2 (nmT t.kids[i]))
   rw [← hB3] at hB4
   refine X_rc fun R hR => ?_
   simp only [EVpP, nat_lt, nat_0, nat_to, aops, astep, awant, aeff, aop, mkD, ev, St.put, ia_slice, zmc, zmn, zg1, zg0, zgd, zmo, if_true, zs1, zs0, zlm, zlc, zln, zd1, zd0, zt1, zt0, zca, zna, Nat.reduceAdd, Nat.reduceLeDiff, Nat.zero_add, zft, if_false, and_self, reduceCtorEq, decide_true, zis, ty_s_api_Node, ty_api_Node, und_api_Node, siz_api_Node, inf_api_Node_eq, any34, dN_cells, dN_isAgg, sl, g1, hlt, hn1, e1, hc3, any34]
   with_reducible refine hR _ ?_
   clear hR R
   show X _ _ _ _
   have hbig : i < 9223372036854775807 := by have h1 := Tr.length_le_sizes t.kids; have h2 := sizes_kids2 t; omega
   refine X_rg fun R hR => ?_
   simp only [inr_i64, Int.reduceLE, Int.reduceNeg, aops, astep, awant, aeff, aop, abin, aint, ev, ofValue, St.put, zg1, zg0, zgd, zmo, if_true, zs1, zs0, and_self, nat_succ hbig]
   with_reducible refine hR _ ?_
   clear hR R
   show ∃ m, m < _ ∧ _
   have hvl := visN_len (nmT t.kids[i]) M2
   have hcl := nmT_len t.kids[i]
   exact ⟨t.kids.length - (i + 1), by omega, i + 1, visN M2 (nmT t.kids[i]), B3, nx3, lv3, rfl, rfl, by omega, Lib.hid hB4, Lib.hid (by rw [← hM2.out, nmL_step hlt, visN_app]), by omega⟩
  ·intro b3
   have c3 := b3
   try simp only [decide_eq_false_iff_not] at c3
   refine X_exit ?_
   have hT : M2 = visN M (nmT t) := by rw [← hM2.out, List.drop_of_length_le (by first | omega | (simp_all; omega))]; rfl
   subst hT
   refine ⟨.inl rfl, .tup [], rfl, rfl, ?_, ?_, rfl, hB2.out.cut⟩
   ·show B.length ≤ B2.length; rw [hB2.out.len]; omega
   ·rw [hB2.out.cut]; have := unB_set hu b (visN M (nmT t)); unfold UnB at this; rwa [List.length_set] at this
 ·intro b4
  have c4 := b4
  try simp only [znf, beq_iff_eq] at c4
  refine X_skip ?_
  show X _ _ _ _
  refine X_seq ?_
  refine X_rg fun R hR => ?_
  simp only [inr_i64, Int.reduceLE, Int.reduceNeg, aops, astep, awant, aeff, aop, ev, ofValue, St.put, zgd, zmo, if_true, zs1, zs0, and_self, b4]
  with_reducible refine hR _ ?_
  clear hR R
  show X _ _ _ _
  refine X_block ?_
  refine X_loop (fun m σ => ∃ (i : Nat) (M2 : List (ByteArray × Int)) (B2 : List (List D)) (nx2 : Nat) (lv2 : List Nat), σ = ⟨[slotOf σ 0, .mref b, .ptr B.length 0, slotOf σ 3, .int .i64 i, slotOf σ 5, slotOf σ 6, slotOf σ 7, slotOf σ 8, slotOf σ 9, slotOf σ 10, slotOf σ 11, slotOf σ 12, slotOf σ 13, slotOf σ 14, slotOf σ 15, slotOf σ 16, slotOf σ 17, slotOf σ 18, slotOf σ 19, slotOf σ 20, slotOf σ 21, slotOf σ 22, slotOf σ 23, slotOf σ 24, slotOf σ 25, slotOf σ 26], B2, nx2, lv2⟩ ∧ m = t.kids.length - i ∧ i ≤ t.kids.length ∧ Hid (Bx B b M2 [[.int .u8 t.kind, .int .i64 t.num, .str t.name, .slice .imm (if (t.kids.map dN).isEmpty = true then 0 else 4) (t.kids.map dN)]] B2) ∧ Hid (visN M2 (nmL (t.kids.drop i)) = visN M (nmT t)) ∧ M2.length + Tr.sizes (t.kids.drop i) ≤ M.length + t.size) ?_ (t.kids.length) _ ?_
  rotate_left
  ·have hc : neB t.name = false := by first | (unfold neB; assumption) | (unfold neB; simp [b4]; done) | (unfold neB; simp_all; done)
   have hf1 := freeN t
   exact ⟨0, M, _, _, _, rfl, rfl, Nat.zero_le _, Lib.hid ((Bx.start h2).snoc hf1), Lib.hid (by rw [nmT_eq, if_neg (by rw [hc]; simp)]; rfl), by rw [zd0, sizes_kids2 t]; omega⟩
  rintro m σ ⟨i, M2, B2, nx2, lv2, hσ, rfl, hi, hB2, hM2, hL2⟩
  generalize slotOf σ = x at hσ
  subst hσ
  have g1 : B2[B.length]? = some [.int .u8 t.kind, .int .i64 t.num, .str t.name, .slice .imm (if (t.kids.map dN).isEmpty = true then 0 else 4) (t.kids.map dN)] := by have := hB2.out.get 0; simpa using this
  refine X_seq ?_
  refine X_seq ?_
  refine X_rg fun R hR => ?_
  simp only [EVpP, nat_lt, aops, astep, awant, aeff, aop, abin, aint, mkD, ev, St.put, ia_slice, zg1, zg0, zgd, zmo, if_true, zs1, zs0, zlm, zlc, zln, zd1, zd0, zt1, zt0, Nat.reduceAdd, Nat.reduceLeDiff, Nat.zero_add, zft, if_false, reduceCtorEq, ty_s_api_Node, ty_api_Node, und_api_Node, g1]
  with_reducible refine hR _ ?_
  clear hR R
  show X _ _ _ _
  refine X_ite (by simp only [ev, zg1, zg0, zgd]; exact rfl) ?_ ?_
  ·intro b5
   have c5 := b5
   try simp only [decide_eq_true_eq] at c5
   refine X_skip ?_
   show X _ _ _ _
   refine X_seq ?_
   refine X_block ?_
   have hlt : i < t.kids.length := by first | assumption | omega | simp_all
   have hn1 := idx_n2 (f := dN) (n := 4) hlt
   have e1 : (t.kids.map dN)[i]? = some (dN t.kids[i]) := by simp [hlt]
   have hsk : t.kids[i].size < t.size := by have h1 := sizes_kids2 t; have h2 := Tr.size_le_of_mem (List.getElem_mem hlt); omega
   have hsd := sizes_drop2 t.kids i hlt
   obtain ⟨_, B3, nx3, lv3, hc3, rfl, hB3⟩ := ih t.kids[i] hsk B2 nx2 lv2 b M2 (hB2.out.inf hbl) (hB2.out.un hu) (by omega)
   have hB4 := hB2.out.set hbl (visN M2 (nmT t.kids[i]))
   rw [← hB3] at hB4
   refine X_rc fun R hR => ?_
   simp only [EVpP, nat_lt, nat_0, nat_to, aops, astep, awant, aeff, aop, mkD, ev, St.put, ia_slice, zmc, zmn, zg1, zg0, zgd, zmo, if_true, zs1, zs0, zlm, zlc, zln, zd1, zd0, zt1, zt0, zca, zna, Nat.reduceAdd, Nat.reduceLeDiff, Nat.zero_add, zft, if_false, and_self, reduceCtorEq, decide_true, zis, ty_s_api_Node, ty_api_Node, und_api_Node, siz_api_Node, inf_api_Node_eq, any34, dN_cells, dN_isAgg, sl, g1, hlt, hn1, e1, hc3, any34]
   with_reducible refine hR _ ?_
   clear hR R
   show X _ _ _ _
   have hbig : i < 9223372036854775807 := by have h1 := Tr.length_le_sizes t.kids; have h2 := sizes_kids2 t; omega
   refine X_rg fun R hR => ?_
   simp only [inr_i64, Int.reduceLE, Int.reduceNeg, aops, astep, awant, aeff, aop, abin, aint, ev, ofValue, St.put, zg1, zg0, zgd, zmo, if_true, zs1, zs0, and_self, nat_succ hbig]
   with_reducible refine hR _ ?_
   clear hR R
   show ∃ m, m < _ ∧ _
   have hvl := visN_len (nmT t.kids[i]) M2
   have hcl := nmT_len t.kids[i]
   exact ⟨t.kids.length - (i + 1), by omega, i + 1, visN M2 (nmT t.kids[i]), B3, nx3, lv3, rfl, rfl, by omega, Lib.hid hB4, Lib.hid (by rw [← hM2.out, nmL_step hlt, visN_app]), by omega⟩
  ·intro b6
   have c6 := b6
   try simp only [decide_eq_false_iff_not] at c6
   refine X_exit ?_
   have hT : M2 = visN M (nmT t) := by rw [← hM2.out, List.drop_of_length_le (by first | omega | (simp_all; omega))]; rfl
   subst hT
   refine ⟨.inl rfl, .tup [], rfl, rfl, ?_, ?_, rfl, hB2.out.cut⟩
   ·show B.length ≤ B2.length; rw [hB2.out.len]; omega
   ·rw [hB2.out.cut]; have := unB_set hu b (visN M (nmT t)); unfold UnB at this; rwa [List.length_set] at this

end Go.Proofs.Ytlpgapmbajblmaa
