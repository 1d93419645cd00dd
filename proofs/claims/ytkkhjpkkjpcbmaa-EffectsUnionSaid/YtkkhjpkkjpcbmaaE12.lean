/- Blocks, and their turns: plain facts. -/
import Derived.Test.YtkkhjpkkjpcbmaaE11
namespace Go.Proofs.Ytkkhjpkkjpcbmaa
open Go.RowKit


def nT : Tr := .mk 0 0 ⟨#[]⟩ []
def bT (k : Int) (l : List Tr) : Tr := .mk k 0 ⟨#[]⟩ l
/-- the list, turned -/
def rotA (l : List Tr) (q j : Nat) : Tr := (l[(j + q) % l.length]?).getD nT
def rotL (l : List Tr) (q i : Nat) : List Tr := (List.range i).map (rotA l q)
theorem rotL_snoc (l : List Tr) (q i : Nat) : rotL l q (i + 1) = rotL l q i ++ [rotA l q i] := by
 unfold rotL; rw [List.range_succ, List.map_append]; rfl
theorem rotL_len (l : List Tr) (q i : Nat) : (rotL l q i).length = i := by simp [rotL]
theorem rotA_at {l : List Tr} (q j : Nat) (h : (j + q) % l.length < l.length) : rotA l q j = l[(j + q) % l.length] := by
 unfold rotA; rw [List.getElem?_eq_getElem h]; rfl
theorem rotL_mem {l : List Tr} (q : Nat) {x : Tr} : x ∈ rotL l q l.length ↔ x ∈ l := by
 unfold rotL
 rw [List.mem_map]
 constructor
 ·rintro ⟨j, hj, rfl⟩
  have hj := List.mem_range.1 hj
  rw [rotA_at q j (Nat.mod_lt _ (by omega))]
  exact List.getElem_mem _
 ·intro hx
  obtain ⟨m, hm, rfl⟩ := List.getElem_of_mem hx
  have h0 : 0 < l.length := by omega
  refine ⟨(m + (l.length - q % l.length)) % l.length, List.mem_range.2 (Nat.mod_lt _ h0), ?_⟩
  have hq := Nat.mod_lt q h0
  have e : ((m + (l.length - q % l.length)) % l.length + q) % l.length = m := by
   rw [Nat.mod_add_mod, ← Nat.add_mod_mod]
   have : m + (l.length - q % l.length) + q % l.length = m + l.length := by omega
   rw [this, Nat.add_mod_right, Nat.mod_eq_of_lt hm]
  unfold rotA
  rw [e, List.getElem?_eq_getElem hm]
  rfl
theorem rr_ext {t u : Tr} (h : ∀ x, x ∈ readsT t ↔ x ∈ readsT u) : rrT t = rrT u := by rw [← sort_reads, ← sort_reads, sortN_congr h]
theorem wr_ext {t u : Tr} (h : ∀ x, x ∈ writesT t ↔ x ∈ writesT u) : wrT t = wrT u := by rw [← sort_writes, ← sort_writes, sortN_congr h]
theorem blk_parts {E : Tr → List Nm} {s : Nm} {l : List Tr} {x : Nm} : x ∈ partsL (unionF E 57 s) 0 l ↔ ∃ t ∈ l, x ∈ E t := by
 have hh : ∀ i, hidesN 57 i = false := fun i => rfl
 rw [partsL_mem]
 constructor
 ·rintro ⟨j, hj, q⟩
  exact ⟨l[j], List.getElem_mem hj, (unionF_mem.1 q).1⟩
 ·rintro ⟨t, ht, q⟩
  obtain ⟨j, hj, rfl⟩ := List.getElem_of_mem ht
  exact ⟨j, hj, unionF_mem.2 ⟨q, fun e => by rw [hh] at e; cases e⟩⟩
theorem blk_reads {l : List Tr} {x : Nm} : x ∈ readsT (bT 57 l) ↔ ∃ t ∈ l, x ∈ readsT t := by
 rw [bT, readsT_mk]
 have h0 : usesN 57 = false := rfl
 simp only [h0, zft, if_false, zna, blk_parts]
theorem blk_writes {l : List Tr} {x : Nm} : x ∈ writesT (bT 57 l) ↔ ∃ t ∈ l, x ∈ writesT t := by
 rw [bT, writesT_mk]
 have h2 : updN 57 = false := rfl
 have h3 : bodN 57 = true := rfl
 simp only [h2, h3, Int.reduceBEq, Bool.or_false, zft, if_false, if_true, blk_parts]
theorem blk_tapes (l : List Tr) : tapesB (bT 57 l) = l.any tapesB := by rw [tapesB_eq]; rfl
theorem rot_reads (l : List Tr) (q : Nat) : rrT (bT 57 (rotL l q l.length)) = rrT (bT 57 l) := rr_ext fun x => by
 rw [blk_reads, blk_reads]
 exact ⟨fun ⟨t, h, r⟩ => ⟨t, (rotL_mem q).1 h, r⟩, fun ⟨t, h, r⟩ => ⟨t, (rotL_mem q).2 h, r⟩⟩
theorem rot_writes (l : List Tr) (q : Nat) : wrT (bT 57 (rotL l q l.length)) = wrT (bT 57 l) := wr_ext fun x => by
 rw [blk_writes, blk_writes]
 exact ⟨fun ⟨t, h, r⟩ => ⟨t, (rotL_mem q).1 h, r⟩, fun ⟨t, h, r⟩ => ⟨t, (rotL_mem q).2 h, r⟩⟩
def manyL (f : Tr → List ByteArray) (l : List Tr) : List ByteArray := addL [] ((l.map f).flatten)
theorem many_snoc {f : Tr → List ByteArray} {l : List Tr} {i : Nat} (h : i < l.length) : manyL f (l.take (i + 1)) = addL (manyL f (l.take i)) (f l[i]) := by
 unfold manyL
 rw [List.take_succ_eq_append_getElem h, List.map_append, List.flatten_append, addL_app]
 simp
theorem many_nodup (f : Tr → List ByteArray) (l : List Tr) : (manyL f l).Nodup := addL_nodup _ _ List.nodup_nil
theorem many_mem {f : Tr → List ByteArray} {l : List Tr} {x : ByteArray} : x ∈ manyL f l ↔ ∃ t ∈ l, x ∈ f t := by
 unfold manyL
 rw [addL_mem]
 simp only [List.not_mem_nil, false_or, List.mem_flatten, List.mem_map]
 exact ⟨fun ⟨_, ⟨t, ht, e⟩, hx⟩ => ⟨t, ht, e ▸ hx⟩, fun ⟨t, ht, hx⟩ => ⟨_, ⟨t, ht, rfl⟩, hx⟩⟩
theorem many_reads {l : List Tr} {x : ByteArray} : x ∈ manyL rrT l ↔ x ∈ rrT (bT 57 l) := by
 rw [many_mem, rr_mem, blk_reads]
 exact ⟨fun ⟨t, h, r⟩ => ⟨t, h, rr_mem.1 r⟩, fun ⟨t, h, r⟩ => ⟨t, h, rr_mem.2 r⟩⟩
theorem many_writes {l : List Tr} {x : ByteArray} : x ∈ manyL wrT l ↔ x ∈ wrT (bT 57 l) := by
 rw [many_mem, wr_mem, blk_writes]
 exact ⟨fun ⟨t, h, r⟩ => ⟨t, h, wr_mem.1 r⟩, fun ⟨t, h, r⟩ => ⟨t, h, wr_mem.2 r⟩⟩
theorem reads_count (l : List Tr) : (rrT (bT 57 l)).length = (manyL rrT l).length :=
 ((List.perm_ext_iff_of_nodup (asc_nodup (rrT_spec _).1) (many_nodup _ _)).2 fun _x => many_reads.symm).length_eq
theorem writes_count (l : List Tr) : (wrT (bT 57 l)).length = (manyL wrT l).length :=
 ((List.perm_ext_iff_of_nodup (asc_nodup (wrT_spec _).1) (many_nodup _ _)).2 fun _x => many_writes.symm).length_eq
theorem many_len (f : Tr → List ByteArray) (hf : ∀ t, (f t).length ≤ 2 * t.size) : ∀ l : List Tr, ((l.map f).flatten).length ≤ 2 * Tr.sizes l
 | [] => by simp [Tr.sizes]
 | t :: r => by
  have h1 := many_len f hf r
  have h2 := hf t
  simp only [zmc, List.flatten_cons, zla, Tr.sizes]
  omega
theorem many_le (f : Tr → List ByteArray) (hf : ∀ t, (f t).length ≤ 2 * t.size) (l : List Tr) : (manyL f l).length ≤ 2 * Tr.sizes l := by
 have h1 := addL_len ((l.map f).flatten) []
 have h2 := many_len f hf l
 unfold manyL
 simp only [zln] at h1
 omega
theorem rr_le2 (t : Tr) : (rrT t).length ≤ 2 * t.size := by have := rrT_len t; omega
theorem any_snoc {l : List Tr} {i : Nat} (h : i < l.length) : (l.take (i + 1)).any tapesB = ((l.take i).any tapesB || tapesB l[i]) := by
 rw [List.take_succ_eq_append_getElem h, List.any_append]; simp
theorem few_lit (l : List Tr) : fn EVe 12 [.agg [.int .u8 0, .int .i64 0, .str ⟨#[]⟩, .slice .imm (if (l.map dN).isEmpty = true then 0 else 4) (l.map dN)]] = some (.bool (fewB (bT 0 l))) := by
 have h := few_e (bT 0 l)
 rw [dN_eq] at h
 exact h
theorem add_k {i q : Nat} (h : i + q ≤ 1000000) : IntKind.i64.wrap ((i : Int) + (q : Int)) = ((i + q : Nat) : Int) := by
 simp only [IntKind.wrap, IntKind.bits, IntKind.signed]; simp; omega
theorem wrap_k {q : Nat} (h : q ≤ 255) : IntKind.i64.wrap (q : Int) = (q : Int) := by
 simp only [IntKind.wrap, IntKind.bits, IntKind.signed]; simp; omega
theorem unders_id {α : Type} {f : α → D} (h : ∀ m x, (f x).under m = true) (m : Nat) (l : List α) : D.unders m (l.map f) = true := by
 rw [D.unders_all, List.all_eq_true]; intro x hx; obtain ⟨y, _, rfl⟩ := List.mem_map.1 hx; exact h m y
theorem mod_k (a b : Nat) : Int.tmod ((a : Nat) : Int) (b : Int) = ((a % b : Nat) : Int) := (Int.ofNat_tmod a b).symm
theorem take_any {b c : Bool} (h : b = true) : (b || c) = true := by rw [h]; rfl
theorem dN_strip_eq (k n : Int) (s : ByteArray) (l : List Tr) : (D.agg [.int .u8 k, .int .i64 n, .str s, .slice .imm (if (l.map dN).isEmpty = true then 0 else 4) (l.map dN)]).strip = D.agg [.int .u8 k, .int .i64 n, .str s, .slice .imm (if (l.map dN).isEmpty = true then 0 else 4) (l.map dN)] := by
 have h := dN_strip (.mk k n s l)
 rw [dN_eq] at h
 exact h
theorem own_strip {o : Own} {n : Nat} {c : List Tr} {lv : List Nat} (ha : Acc 24 4 o n (c.map dN) lv) : (D.agg [.int .u8 57, .int .i64 0, .str ⟨#[]⟩, .slice o n (c.map dN)]).strip = dN (bT 57 c) := by
 have h1 : (c.map dN).map D.strip = c.map dN := by rw [List.map_map]; exact List.map_congr_left fun x _ => dN_strip x
 rw [dN_eq]
 simp only [D.strip, D.strips]
 have h2 := ha.strip
 rw [h1] at h2
 simp only [D.strip] at h2
 simp only [bT, Tr.kind, Tr.num, Tr.name, Tr.kids]
 rw [h2]; rfl
theorem sizes_le_mul : ∀ (l : List Tr) (m : Nat), (∀ t ∈ l, t.size ≤ m) → Tr.sizes l ≤ l.length * m
 | [], m, h => by simp [Tr.sizes]
 | t :: r, m, h => by
  have h1 := sizes_le_mul r m (fun x hx => h x (List.mem_cons_of_mem _ hx))
  have h2 := h t List.mem_cons_self
  simp only [Tr.sizes, zlc, Nat.succ_mul]
  omega
theorem rot_size (l : List Tr) (q : Nat) (h : Tr.sizes l ≤ 300) (hl : l.length ≤ 8) : (bT 57 (rotL l q l.length)).size ≤ 1000000 := by
 have h1 := sizes_le_mul (rotL l q l.length) 300 (fun t ht => by
  have := Tr.size_le_of_mem ((rotL_mem q).1 ht)
  omega)
 rw [rotL_len] at h1
 have : l.length * 300 ≤ 8 * 300 := Nat.mul_le_mul_right _ hl
 simp only [bT, Tr.size]
 omega
end Go.Proofs.Ytkkhjpkkjpcbmaa
