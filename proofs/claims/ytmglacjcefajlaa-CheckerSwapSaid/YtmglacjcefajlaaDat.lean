import Derived.Test.YtmglacjcefajlaaAmX
import Derived.Test.YtmglacjcefajlaaTy
import Derived.Test.YtmglacjcefajlaaRead
import Derived.Test.YtmglacjcefajlaaBA
import Derived.Test.YtmglacjcefajlaaClone
/- Nodes, declarations and programs as data of the machine; how they come out of arguments; contracts that were proved in memory, handed to the machine. -/
namespace Go.Proofs.Ytmglacjcefajlaa
open Go.RowKit

mutual
def dN : Tr → D
 | .mk k n s c => .agg [.int .u8 k, .int .i64 n, .str s, .slice .imm (if c.isEmpty then 0 else 4) (dNs c)]
def dNs : List Tr → List D
 | [] => []
 | t :: r => dN t :: dNs r
end
theorem dNs_map : ∀ c : List Tr, dNs c = c.map dN
 | [] => rfl
 | t :: r => by simp only [dNs, zmc, dNs_map r]
/-- a slice of data -/
def sl (n : Nat) (l : List D) : D := .slice .imm (if l.isEmpty then 0 else n) l
theorem dN_eq (t : Tr) : dN t = .agg [.int .u8 t.kind, .int .i64 t.num, .str t.name, sl 4 (t.kids.map dN)] := by
 cases t with
 | mk k n s c =>
  simp only [dN, Tr.kind, Tr.num, Tr.name, Tr.kids, sl, dNs_map]
  cases c <;> rfl
theorem dN_cells (t : Tr) : (dN t).cells = [.int .u8 t.kind, .int .i64 t.num, .str t.name, sl 4 (t.kids.map dN)] := by rw [dN_eq]; rfl
theorem dN_good (t : Tr) : (dN t).good = true := by rw [dN_eq]; rfl
theorem dN_isAgg (t : Tr) : (dN t).isAgg = true := by rw [dN_eq]; rfl
theorem sl_n {n : Nat} {l : List D} {j : Nat} (h : j < l.length) : (if l.isEmpty then 0 else n) = n := by
 cases l with
 | nil => simp at h
 | cons a r => simp
theorem sl_strip {n : Nat} {l : List D} (h : ∀ d ∈ l, d.strip = d) : (sl n l).strip = sl n l := by
 have : l.map D.strip = l := by
  have := List.map_congr_left (f := D.strip) (g := id) (l := l) h
  simpa using this
 unfold sl
 simp only [D.strip, D.strips_map, this, Own.st]
 cases l <;> simp
theorem sl_under {n m : Nat} {l : List D} (h : ∀ d ∈ l, d.under m = true) : (sl n l).under m = true := by
 unfold sl
 simp only [D.under, D.unders_all, List.all_eq_true]; exact h
theorem dN_strip (t : Tr) : (dN t).strip = dN t := by
 induction t using Tr.ind with
 | h k n s c ih =>
  rw [dN_eq]
  simp only [D.strip, D.strips]
  rw [sl_strip]
  intro d hd
  obtain ⟨x, hx, rfl⟩ := List.mem_map.1 hd
  exact ih x hx
theorem dN_under (m : Nat) (t : Tr) : (dN t).under m = true := by
 induction t using Tr.ind with
 | h k n s c ih =>
  rw [dN_eq]
  simp only [D.under, D.unders, Bool.true_and, Bool.and_true]
  refine sl_under fun d hd => ?_
  obtain ⟨x, hx, rfl⟩ := List.mem_map.1 hd
  exact ih x hx

mutual
def toTr : D → Option Tr
 | .agg [.int .u8 k, .int .i64 n, .str s, .slice .imm m l] => (match toTrs l with
  | some c => if m = (if c.isEmpty then 0 else 4) then some (.mk k n s c) else none
  | none => none)
 | _ => none
def toTrs : List D → Option (List Tr)
 | [] => some []
 | d :: r => (match toTr d, toTrs r with
  | some t, some c => some (t :: c)
  | _, _ => none)
end
mutual
theorem toTr_of : ∀ (t : Tr), toTr (dN t) = some t
 | .mk k n s c => by
  simp only [dN, toTr, toTrs_of c, if_true]
theorem toTrs_of : ∀ (c : List Tr), toTrs (dNs c) = some c
 | [] => rfl
 | t :: r => by simp only [dNs, toTrs, toTr_of t, toTrs_of r]
end
theorem toTr_some (n : Nat) : (∀ d t, SizeOf.sizeOf d ≤ n → toTr d = some t → d = dN t) ∧ (∀ l c, SizeOf.sizeOf l ≤ n → toTrs l = some c → l = dNs c) := by
 induction n with
 | zero =>
  refine ⟨fun d t h => ?_, fun l c h => ?_⟩
  ·cases d <;> simp at h
  ·cases l <;> simp at h
 | succ n ih =>
  refine ⟨fun d t hs h => ?_, fun l c hs h => ?_⟩
  ·unfold toTr at h
   split at h
   ·split at h
    ·rename_i c hc
     have h' := h
     clear h
     rename_i k n' s m l _
     by_cases hm : m = (if c.isEmpty then 0 else 4)
     ·rw [if_pos hm] at h'
      cases h'
      have := ih.2 l c (by simp at hs; omega) hc
      rw [this, hm, dN]
     ·rw [if_neg hm] at h'; cases h'
    ·cases h
   ·cases h
  ·cases l with
   | nil => simp only [toTrs] at h; cases h; rfl
   | cons d r =>
    simp only [toTrs] at h
    split at h
    ·rename_i t c' h1 h2
     cases h
     rw [ih.1 d t (by simp at hs; omega) h1, ih.2 r c' (by simp at hs; omega) h2, dNs]
    ·cases h
theorem toTr_eq {d : D} {t : Tr} (h : toTr d = some t) : d = dN t := (toTr_some (SizeOf.sizeOf d)).1 d t (Nat.le_refl _) h

/-- a node's cells in memory -/
theorem rep_of_R {w : World} {g : Gh} {B : Nat} (hB : ∀ b o, g.ok b o → b < B) (t : Tr) : ∀ {cs : List Value}, R w g (dN t) cs → Rep w B t (.agg cs.toArray) := by
 induction t using Tr.ind with
 | h k n s c ih =>
  intro cs h
  rw [dN_eq] at h
  have hl := R_agg_len h
  match cs, hl with
  | [c0, c1, c2, c3], _ =>
   obtain ⟨_, r0⟩ := R_agg_at h 0 (by simp)
   obtain ⟨_, r1⟩ := R_agg_at h 1 (by simp)
   obtain ⟨_, r2⟩ := R_agg_at h 2 (by simp)
   obtain ⟨_, r3⟩ := R_agg_at h 3 (by simp)
   obtain ⟨e0, i0⟩ := R_int r0
   obtain ⟨e1, i1⟩ := R_int r1
   obtain ⟨e2, i2⟩ := R_str r2
   have v3 : val w g (.slice .imm (if (c.map dN).isEmpty then 0 else 4) (c.map dN)) c3 := val_of_R r3 rfl
   obtain ⟨A, cap, cs', hv, hle, hm, _, _, _, hr, hn, hc⟩ := val_slice v3
   simp only [List.getElem_cons_zero, List.getElem_cons_succ, List.cons.injEq, and_true, Tr.kind, Tr.num, Tr.name, zlm] at e0 e1 e2 hv hle hr hn hc
   subst e0 e1 e2 hv
   simp only [Rep]
   simp only [inr, Tr.kind, Tr.num, IntKind.min, IntKind.max, IntKind.bits, IntKind.signed] at i0 i1
   refine ⟨A, cap, rfl, ⟨by simp at i0; omega, by simp at i0; omega, by simp at i1; omega, by simp at i1; omega, i2, hle, hm⟩, repRow_of fun j hj => ?_⟩
   have hne : (if (c.map dN).isEmpty = true then 0 else 4) = 4 := sl_n (j := j) (by simpa using hj)
   obtain ⟨b, off, hA, hcl⟩ := hc j hj
   have hR := hr j hj
   rw [List.getElem_map] at hR
   have hrep := ih c[j] (List.getElem_mem hj) hR
   have hlen := hn j hj
   rw [hne] at hlen hcl
   rw [Nat.zero_add]
   match hq : cs' j, hlen with
   | [d0, d1, d2, d3], _ =>
    rw [hq] at hcl hrep
    have q0 := hcl 0 d0 rfl
    have q1 := hcl 1 d1 rfl
    have q2 := hcl 2 d2 rfl
    have q3 := hcl 3 d3 rfl
    exact ⟨b, off, d0, d1, d2, d3, hA, hB _ _ q0.1, by simpa using q0.2, q1.2, q2.2, q3.2, hrep⟩
theorem rep_of_val {w : World} {g : Gh} (hB : ∀ b o, g.ok b o → b < w.heap.size) {t : Tr} {v : Value} (h : val w g (dN t) v) : Rep w w.heap.size t v := by
 obtain ⟨cs, hR, rfl⟩ := h.to1 (dN_good t)
 have := rep_of_R hB t hR
 rw [dN_eq]
 exact this

end Go.Proofs.Ytmglacjcefajlaa
