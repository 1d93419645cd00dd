/- Arguments as data of the machine. -/
import Derived.Test.YtjikokmhknnnoaaDat
namespace Go.Proofs.Ytjikokmhknnnoaa
open Go.ChangeShapes Go.WideShapes Go.ChangeAt Go.RowKit

structure Vd where
  name : ByteArray
  kind : Int
  len : Int
structure Pr where
  name : ByteArray
  params : List Vd
  body : Tr
structure Pg where
  vars : List Vd
  procs : List Pr
  main : Tr
def dI (n : Int) : D := .int .i64 n
def dS (s : ByteArray) : D := .str s
def dV (v : Vd) : D := .agg [.str v.name, .int .u8 v.kind, .int .i64 v.len]
def dP (p : Pr) : D := .agg [.str p.name, sl 3 (p.params.map dV), .int .u8 p.body.kind, .int .i64 p.body.num, .str p.body.name, sl 4 (p.body.kids.map dN)]
def dG (p : Pg) : D := .agg [sl 3 (p.vars.map dV), sl 6 (p.procs.map dP), .int .u8 p.main.kind, .int .i64 p.main.num, .str p.main.name, sl 4 (p.main.kids.map dN)]

theorem map_strip {α : Type} {f : α → D} (h : ∀ x, (f x).strip = f x) (l : List α) : ∀ d ∈ l.map f, d.strip = d := fun d hd => by
  obtain ⟨x, _, rfl⟩ := List.mem_map.1 hd; exact h x
theorem map_under {α : Type} {f : α → D} {m : Nat} (h : ∀ x, (f x).under m = true) (l : List α) : ∀ d ∈ l.map f, d.under m = true := fun d hd => by
  obtain ⟨x, _, rfl⟩ := List.mem_map.1 hd; exact h x
theorem dI_strip (n : Int) : (dI n).strip = dI n := rfl
theorem dI_under (m : Nat) (n : Int) : (dI n).under m = true := rfl
theorem dS_strip (n : ByteArray) : (dS n).strip = dS n := rfl
theorem dS_under (m : Nat) (n : ByteArray) : (dS n).under m = true := rfl
theorem dV_strip (v : Vd) : (dV v).strip = dV v := rfl
theorem dV_under (m : Nat) (v : Vd) : (dV v).under m = true := rfl
theorem dP_strip (v : Pr) : (dP v).strip = dP v := by
  unfold dP
  simp only [D.strip, D.strips, sl_strip (map_strip dV_strip _), sl_strip (map_strip dN_strip _)]
theorem dP_under (m : Nat) (v : Pr) : (dP v).under m = true := by
  unfold dP
  simp only [D.under, D.unders, sl_under (map_under (dV_under m) _), sl_under (map_under (dN_under m) _), Bool.and_true]
theorem dG_strip (v : Pg) : (dG v).strip = dG v := by
  unfold dG
  simp only [D.strip, D.strips, sl_strip (map_strip dV_strip _), sl_strip (map_strip dP_strip _), sl_strip (map_strip dN_strip _)]
theorem dG_under (m : Nat) (v : Pg) : (dG v).under m = true := by
  unfold dG
  simp only [D.under, D.unders, sl_under (map_under (dV_under m) _), sl_under (map_under (dP_under m) _), sl_under (map_under (dN_under m) _), Bool.and_true]
theorem slV_strip (l : List Vd) : (sl 3 (l.map dV)).strip = sl 3 (l.map dV) := sl_strip (map_strip dV_strip _)
theorem slN_strip (l : List Tr) : (sl 4 (l.map dN)).strip = sl 4 (l.map dN) := sl_strip (map_strip dN_strip _)
theorem slP_strip (l : List Pr) : (sl 6 (l.map dP)).strip = sl 6 (l.map dP) := sl_strip (map_strip dP_strip _)
theorem slI_strip (l : List Int) : (sl 1 (l.map dI)).strip = sl 1 (l.map dI) := sl_strip (map_strip dI_strip _)

section
variable {H : Type} {enc : TypeId × Value → H} {W : World} {base : Nat} {spare : Nat → Bool} {held : Bool} {fuel : Nat}

def gW (W : World) : Gh := ⟨fun b _ => b < W.heap.size, fun _ => none, fun _ => none, fun b => b < W.heap.size, fun _ _ => False, fun _ => false, fun _ => False⟩

theorem arg_u8 {c : Value} {x : DataW H × List MemPlace} (h : DataW.trod enc Try.prog W base spare held fuel 5 [c] = some x) : ∃ n, R W (gW W) (.int .u8 n) [c] := by
  obtain ⟨k, e0, _, w0⟩ := DataW.trod_int Try.underlying5 h
  simp only [List.cons.injEq, and_true] at e0
  subst e0
  refine ⟨k, .int _ _ ?_⟩
  have := wf_u8 w0
  simp only [inr, IntKind.min, IntKind.max, IntKind.bits, IntKind.signed]; simp; omega
theorem arg_i64 {c : Value} {x : DataW H × List MemPlace} (h : DataW.trod enc Try.prog W base spare held fuel 3 [c] = some x) : ∃ n, R W (gW W) (dI n) [c] := by
  obtain ⟨k, e0, _, w0⟩ := DataW.trod_int Try.underlying3 h
  simp only [List.cons.injEq, and_true] at e0
  subst e0
  refine ⟨k, .int _ _ ?_⟩
  have := wf_i64 w0
  simp only [inr, IntKind.min, IntKind.max, IntKind.bits, IntKind.signed]; simp; omega
theorem arg_str {c : Value} {x : DataW H × List MemPlace} (h : DataW.trod enc Try.prog W base spare held fuel 9 [c] = some x) : ∃ s, R W (gW W) (dS s) [c] := by
  obtain ⟨s, e2, _, w2⟩ := DataW.trod_string Try.underlying9 h
  simp only [List.cons.injEq, and_true] at e2
  subst e2
  exact ⟨s, .str _ w2⟩

/-- a slice, given that each element's reading is a datum -/
theorem arg_slice {α : Type} {f : α → D} (x0 : α) {n : Nat} {st e : TypeId} (hu : Try.prog.underlying st = some (.slice e)) (hc : Try.prog.cellsOf e = n) {c : Value} {x : DataW H × List MemPlace}
    (ih : ∀ m, m < fuel → ∀ {cs : List Value} {y : DataW H × List MemPlace}, DataW.trod enc Try.prog W base spare held m e cs = some y → ∃ a, R W (gW W) (f a) cs)
    (hcl : ∀ a, (f a).cells.length = n) (hn0 : 0 < n) (h : DataW.trod enc Try.prog W base spare held fuel st [c] = some x) : ∃ l : List α, R W (gW W) (sl n (l.map f)) [c] := by
  rcases DataW.trod_slice hu h with ⟨e3, _⟩ | ⟨a, len, cap, elems, rest, n', rfl, e3, _, hba, hl, hm, hel, hat, _, _⟩
  · simp only [List.cons.injEq, and_true] at e3
    subst e3
    exact ⟨[], .slice .imm _ [] none 0 (fun _ => []) (Nat.le_refl _) (by omega) (fun _ _ q => by cases q) trivial trivial (fun j h => absurd h (Nat.not_lt_zero _)) (fun j h => absurd h (Nat.not_lt_zero _)) (fun j h => absurd h (Nat.not_lt_zero _))⟩
  · simp only [List.cons.injEq, and_true] at e3
    subst e3
    have hk : ∀ i, ∃ p : α × List Value, i < len → R W (gW W) (f p.1) p.2 ∧ ∀ m u, p.2[m]? = some u → W.cell? ((a.add (i * n)).add m) = some u := by
      intro i
      by_cases hi : i < len
      · have hb := hat i hi
        rw [hc] at hb
        have hs : elems[i]? = some elems[i] := List.getElem?_eq_getElem (by omega)
        rw [hs, Option.bind_eq_some_iff] at hb
        obtain ⟨cs', hcs, ht⟩ := hb
        obtain ⟨x, hx⟩ := ih n' (by omega) ht
        obtain ⟨hlen, _, hcell⟩ := World.cells?_some hcs
        refine ⟨(x, cs'), fun _ => ⟨hx, fun m u hu => ?_⟩⟩
        have hmlt : m < cs'.length := (List.getElem?_eq_some_iff.1 hu).1
        rw [hcell m (by omega)]; exact hu
      · exact ⟨(x0, []), fun e => absurd e hi⟩
    obtain ⟨T, hT⟩ := Classical.axiomOfChoice hk
    have hll : ((List.range len).map fun i => (T i).1).length = len := by simp
    refine ⟨(List.range len).map fun i => (T i).1, ?_⟩
    have key := R.slice (w := W) (g := gW W) .imm (if (((List.range len).map fun i => (T i).1).map f).isEmpty then 0 else n) (((List.range len).map fun i => (T i).1).map f) (some a) cap (fun j => (T j).2) (by simpa using hl) hm (fun _ _ q => by cases q) trivial trivial
      (fun j hj => by
        have hj' : j < len := by simpa using hj
        simp only [List.getElem_map, List.getElem_range]
        exact (hT j hj').1)
      (fun j hj => by
        have hj' : j < len := by simpa using hj
        rw [sl_n hj, (hT j hj').1.len, hcl])
      (fun j hj => by
        have hj' : j < len := by simpa using hj
        rw [sl_n hj]
        have hTj := hT j hj'
        have hlen : (T j).2.length = n := by rw [hTj.1.len, hcl]
        have h0 := hT 0 (by omega)
        have hlen0 : (T 0).2.length = n := by rw [h0.1.len, hcl]
        have g0 := h0.2 0 ((T 0).2[0]'(by omega)) (List.getElem?_eq_getElem (by omega))
        obtain ⟨b, off, spot⟩ := a
        have hs : spot = none := by simpa [Addr.add] using World.cell?_spot g0
        subst hs
        refine ⟨b, off, rfl, fun m u hu => ?_⟩
        have := hTj.2 m u hu
        rw [addr_plus, addr_plus] at this
        exact ⟨World.block_lt_of_cell? W _ this, this⟩)
    simpa [sl] using key
end

end Go.Proofs.Ytjikokmhknnnoaa
