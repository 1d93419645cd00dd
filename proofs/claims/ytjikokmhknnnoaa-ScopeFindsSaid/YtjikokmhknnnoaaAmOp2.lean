/- Operations that leave memory alone. -/
import Derived.Test.YtjikokmhknnnoaaAmOp
namespace Go.Proofs.Ytjikokmhknnnoaa
open Go.RowKit

def afill (flds : Nat → Option (Nat × Nat)) (cells : List D) : List (Nat × D) → Option (List D)
  | [] => some cells
  | (i, d) :: rest => match flds i with
    | none => none
    | some (off, size) => if d.good = true ∧ d.cells.length = size ∧ off + size ≤ cells.length then afill flds (cells.take off ++ d.cells ++ cells.drop (off + size)) rest else none

def scEq (P : Program) (t : TypeId) (x y : D) : Option Bool := match P.underlying t, x, y with
  | some (.int _), .int k a, .int k' b => if k = k' then some (a == b) else none
  | some .bool, .bool a, .bool b => some (a == b)
  | some .string, .str a, .str b => some (a.toList == b.toList)
  | _, _, _ => none
def aggEq (P : Program) (xs ys : List D) : List Field → Option Bool
  | [] => some true
  | f :: fs => if f.name = "_" then none else match xs[f.offset]?, ys[f.offset]? with
    | some a, some b => match scEq P f.type a b, aggEq P xs ys fs with
      | some r, some q => some (r && q)
      | _, _ => none
    | _, _ => none

def abin (P : Program) (op : BinOp) (t : TypeId) (x y : D) : Option D := match x, y with
  | .int k a, .int k' b => if k = k' then aint op k a b else none
  | .str a, .str b => astr op a b
  | .bool a, .bool b => match P.underlying t with
    | some .bool => (match op with
      | .eql => some (.bool (a == b))
      | .neq => some (.bool !(a == b))
      | _ => none)
    | _ => none
  | .slice o _ l, .slice .nil _ [] => match P.underlying t with
    | some (.slice _) => (match op with
      | .eql => if l = [] then (if o = .nil then some (.bool true) else if o = .nn then some (.bool false) else none) else some (.bool false)
      | .neq => if l = [] then (if o = .nil then some (.bool false) else if o = .nn then some (.bool true) else none) else some (.bool true)
      | _ => none)
    | _ => none
  | .agg l, .agg m => match P.underlying t with
    | some (.struct fs) => if P.stoodInHeld t = false ∧ P.eqGuardType P.depth t = false then (match op, aggEq P l m fs.toList with
      | .eql, some r => some (.bool r)
      | .neq, some r => some (.bool !r)
      | _, _ => none) else none
    | _ => none
  | _, _ => none

/-- an index between bounds -/
def idx (d : D) (lo hi : Nat) : Option Nat := match d with
  | .int _ i => if (lo : Int) ≤ i ∧ i ≤ hi then some i.toNat else none
  | _ => none

def aslice (P : Program) (t : TypeId) (x : D) (lo hi : Option D) : Option D := match x, P.underlying t with
  | .slice _ n l, some (.slice e) =>
    match (match hi with | some d => idx d 0 l.length | none => some l.length) with
    | none => none
    | some h => match (match lo with | some d => idx d 0 h | none => some 0) with
      | none => none
      | some a => if (n = P.cellsOf e ∨ l = []) ∧ (P.info? e).isSome then some (.slice .imm n ((l.drop a).take (h - a))) else none
  | .str s, some .string =>
    match (match hi with | some d => idx d 0 s.size | none => some s.size) with
    | none => none
    | some h => match (match lo with | some d => idx d 0 h | none => some 0) with
      | none => none
      | some a => some (.str (s.extract a h))
  | _, _ => none

/-- a slice of which the last bound is the length -/
def aslice3 (P : Program) (t : TypeId) (x : D) (lo : Option D) (hi mx : D) : Option D := match x, P.underlying t with
  | .slice _ n l, some (.slice e) =>
    match idx mx 0 l.length with
    | none => none
    | some m => match idx hi 0 m with
      | none => none
      | some h => match (match lo with | some d => idx d 0 h | none => some 0) with
        | none => none
        | some a => if (n = P.cellsOf e ∨ l = []) ∧ (P.info? e).isSome ∧ h = m then some (.slice .clip n ((l.drop a).take (h - a))) else none
  | _, _ => none

/-- a map's keys -/
def sameK (td : TypeDesc) (x y : D) : Option Bool := match td, x, y with
  | .int _, .int k a, .int k' b => if k = k' then some (a == b) else none
  | .string, .str a, .str b => some (decide (a = b))
  | _, _, _ => none
def mfind (td : TypeDesc) (k : D) : List D → Option (Option D)
  | [] => some none
  | [_] => none
  | a :: v :: r => match sameK td k a with
    | some true => some (some v)
    | some false => mfind td k r
    | none => none
def mcont (bx : Nat → Option (List D)) : D → Option (List D)
  | .nmap => some []
  | .cmap l => some l
  | .mref i => bx i
  | _ => none
def keyOk (td : TypeDesc) (x : D) : Bool := match td, x with
  | .int k, .int k' _ => decide (k' = k)
  | .string, .str _ => true
  | _, _ => false
def alook (P : Program) (bx : Nat → Option (List D)) (t : TypeId) (x k : D) (cok : Bool) : Option D := match P.underlying t with
  | some (.map kt et) => (match P.underlying kt with
    | some td => if keyOk td k then (match mcont bx x with
      | some l => (match mfind td k l with
        | some (some v) => if v.isAgg = false ∧ v.good = true then some (if cok then .tup [v, .bool true] else v) else none
        | some none => (match ((P.info? et).bind (·.zero)).bind ofValue with
          | some z => some (if cok then .tup [z, .bool false] else z)
          | none => none)
        | none => none)
      | none => none) else none
    | none => none)
  | _ => none

/-- an operation that only reads -/
def aop (P : Program) (vals : Operand → D) (bx : Nat → Option (List D)) (o : Oper) : Option D := match o.op with
  | .move x => some (vals x)
  | .assign x => some (vals x)
  | .pick c a b => (match vals c with
    | .bool q => some (if q then vals a else vals b)
    | _ => none)
  | .load t a => (match tyOf P t with
    | none => none
    | some y => match vals a with
      | .ptr i off => (match bx i with
        | none => none
        | some cs => if off + y.sz ≤ cs.length then mkD y ((cs.drop off).take y.sz) else none)
      | .elem d => if y.agg = d.isAgg ∧ d.cells.length = y.sz then some d else none
      | _ => none)
  | .fieldAddr t x f => (match tyOf P t with
    | none => none
    | some y => match y.flds[f]? with
      | none => none
      | some (off, size, ag) => if size = 0 then none else match vals x with
        | .ptr i o => some (.ptr i (o + off))
        | .elem (.agg l) => if off + size ≤ l.length then (if ag then some (.elem (.agg ((l.drop off).take size))) else match (l.drop off).take size with
            | [d] => some (.elem d)
            | _ => none) else none
        | _ => none)
  | .indexAddr t x i => (match P.underlying t with
    | some (.slice e) => (match vals x with
      | .slice _ n l => (match vals i with
        | .int _ k => if 0 ≤ k ∧ k < l.length ∧ n = P.cellsOf e ∧ (P.info? e).isSome then (l[k.toNat]?).map .elem else none
        | _ => none)
      | _ => none)
    | _ => none)
  | .index t x i => (match P.underlying t with
    | some .string => (match vals x with
      | .str s => (match vals i with
        | .int _ k => if 0 ≤ k then (s[k.toNat]?).map (fun b => .int .u8 b.toNat) else none
        | _ => none)
      | _ => none)
    | _ => none)
  | .binOp op t x y _ => abin P op t (vals x) (vals y)
  | .unOp op _ x => (match op, vals x with
    | .not, .bool b => some (.bool !b)
    | .neg, .int k n => some (.int k (k.wrap (0 - n)))
    | _, _ => none)
  | .convert src dst x => (match P.underlying src, P.underlying dst, vals x with
    | some _, some (.int k), .int _ n => some (.int k (k.wrap n))
    | some _, some .string, .str s => some (.str s)
    | _, _, _ => none)
  | .extract x i => (match vals x with
    | .tup l => l[i]?
    | _ => none)
  | .nilCheck x => (match vals x with
    | .ptr i off => some (.ptr i off)
    | .elem d => some (.elem d)
    | _ => none)
  | .slice t x lo hi mx => (match mx with
    | none => aslice P t (vals x) (lo.map vals) (hi.map vals)
    | some m => (match hi with
      | some h => aslice3 P t (vals x) (lo.map vals) (vals h) (vals m)
      | none => none))
  | .field t x f => (match P.underlying t with
    | some (.struct fs) => (match fs.toList[f]? with
      | some fd => (match tyOf P fd.type with
        | some y => (match vals x with
          | .agg l => if fd.offset + y.sz ≤ l.length then mkD y ((l.drop fd.offset).take y.sz) else none
          | _ => none)
        | none => none)
      | none => none)
    | _ => none)
  | .lookup t x k cok => alook P bx t (vals x) (vals k) cok
  | .build t parts => (match tyOf P t, P.underlying t with
    | some y, some (.struct fs) => if fs.toList.all (fun f => (P.info? f.type).isSome) then (match y.zero with
      | some z => (afill (fun i => (y.flds[i]?).map fun f => (f.1, f.2.1)) z (parts.toList.map fun p => (p.1, vals p.2))).map .agg
      | none => none) else none
    | _, _ => none)
  | .makeFunc fn first captured => (match fn with
    | .func f => if first.isEmpty ∧ (captured.toList.map vals).all (fun d => d.good && !d.isAgg) then some (.fn f (captured.toList.map vals)) else none
    | _ => none)
  | .call c => (match c.callee with
    | .builtin .len => (match c.args.toList, c.argTypes.toList with
      | [x], [t] => (match P.underlying t, vals x with
        | some (.slice _), .slice _ _ l => some (.int .i64 l.length)
        | some .string, .str s => some (.int .i64 s.size)
        | some (.map _ _), .nmap => some (.int .i64 0)
        | some (.map _ _), .mref i => (bx i).map fun l => .int .i64 ((l.length / 2 : Nat) : Int)
        | _, _ => none)
      | _, _ => none)
    | .builtin .max => (match c.args.toList with
      | [x, y] => (match vals x, vals y with
        | .int k a, .int k' b => if k = k' then some (.int k (if b > a then b else a)) else none
        | _, _ => none)
      | _ => none)
    | .builtin .min => (match c.args.toList with
      | [x, y] => (match vals x, vals y with
        | .int k a, .int k' b => if k = k' then some (.int k (if b < a then b else a)) else none
        | _, _ => none)
      | _ => none)
    | _ => none)
  | _ => none

section
variable {P : Program} {w : World} {g : Gh} {ρ : Operand → Value} {vals : Operand → D} {bx : Nat → Option (List D)}

def Yields (P : Program) (w : World) (g : Gh) (ρ : Operand → Value) (o : Oper) (d : D) : Prop := ∃ v, (execOp ρ o).run P w = .ok (.value v) w ∧ val w g d v
/-- the boxes that are known hold what they hold -/
def BoxIn (w : World) (g : Gh) (b : Nat) : Bool → List D → Prop
  | false, cs => ∃ vs t, w.heap[b]? = some (.cells vs.toArray t (0, 0)) ∧ R w g (.agg cs) vs
  | true, cs => ∃ es clock, w.heap[b]? = some (.map es clock) ∧ cs.length = 2 * es.size ∧ es.size ≤ 4611686018427387904 ∧ ∀ (j : Nat) (h : j < cs.length), R w g cs[j] [ent es j]
def BoxesAt (w : World) (g : Gh) (bx : Nat → Option (List D)) : Prop := ∀ i cs b, bx i = some cs → g.β i = some b → BoxIn w g b (g.mp i) cs
theorem BoxesAt.cells {i b : Nat} {cs : List D} (h : BoxesAt w g bx) (h1 : bx i = some cs) (h2 : g.β i = some b ∧ g.mp i = false) : ∃ vs t, w.heap[b]? = some (.cells vs.toArray t (0, 0)) ∧ R w g (.agg cs) vs := by
  have := h i cs b h1 h2.1
  rw [h2.2] at this
  exact this
theorem BoxIn.ext {g g' : Gh} {w w' : World} (e : Ext g w g' w') {b : Nat} {m : Bool} {cs : List D} (hb : w'.heap[b]? = w.heap[b]?) (h : BoxIn w g b m cs) : BoxIn w' g' b m cs := by
  cases m with
  | false => obtain ⟨vs, t, h1, h2⟩ := h; exact ⟨vs, t, hb.trans h1, h2.ext e⟩
  | true => obtain ⟨es, clock, h1, h2, h2', h3⟩ := h; exact ⟨es, clock, hb.trans h1, h2, h2', fun j hj => (h3 j hj).ext e⟩

theorem tyOf_some {t : TypeId} {y : Ty} (h : tyOf P t = some y) : ∃ i u, P.info? t = some i ∧ P.underlying t = some u ∧ y.sz = i.size ∧ y.agg = descAgg u ∧ y.zero = (i.zero.bind fun z => ofCells z.cells.toList) ∧
    y.flds = (match u with | .struct fs => fs.toList.map fun f => (f.offset, P.cellsOf f.type, (P.underlying f.type).any descAgg) | _ => []) ∧ y.bytes = i.bytes := by
  unfold tyOf at h
  split at h
  · rename_i i u h1 h2
    cases h
    exact ⟨i, u, h1, h2, rfl, rfl, rfl, rfl, rfl⟩
  · cases h

theorem addr_plus (b o j : Nat) : (⟨b, o, none⟩ : Addr).add j = ⟨b, o + j, none⟩ := by
  unfold Addr.add; split
  · rename_i h; subst h; rfl
  · rfl

theorem run_loadCellsFrom (b off : Nat) : ∀ (n i : Nat) (vs : List Value) (acc : Array Value), vs.length = n → (∀ m u, vs[m]? = some u → w.cell? ⟨b, off + (i + m), none⟩ = some u) → (loadCellsFrom ⟨b, off, none⟩ i n acc).run P w = .ok (acc ++ vs.toArray) w
  | 0, i, vs, acc, h, _ => by
    have : vs = [] := List.eq_nil_of_length_eq_zero h
    subst this
    simp [loadCellsFrom]
  | n + 1, i, v :: vs, acc, h, hc => by
    have h0 := hc 0 v rfl
    rw [Nat.add_zero] at h0
    have := run_loadCellsFrom b off n (i + 1) vs (acc.push v) (by simpa using h) (fun m u hu => by have := hc (m + 1) u (by simpa using hu); rwa [show i + (m + 1) = i + 1 + m from by omega] at this)
    simp only [loadCellsFrom, addr_plus]
    rw [Sem.run_bind]
    have hl : (load (⟨b, off + i, none⟩ : Addr)).run P w = .ok v w := by simp [go_sem, h0]
    rw [hl, Result.andThen_ok, this]
    simp

theorem run_isAgg {t : TypeId} {u : TypeDesc} (h : P.underlying t = some u) : (isAgg t).run P w = .ok (descAgg u) w := by
  unfold isAgg
  rw [Sem.run_bind, run_underlying h, Result.andThen_ok]
  cases u <;> rfl

theorem run_info {t : TypeId} {i : TypeInfo} (h : P.info? t = some i) : (typeInfo t).run P w = .ok i w := by
  unfold typeInfo; simp [go_sem, h]
theorem run_size {t : TypeId} {i : TypeInfo} (h : P.info? t = some i) : (sizeOf t).run P w = .ok i.size w := by
  unfold sizeOf; rw [Sem.run_bind, run_info h]; rfl

/-- a load, where the cells are known -/
theorem run_loadAt {t : TypeId} {y : Ty} (hy : tyOf P t = some y) {b off : Nat} {vs : List Value} (hl : vs.length = y.sz) (hc : ∀ m u, vs[m]? = some u → w.cell? ⟨b, off + m, none⟩ = some u) (h1 : y.agg = false → ∃ v, vs = [v]) :
    (Instr.loadAt t (.pointer (some ⟨b, off, none⟩))).run P w = .ok (if y.agg then .agg vs.toArray else vs.headD Go.undef) w := by
  obtain ⟨i, u, hi, hu, hs, ha, _, _, _⟩ := tyOf_some hy
  show ((Instr.sureAddr (.pointer (some ⟨b, off, none⟩))).bind fun a => loadVar t a).run P w = _
  show (loadVar t ⟨b, off, none⟩).run P w = _
  unfold loadVar
  rw [Sem.run_bind, run_isAgg hu, Result.andThen_ok, ← ha]
  cases hag : y.agg with
  | true =>
    simp only [if_true, Sem.run_bind]
    have e : (sizeOf t).run P w = .ok y.sz w := by rw [hs]; exact run_size hi
    rw [e, Result.andThen_ok]
    have := run_loadCellsFrom (P := P) (w := w) b off y.sz 0 vs #[] hl (fun m u hu => by rw [Nat.zero_add]; exact hc m u hu)
    simp only [loadCells, this, Result.andThen_ok, Sem.run_pure]
    simp
  | false =>
    obtain ⟨v, rfl⟩ := h1 hag
    have h0 := hc 0 v rfl
    rw [Nat.add_zero] at h0
    simp [go_sem, h0]

theorem aop_load {o : Oper} {t : TypeId} {a : Operand} {d : D} (ho : o.op = .load t a) (hb : BoxesAt w g bx) (hv : val w g (vals a) (ρ a)) (h : aop P vals bx o = some d) : Yields P w g ρ o d := by
  simp only [aop, ho] at h
  split at h
  · cases h
  · rename_i y hy
    have hx : (execOp ρ o) = (do let v ← Instr.loadAt t (ρ a); pure (.value v)) := by simp only [execOp, ho]
    split at h
    · rename_i i off hva
      rw [hva] at hv
      obtain ⟨b, hβ, hp⟩ := val_ptr hv
      split at h
      · cases h
      · rename_i cs hcs
        obtain ⟨vs, ty, hh, hr⟩ := hb.cells hcs hβ
        split at h
        · rename_i hle
          have hlen := R_agg_len hr
          have hsub := R_agg_sub hr off y.sz
          have hl : ((vs.drop off).take y.sz).length = y.sz := by simp; omega
          have hcell : ∀ m u, ((vs.drop off).take y.sz)[m]? = some u → w.cell? ⟨b, off + m, none⟩ = some u := by
            intro m u hu
            rw [List.getElem?_take] at hu
            split at hu
            · rw [List.getElem?_drop] at hu
              rw [cell_of_row w b (off + m) _ _ _ hh]
              simpa using hu
            · cases hu
          unfold mkD at h
          split at h
          · rename_i hag
            cases h
            have := run_loadAt (P := P) hy hl hcell (fun e => by rw [e] at hag; cases hag)
            refine ⟨_, by rw [hx, hp, Sem.run_bind, this, Result.andThen_ok]; rfl, ?_⟩
            rw [if_pos hag]
            exact val_of_agg hsub
          · rename_i hag
            split at h
            · rename_i d0 hd0
              split at h
              · cases h
              · rename_i hna
                cases h
                rw [hd0] at hsub
                obtain ⟨v, hv1⟩ : ∃ v, (vs.drop off).take y.sz = [v] := by
                  have := R_agg_len hsub
                  match hq : (vs.drop off).take y.sz, this with
                  | [v], _ => exact ⟨v, rfl⟩
                have := run_loadAt (P := P) hy hl hcell (fun _ => ⟨v, hv1⟩)
                refine ⟨_, by rw [hx, hp, Sem.run_bind, this, Result.andThen_ok]; rfl, ?_⟩
                rw [if_neg hag, hv1]
                rw [hv1] at hsub
                obtain ⟨_, r⟩ := R_agg_at hsub 0 (by simp)
                exact val_of_R r (by simpa using hna)
            · cases h
        · cases h
    · rename_i d0 hva
      rw [hva] at hv
      obtain ⟨b, off, cs, hp, hr, hc⟩ := val_elem hv
      split at h
      · rename_i hcond
        cases h
        have hl : cs.length = y.sz := by rw [hr.len]; exact hcond.2
        have := run_loadAt (P := P) (w := w) hy hl (fun m u hu => (hc m u hu).2) (fun e => by
          obtain ⟨v, hv1, _⟩ := hr.single (by rw [← hcond.1]; exact e)
          exact ⟨v, hv1⟩)
        refine ⟨_, by rw [hx, hp, Sem.run_bind, this, Result.andThen_ok]; rfl, ?_⟩
        refine val.of1 ⟨cs, hr, ?_⟩
        have hh := hcond.1
        clear hv hr hcond hva
        cases hag : y.agg with
        | true => rw [if_pos rfl]; rw [hag] at hh; cases d <;> first | rfl | simp [D.isAgg] at hh
        | false => rw [if_neg (by simp)]; rw [hag] at hh; cases d <;> first | rfl | simp [D.isAgg] at hh
      · cases h
    · cases h
end

end Go.Proofs.Ytjikokmhknnnoaa
