/- The layer scope over data: reports, visit, Check. -/
import Derived.Test.YthgdibdapjaljaaSc1
import Derived.Test.YthgdibdapjaljaaVa4
namespace Go.Proofs.Ythgdibdapjaljaa
open Go.RowKit

structure Ft where
 proc : Int
 path : List Int
 err : Int
 name : ByteArray
def dFt (f : Ft) : D := .agg [.int .i64 f.proc, sl 1 (f.path.map dI), .int .i64 f.err, .str f.name]
theorem dFt_strip (f : Ft) : (dFt f).strip = dFt f := by
 unfold dFt
 simp only [D.strip, D.strips, sl_strip (map_strip (f := dI) (fun _ => rfl) _)]
theorem dFt_under (m : Nat) (f : Ft) : (dFt f).under m = true := by
 unfold dFt
 simp only [D.under, D.unders, sl_under (map_under (f := dI) (fun _ => rfl) _), Bool.and_true]
def rep (pr : Int) (path : List Int) (err : Int) (name : ByteArray) : List Ft := if err = 0 then [] else [⟨pr, path, err, name⟩]
def UnB (B : List (List D)) : Prop := B.all (D.unders B.length) = true
theorem unB_set {B : List (List D)} (h : UnB B) (b : Nat) {o : Own} {n : Nat} {L : List Ft} : UnB (B.set b [.slice o n (L.map dFt)]) := by
 unfold UnB at h ⊢
 rw [List.all_eq_true] at h ⊢
 intro x hx
 rw [List.length_set]
 rcases List.mem_or_eq_of_mem_set hx with q | q
 ·exact h x q
 ·rw [q]; simp only [D.unders, D.under, unders_id dFt_under, Bool.and_true]
theorem unB_app {B Y : List (List D)} (h : UnB B) (hY : Free Y) : UnB (B ++ Y) := by
 unfold UnB at h ⊢
 rw [List.all_eq_true] at h ⊢
 intro x hx
 rcases List.mem_append.1 hx with q | q
 ·exact D.unders_le (by simp) x (h x q)
 ·exact hY x q _
theorem fn_strip {E : Env} {k : Nat} {args args' : List D} (h : plain args = true) (h' : plain args' = true) (e : args.map D.strip = args'.map D.strip) : fn E k args = fn E k args' := by
 unfold fn pureWith
 unfold plain at h h'
 rw [if_pos h, if_pos h', e]
/-- a path, whoever owns it -/
structure IsP (pa : D) (path : List Int) : Prop where
 u : pa.under 0 = true
 g : pa.good = true
 s : pa.strip = sl 1 (path.map dI)
theorem IsP.sl (path : List Int) : IsP (sl 1 (path.map dI)) path := ⟨sl_under (map_under (f := dI) (fun _ => rfl) _), rfl, sl_strip (map_strip (f := dI) (fun _ => rfl) _)⟩
theorem IsP.nil : IsP (.slice .nil 0 []) [] := ⟨rfl, rfl, rfl⟩
/-- the boxes behind a report: the base, in which the faults lie, and boxes that point nowhere -/
def Bx (B0 : List (List D)) (fb : Nat) (L : List Ft) (o : Own) (n : Nat) (Y B : List (List D)) : Prop := B = B0.set fb [.slice o n (L.map dFt)] ++ Y ∧ Free Y
theorem Bx.len {B0 : List (List D)} {fb : Nat} {L : List Ft} {o : Own} {n : Nat} {Y B : List (List D)} (h : Bx B0 fb L o n Y B) : B.length = B0.length + Y.length := by rw [h.1]; simp
theorem Bx.snoc {B0 : List (List D)} {fb : Nat} {L : List Ft} {o : Own} {n : Nat} {Y B : List (List D)} (h : Bx B0 fb L o n Y B) {X : List (List D)} (hX : Free X) : Bx B0 fb L o n (Y ++ X) (B ++ X) := by
 refine ⟨by rw [h.1, zaa], fun c hc m => ?_⟩
 rcases List.mem_append.1 hc with q | q
 ·exact h.2 c q m
 ·exact hX c q m
theorem Bx.take {B0 : List (List D)} {fb : Nat} {L : List Ft} {o : Own} {n : Nat} {Y X B : List (List D)} (h : Bx B0 fb L o n (Y ++ X) B) : Bx B0 fb L o n Y (B.take (B0.length + Y.length)) := by
 refine ⟨?_, fun c hc m => h.2 c (List.mem_append_left _ hc) m⟩
 rw [h.1, ← zaa, List.take_append_of_le_length (by simp), List.take_of_length_le (by simp)]
theorem Bx.un {B0 : List (List D)} {fb : Nat} {L : List Ft} {o : Own} {n : Nat} {Y B : List (List D)} (h : Bx B0 fb L o n Y B) (h0 : UnB B0) : UnB B := by
 rw [h.1]; exact unB_app (unB_set h0 fb) h.2
theorem Bx.inf {B0 : List (List D)} {fb : Nat} {L : List Ft} {o : Own} {n : Nat} {Y B : List (List D)} (h : Bx B0 fb L o n Y B) (hl : fb < B0.length) : B[fb]? = some [.slice o n (L.map dFt)] := by
 rw [h.1, List.getElem?_append_left (by simpa using hl), List.getElem?_set_self (by simpa using hl)]
theorem Bx.set {B0 : List (List D)} {fb : Nat} {L L' : List Ft} {o o' : Own} {n n' : Nat} {Y B : List (List D)} (h : Bx B0 fb L o n Y B) (hl : fb < B0.length) : Bx B0 fb L' o' n' Y (B.set fb [.slice o' n' (L'.map dFt)]) := by
 refine ⟨?_, h.2⟩
 rw [h.1, List.set_append_left _ _ (by simpa using hl), List.set_set]
def Grow (B0 : List (List D)) (fb : Nat) (L : List Ft) (Y : List (List D)) (d : D) (B' : List (List D)) (_nx' : Nat) (lv' : List Nat) : Prop := d = .tup [] ∧ ∃ o' n', Bx B0 fb L o' n' Y B' ∧ Acc 88 4 o' n' (L.map dFt) lv'
/-- a function that takes reports -/
structure Rpt (k : Nat) (caps : List D) (B0 : List (List D)) (fb : Nat) (pr : Int) : Prop where
 any : (Try.prog.funcs[k]?).any (fun fn => fn.body.isSome && fn.name != "runtime.NumGoroutine") = true
 np : D.unders 0 caps = false
 lt : fb < B0.length
 un : UnB B0
 call : ∀ (pa : D) (path : List Int) (name : ByteArray) (err : Int) (B Y : List (List D)) (nx : Nat) (lv : List Nat) (o : Own) (n : Nat) (L : List Ft), IsP pa path → path.length ≤ 1000000 → L.length ≤ 1000000 → Bx B0 fb L o n Y B → Acc 88 4 o n (L.map dFt) lv →
  ∃ d B' nx' lv', (∀ fr, cal EV k (pa :: .str name :: .int .i64 err :: caps) ⟨fr, B, nx, lv⟩ = some (d, ⟨fr, B', nx', lv'⟩)) ∧ Grow B0 fb (L ++ rep pr path err name) Y d B' nx' lv'
theorem Free.app {A B : List (List D)} (h : Free A) (h' : Free B) : Free (A ++ B) := by
 intro c hc m
 rcases List.mem_append.1 hc with q | q
 ·exact h c q m
 ·exact h' c q m
theorem Free.nil : Free [] := fun c hc => by simp at hc
end Go.Proofs.Ythgdibdapjaljaa
