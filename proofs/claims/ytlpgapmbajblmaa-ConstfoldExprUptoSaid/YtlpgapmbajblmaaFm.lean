/- constfold.fold and Expr, walked in memory: what they hand back lies in new blocks. -/
import Derived.Test.YtlpgapmbajblmaaCpT
import Derived.Test.YtlpgapmbajblmaaEx
import Derived.Test.YtlpgapmbajblmaaPg3
namespace Go.Proofs.Ytlpgapmbajblmaa
open Go.RowKit Go.Shelf

theorem infoFold : (Try.prog.info? 59).map (fun i => (i.zero, i.size, i.bytes)) = some (some (.agg #[.int .u8 0, .int .i64 0, .string ⟨#[]⟩, .slice none 0 0, .int .i64 0, .bool false]), 6, 72) := by kernel_rfl
theorem undFolds : Try.prog.underlying 79 = some (.slice 59) := by kernel_rfl

def shFold : Sh Fo where
  n := 6
  R := fun w ok x cs => inr .i64 x.2.1 ∧ ∃ c0 c1 c2 c3, cs = [c0, c1, c2, c3, .int .i64 x.2.1, .bool x.2.2] ∧ RepP w ok x.1 (.agg #[c0, c1, c2, c3])
  len := fun h => by obtain ⟨_, c0, c1, c2, c3, rfl, _⟩ := h; rfl
  one := fun {w ok x cs} h u hu => by
    obtain ⟨_, c0, c1, c2, c3, rfl, h⟩ := h
    have h4 := fun u hu => shNode.one (w := w) (ok := ok) (x := x.1) (cs := [c0, c1, c2, c3]) h u hu
    simp only [List.mem_cons, List.not_mem_nil, or_false] at hu h4
    rcases hu with rfl | rfl | rfl | rfl | rfl | rfl
    · exact h4 _ (by simp)
    · exact h4 _ (by simp)
    · exact h4 _ (by simp)
    · exact h4 _ (by simp)
    · rfl
    · rfl
  keep := fun hB hk h => by
    obtain ⟨hi, c0, c1, c2, c3, rfl, h⟩ := h
    exact ⟨hi, c0, c1, c2, c3, rfl, RepP.keep hB hk _ h⟩

/-- append(v, x) of one folded node: x lies in a new block of its own -/
theorem wpList_append_fold {ops : Array Oper} {rest : List Oper} {o : Oper} {a : Act} {Q : Exit → Act → World → Prop} (hgd : o.guard = none) (s x : Operand)
    (ho : o.op = .call { callee := .builtin .append, args := #[s, x], argTypes := #[79, 79] })
    (w : World) (base : Nat) (v : Value) (ts : List Fo) (t : Fo) (c0 c1 c2 c3 c4 c5 : Value) (hs : a.eval s = v) (hx : a.eval x = .slice (some ⟨w.heap.size, 0, none⟩) 1 1)
    (hO : OwnS shFold 59 w base v ts) (hr : shFold.R w (fun b => base ≤ b ∧ b < w.heap.size ∧ v.ownBlock ≠ some b) t [c0, c1, c2, c3, c4, c5]) (hlen : ts.length + 1 ≤ 1000000) (hbase : base ≤ w.heap.size)
    (h : ∀ v' w', OwnS shFold 59 w' base v' (ts ++ [t]) → (w.alloc (.cells #[c0, c1, c2, c3, c4, c5] 59)).grownBy w' v.ownBlock → (∀ g, v'.ownBlock = some g → base ≤ g) → wpList Try.prog ops Q rest (a.put o.dst v') w') :
    wpList Try.prog ops Q (o :: rest) a (w.alloc (.cells #[c0, c1, c2, c3, c4, c5] 59)) := by
  obtain ⟨i0, hi0, hz0, hz1, hz2⟩ := info_parts infoFold
  obtain ⟨xs, hown, hc⟩ := hO
  have hone : ∀ u ∈ [c0, c1, c2, c3, c4, c5], u.oneCell' = true := fun u hu => shFold.one hr u hu
  refine wpList_append_own_at _ hgd s x _ ho base 59 i0 _ 6 72 undFolds hi0 hz0 hz1 hz2 rfl (by omega) v ts.length xs hs (hown.alloc _) ⟨w.heap.size, 0, none⟩ 1 1 [c0, c1, c2, c3, c4, c5] hx rfl ?_ hone
    (by simp only [maxLen]; omega) (by omega) (by simp; omega) ?_
  · intro j u hu
    have hadd : (⟨w.heap.size, 0, none⟩ : Addr).add j = ⟨w.heap.size, j, none⟩ := by unfold Addr.add; split <;> simp_all
    rw [hadd, cell_of_row _ _ _ _ _ _ (heap_alloc_new w _)]
    simpa using hu
  · intro v' w' hown' hg _ hat
    have hsz := hg.size
    simp only [World.size_alloc] at hsz
    have hsame : ∀ b o, base ≤ b ∧ b < w.heap.size ∧ v.ownBlock ≠ some b → w'.cell? ⟨b, o, none⟩ = w.cell? ⟨b, o, none⟩ := by
      intro b o hb
      have h1 : w'.cell? ⟨b, o, none⟩ = (w.alloc (.cells #[c0, c1, c2, c3, c4, c5] 59)).cell? ⟨b, o, none⟩ := World.cell?_of_block (hg.block b (by simp; omega) (fun e => hb.2.2 e.symm))
      rw [h1]
      exact World.cell?_alloc_lt w _ ⟨b, o, none⟩ hb.2.1
    refine h v' w' ⟨xs ++ [c0, c1, c2, c3, c4, c5], by rw [List.length_append]; exact hown', ?_⟩ hg (fun g hgg => (hown'.lt g hgg).1)
    refine (hc.append (CellsS.one hr)).keep (fun b hb => ⟨hb.1, by omega, fun e => ?_⟩) hsame
    rcases hat with e' | e'
    · rw [e'] at e; exact hb.2.2 e
    · rw [e'] at e
      simp only [World.size_alloc, Option.some.injEq] at e
      omega

/-- a call that folds a node: what it hands back lies in new blocks -/
def MakesF (t : Tr) (w : World) (e : Ending) (w' : World) : Prop :=
  ∃ c0 c1 c2 c3, e = .returned (.agg #[c0, c1, c2, c3, .int .i64 (foldT t).2.1, .bool (foldT t).2.2]) ∧ inr .i64 (foldT t).2.1 ∧ RepP w' (fun b => w.heap.size ≤ b ∧ b < w'.heap.size) (foldT t).1 (.agg #[c0, c1, c2, c3]) ∧ Below w.heap.size w w'

set_option maxRecDepth 100000 in
set_option maxHeartbeats 2000000 in
theorem each_mem (c : List Tr) (ih : ∀ t, t ∈ c → ∀ v w, Rep w w.heap.size t v → Calls Try.prog 38 #[v] w (MakesF t w)) (A : Option Addr) (cap : Nat) (w : World) (_hl : c.length ≤ cap) (_hcap : cap ≤ 9223372036854775807) (hlen : c.length ≤ 1000000) (hrow : RepRow w w.heap.size c A 0) :
    Calls Try.prog 65 #[.slice A c.length cap, .func (.func 38) #[] #[]] w fun e w' => ∃ v', e = .returned v' ∧ OwnS shFold 59 w' w.heap.size v' (c.map foldT) ∧ Below w.heap.size w w' := by
  have HR := Lib.hid hrow
  have IH := Lib.hid ih
  clear hrow ih
  go_enter Try.func65, Try.ntmps65
  go_wp2_with fail
  go_loopw [5, 10] (fun s5 s10 wr => ∃ i : Nat, i ≤ c.length ∧ s10 = .int .i64 i ∧ OwnS shFold 59 wr w.heap.size s5 ((c.take i).map foldT) ∧ Below w.heap.size w wr)
    (fun _ s10 _ => c.length - (intOf s10).toNat)
  case atStart => exact ⟨0, Nat.zero_le _, rfl, OwnS.nil _ _, Below.refl _ _⟩
  case round =>
    obtain ⟨i, hi, rfl, hown, hb⟩ := hrel
    have hws := hb.size
    by_cases hlt : i < c.length
    · obtain ⟨b, off, A', cap', rfl, hbB, h0, h1, h2, h3, hk⟩ := (HR.out.below hb).kid i hlt
      have hmem : c[i] ∈ c := List.getElem_mem hlt
      have HO := Lib.hid hown
      have HB := Lib.hid hb
      clear hown hb
      go_wp2_with fail
      refine (IH.out _ hmem _ _ (hk.alloc hws _)).mono ?_
      rintro e w1 ⟨d0, d1, d2, d3, rfl, hin, hr1, hb1⟩
      have hbw1 : Below wr.heap.size wr w1 := ((Below.refl _ wr).alloc (Nat.le_refl _) _).trans (hb1.mono (by simp))
      have hs1 := hb1.size
      simp only [World.size_alloc] at hs1
      have HO1 := Lib.hid (HO.out.below hbw1)
      have HLT := Lib.hid HO.out.lt
      have HR1 := Lib.hid (show shFold.R w1 (fun b => w.heap.size ≤ b ∧ b < w1.heap.size ∧ Value.ownBlock u5 ≠ some b) (foldT c[i]) [d0, d1, d2, d3, .int .i64 (foldT c[i]).2.1, .bool (foldT c[i]).2.2] from
        ⟨hin, d0, d1, d2, d3, rfl, hr1.weak (fun b hb' => by
          have h1 := hb'.1
          simp only [World.size_alloc] at h1
          exact ⟨by omega, hb'.2, fun e => by have := (HLT.out _ e).2; omega⟩)⟩)
      have HB1 := Lib.hid hbw1
      have hlen1 : ((c.take i).map foldT).length + 1 ≤ 1000000 := by simp; omega
      clear hr1 hbw1 hb1
      go_wp2_with (at_builtin; (refine wpList_append_fold rfl (.tmp 14) (.tmp 18) rfl w1 w.heap.size u5 ((c.take i).map foldT) (foldT c[i]) _ _ _ _ _ _ rfl rfl HO1.out HR1.out hlen1 (by omega) ?_); intro v2 w2 hO2 hg2 hge2)
      have hb2 : Below w.heap.size wr w2 := by
        have h1 : Below w.heap.size wr (w1.alloc (.cells #[d0, d1, d2, d3, .int .i64 (foldT c[i]).2.1, .bool (foldT c[i]).2.2] 59)) := (HB1.out.mono hws).alloc (by omega) _
        exact h1.grown hg2 (by simp; omega) (fun g e => (HLT.out g e).1)
      have hb3 := HB.out.trans hb2
      have HT := Lib.hid (show (c.take (i + 1)).map foldT = (c.take i).map foldT ++ [foldT c[i]] by rw [Tr.take_snoc c i hlt, List.map_append]; rfl)
      rw [← HT.out] at hO2
      clear hg2 hge2
      go_roundw
      case rel => exact ⟨i + 1, by omega, by go_num, hO2, hb3⟩
      case measure => simp [intOf]; omega
    · obtain rfl : i = c.length := by omega
      rw [List.take_length] at hown
      have HO := Lib.hid hown
      have HB := Lib.hid hb
      clear hown hb
      go_wp2_with fail
      go_ret
      exact ⟨_, rfl, HO.out, HB.out⟩

theorem repP_of_R {w : World} {g : Gh} {ok : Nat → Prop} (hB : ∀ b o, g.ok b o → ok b) (t : Tr) : ∀ {cs : List Value}, R w g (dN t) cs → RepP w ok t (.agg cs.toArray) := by
  induction t using Tr.ind with
  | h k n s c ih =>
    intro cs h
    rw [dN_eq] at h
    have hl := R_agg_len h
    match cs, hl with
    | [c0, c1, c2, c3], _ =>
      obtain ⟨_, r0⟩ := R_agg_at h 0 (by simp)
      obtain ⟨_, r1⟩ := R_agg_at h 1 (by simp)
      obtain ⟨_, r2⟩ := R_agg_at h 2 (by simp)
      obtain ⟨_, r3⟩ := R_agg_at h 3 (by simp)
      obtain ⟨e0, i0⟩ := R_int r0
      obtain ⟨e1, i1⟩ := R_int r1
      obtain ⟨e2, i2⟩ := R_str r2
      have v3 : val w g (.slice .imm (if (c.map dN).isEmpty then 0 else 4) (c.map dN)) c3 := val_of_R r3 rfl
      obtain ⟨A, cap, cs', hv, hle, hm, _, _, _, hr, hn, hc⟩ := val_slice v3
      simp only [List.getElem_cons_zero, List.getElem_cons_succ, List.cons.injEq, and_true, Tr.kind, Tr.num, Tr.name, List.length_map] at e0 e1 e2 hv hle hr hn hc
      subst e0 e1 e2 hv
      simp only [RepP]
      simp only [inr, Tr.kind, Tr.num, IntKind.min, IntKind.max, IntKind.bits, IntKind.signed] at i0 i1
      refine ⟨A, cap, rfl, ⟨by simp at i0; omega, by simp at i0; omega, by simp at i1; omega, by simp at i1; omega, i2, hle, hm⟩, rowP_of fun j hj => ?_⟩
      have hne : (if (c.map dN).isEmpty = true then 0 else 4) = 4 := sl_n (j := j) (by simpa using hj)
      obtain ⟨b, off, hA, hcl⟩ := hc j hj
      have hR := hr j hj
      rw [List.getElem_map] at hR
      have hrep := ih c[j] (List.getElem_mem hj) hR
      have hlen := hn j hj
      rw [hne] at hlen hcl
      rw [Nat.zero_add]
      match hq : cs' j, hlen with
      | [d0, d1, d2, d3], _ =>
        rw [hq] at hcl hrep
        have q0 := hcl 0 d0 rfl
        have q1 := hcl 1 d1 rfl
        have q2 := hcl 2 d2 rfl
        have q3 := hcl 3 d3 rfl
        exact ⟨b, off, d0, d1, d2, d3, hA, hB _ _ q0.1, by simpa using q0.2, q1.2, q2.2, q3.2, hrep⟩
theorem rowP_of_val {w : World} {g : Gh} {ok : Nat → Prop} (hB : ∀ b o, g.ok b o → ok b) {c : List Tr} {v : Value} (h : val w g (sl 4 (c.map dN)) v) : ∃ (A : Option Addr) (cap : Nat), v = .slice A c.length cap ∧ c.length ≤ cap ∧ cap ≤ 9223372036854775807 ∧ RowP w ok c A 0 := by
  obtain ⟨A, cap, cs', hv, hle, hm, _, _, _, hr, hn, hc⟩ := val_slice (show val w g (.slice .imm (if (c.map dN).isEmpty then 0 else 4) (c.map dN)) v from h)
  simp only [List.length_map] at hv hle hr hn hc
  refine ⟨A, cap, hv, hle, hm, rowP_of fun j hj => ?_⟩
  have hne : (if (c.map dN).isEmpty = true then 0 else 4) = 4 := sl_n (j := j) (by simpa using hj)
  obtain ⟨b, off, hA, hcl⟩ := hc j hj
  have hR := hr j hj
  rw [List.getElem_map] at hR
  have hrep := repP_of_R hB c[j] hR
  have hlen := hn j hj
  rw [hne] at hlen hcl
  rw [Nat.zero_add]
  match hq : cs' j, hlen with
  | [d0, d1, d2, d3], _ =>
    rw [hq] at hcl hrep
    have q0 := hcl 0 d0 rfl
    have q1 := hcl 1 d1 rfl
    have q2 := hcl 2 d2 rfl
    have q3 := hcl 3 d3 rfl
    exact ⟨b, off, d0, d1, d2, d3, hA, hB _ _ q0.1, by simpa using q0.2, q1.2, q2.2, q3.2, hrep⟩
/-- a row of folded nodes in memory reads as its datum -/
theorem val_of_folds {w : World} {ok : Nat → Prop} {g : Gh} (hg : ∀ b o, ok b → g.ok b o) {f : List Fo} {v : Value} (h : SliceS shFold w ok v f) : val w g (sl 6 (f.map dF)) v := by
  obtain ⟨A, cap, rfl, h1, h2, _, hc⟩ := h
  have hk : ∀ j, ∃ q : List Value, ∀ hj : j < f.length, ∃ b off, A = some ⟨b, off, none⟩ ∧ q.length = 6 ∧ R w g (dF f[j]) q ∧ ∀ m u, q[m]? = some u → g.ok b (off + j * 6 + m) ∧ w.cell? ⟨b, off + j * 6 + m, none⟩ = some u := by
    intro j
    by_cases hj : j < f.length
    · obtain ⟨b, off, cs, hA, hb, hcell, hin, c0, c1, c2, c3, rfl, hr⟩ := hc j hj
      refine ⟨_, fun _ => ⟨b, off, hA, rfl, ?_, fun m u hu => ⟨hg b _ hb, hcell m u hu⟩⟩⟩
      have hR := R_of_rep (cs := [c0, c1, c2, c3]) hg f[j].1 hr
      rw [dN_eq] at hR
      exact R_agg_append hR (R_agg_of (l := [.int .i64 f[j].2.1, .bool f[j].2.2]) (vs := [.int .i64 f[j].2.1, .bool f[j].2.2]) rfl (fun m q1 q2 => by
        match m, q1 with
        | 0, _ => exact .int _ _ hin
        | 1, _ => exact .bool _
        | m + 2, q1 => simp at q1; omega))
    · exact ⟨[], fun h => absurd h hj⟩
  have key := R.slice (w := w) (g := g) .imm (if (f.map dF).isEmpty then 0 else 6) (f.map dF) A cap (fun j => Classical.choose (hk j)) (by simpa using h1) h2 (fun _ _ q => by cases q) trivial trivial
    (fun j hj => by
      have hj' : j < f.length := by simpa using hj
      obtain ⟨b, off, _, _, q3, _⟩ := Classical.choose_spec (hk j) hj'
      rw [List.getElem_map]; exact q3)
    (fun j hj => by
      have hj' : j < f.length := by simpa using hj
      obtain ⟨b, off, _, q2, _, _⟩ := Classical.choose_spec (hk j) hj'
      rw [sl_n (j := j) hj]; exact q2)
    (fun j hj => by
      have hj' : j < f.length := by simpa using hj
      obtain ⟨b, off, q1, _, _, q4⟩ := Classical.choose_spec (hk j) hj'
      rw [sl_n (j := j) hj]
      exact ⟨b, off, q1, q4⟩)
  exact val_of_R (by simpa [sl] using key) rfl
/-- cells of blocks alone are known -/
def gB (ok : Nat → Prop) : Gh := ⟨fun b _ => ok b, fun _ => none, fun _ => none, fun _ => False, fun _ _ => False, fun _ => false, fun _ => False⟩
/-- a contract over data, where the data lie in known blocks: the answer lies there or in new blocks -/
theorem calls_of_fn {k : Nat} {args : List D} {d : D} (h : fn EV k args = some d) {ok : Nat → Prop} {w : World} (hok : ∀ b, ok b → b < w.heap.size) {vs : List Value} (hv : vals w (gB ok) args vs) :
    Calls Try.prog k vs.toArray w fun e w' => ∃ v g', e = .returned v ∧ Below w.heap.size w w' ∧ val w' g' d v ∧ ∀ b o, g'.ok b o → ok b ∨ (w.heap.size ≤ b ∧ b < w'.heap.size) := by
  refine (fn_sound EV EV_ok h (gB ok) vs w ⟨fun b o q => hok b q, fun b q => q.elim, fun _ _ q => q.elim⟩ hv).mono ?_
  rintro e w' ⟨v, g', rfl, hb, hg, hd⟩
  exact ⟨v, g', rfl, hb, hd, hg.ok2⟩

end Go.Proofs.Ytlpgapmbajblmaa
