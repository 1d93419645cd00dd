/- append, boxes, rows, stores: the operations run. Over any program. -/
import Derived.Test.YtjikokmhknnnoaaAmEff
namespace Go.Proofs.Ytjikokmhknnnoaa
open Go.RowKit

section
variable {P : Program} {base : Nat} {w0 : World} {ok0 : Gh} {g : Gh} {bx : Nat → Option (List D)} {K lv : Nat → Prop} {w w' : World} {ρ : Operand → Value} {o : Oper}

set_option maxHeartbeats 1000000 in
theorem append_sound (h : RW P base w0 ok0 g bx K lv w) {t ty e : TypeId} {i : TypeInfo} {z : Value} (hu : P.underlying t = some (.slice e)) (hi : P.info? e = some i) (hz : i.zero = some z) (hzs : z.cells.size = i.size) (hpos : 0 < i.size)
    {q q2 : Own} {n s : Nat} {l l2 : List D} {v x : Value} (hv : val w g (.slice q n l) v) (hx : val w g (.slice q2 i.size l2) x) (hl2 : l2 ≠ []) (hq : (q = .nil ∧ l = []) ∨ (∃ st, q = .own st e ∧ lv st ∧ n = i.size) ∨ (q = .clip ∧ (l = [] ∨ n = i.size))) (hs : ¬ K s)
    (h63 : l.length + l2.length ≤ maxLen) (hby : (l.length + l2.length) * i.bytes ≤ 140737488355328) :
    ∃ v' w' g', (Builtin.append_ #[t, t] ty #[v, x]).run P w = .ok v' w' ∧ RW P base w0 ok0 g' bx (fun j => K j ∨ j = s) (fun j => (lv j ∧ q ≠ .own j e) ∨ j = s) w' ∧ Ext g w g' w' ∧ val w' g' (.slice (.own s e) i.size (l ++ l2)) v' := by
  have hsz : P.cellsOf e = i.size := by unfold Program.cellsOf; rw [hi]; rfl
  obtain ⟨A, cap, cs, rfl, hlc, hm, how, hnil, hA, hr, hn, hc⟩ := val_slice hv
  obtain ⟨A2, cap2, cs2, rfl, hlc2, hm2, _, _, hA2, hr2, hn2, hc2⟩ := val_slice hx
  have hlen2 : 0 < l2.length := List.length_pos_iff.2 hl2
  obtain ⟨b2, off2, rfl, _⟩ := hc2 0 hlen2
  -- the new cells
  have hnl := flat_len cs2 i.size l2.length 0 (fun k _ hk => hn2 k (by omega))
  have hnews : ∀ k u, ((List.range' 0 l2.length).flatMap cs2)[k]? = some u → w.cell? ((⟨b2, off2, none⟩ : Addr).add k) = some u := by
    intro k u hk
    have hlt := (List.getElem?_eq_some_iff.1 hk).1
    rw [hnl] at hlt
    obtain ⟨j, r, hj, hr', rfl⟩ := flat_split hlt
    rw [flat_at cs2 i.size l2.length 0 j r (fun k _ hk => hn2 k (by omega)) hj hr', Nat.zero_add] at hk
    obtain ⟨b', off', e', hcl⟩ := hc2 j hj
    cases e'
    rw [addr_plus, ← Nat.add_assoc]
    exact (hcl r u hk).2
  have hone : ∀ u ∈ (List.range' 0 l2.length).flatMap cs2, u.oneCell' = true := by
    intro u hu'
    obtain ⟨k, _, hk, hu''⟩ := flat_mem cs2 hu'
    exact (hr2 k (by omega)).one u hu''
  -- what is left to show, whichever way
  have fin : ∀ (v' : Value) (w' : World) (g1 : Gh) (xs : List Value) (lv1 : Nat → Prop), RW P base w0 ok0 g1 bx K lv1 w' → Ext g w g1 w' → w'.ownsRow base e i.size v' (l.length + l2.length) (xs ++ (List.range' 0 l2.length).flatMap cs2) →
      (∀ b, v'.ownBlock = some b → (∀ o, g1.ok b o ↔ o < (l.length + l2.length) * i.size) ∧ (∀ j, g1.β j ≠ some b) ∧ (∀ s' y, lv1 s' → g1.ow s' = some y → y.1.ownBlock ≠ some b) ∧ ¬ g1.pr b ∧ ¬ g1.kp b) → (∀ j, (lv j ∧ q ≠ .own j e) → lv1 j) →
      xs.length = l.length * i.size → (∀ j r u, j < l.length → (cs j)[r]? = some u → xs[j * i.size + r]? = some u) → (l ≠ [] → n = i.size) →
      ∃ g', RW P base w0 ok0 g' bx (fun j => K j ∨ j = s) (fun j => (lv j ∧ q ≠ .own j e) ∨ j = s) w' ∧ Ext g w g' w' ∧ val w' g' (.slice (.own s e) i.size (l ++ l2)) v' := by
    intro v' w' g1 xs lv1 hw1 e1 ho hk hlv1 hxl hxs hne
    obtain ⟨h2, e2⟩ := hw1.addRow (s := s) (v := v') (e := e) hs (by rw [hsz]; exact ho) (fun b hb => by
      obtain ⟨k1, k2, k3, k4⟩ := hk b hb
      exact ⟨fun o q => by rw [hsz]; exact (k1 o).1 q, k2, k3, k4⟩)
    refine ⟨_, h2.drop (fun j q => q.imp (hlv1 j) id), e1.trans e2, ?_⟩
    refine own_slice (base := base) (xs := xs ++ (List.range' 0 l2.length).flatMap cs2) (cs := fun j => if j < l.length then cs j else cs2 (j - l.length)) (by rw [List.length_append]; exact ho) (by show (if s = s then _ else _) = _; rw [if_pos rfl]) ?_ ?_ ?_ ?_ (.inl (by simp [hl2]))
    · intro b hb o ho'
      rw [List.length_append] at ho'
      exact ((hk b hb).1 o).2 ho'
    · intro j hj
      by_cases hjl : j < l.length
      · rw [if_pos hjl, List.getElem_append_left hjl]; exact (hr j hjl).ext (e1.trans e2)
      · rw [if_neg hjl, List.getElem_append_right (by omega)]
        exact (hr2 _ (by rw [List.length_append] at hj; omega)).ext (e1.trans e2)
    · intro j hj
      by_cases hjl : j < l.length
      · rw [if_pos hjl, hn j hjl]; exact hne (fun e => by rw [e] at hjl; simp at hjl)
      · rw [if_neg hjl]; exact hn2 _ (by rw [List.length_append] at hj; omega)
    · intro j r u hj hu'
      by_cases hjl : j < l.length
      · rw [if_pos hjl] at hu'
        have := hxs j r u hjl hu'
        rw [List.getElem?_append_left (List.getElem?_eq_some_iff.1 this).1]; exact this
      · rw [if_neg hjl] at hu'
        have hj2 : j - l.length < l2.length := by rw [List.length_append] at hj; omega
        have hr' : r < i.size := by rw [← hn2 _ hj2]; exact (List.getElem?_eq_some_iff.1 hu').1
        have e4 : j * i.size = l.length * i.size + (j - l.length) * i.size := by rw [← Nat.add_mul]; congr 1; omega
        rw [List.getElem?_append_right (by rw [hxl]; omega), hxl, show j * i.size + r - l.length * i.size = (j - l.length) * i.size + r from by omega,
          flat_at cs2 i.size l2.length 0 _ r (fun k _ hk => hn2 k (by omega)) hj2 hr', Nat.zero_add]
        exact hu'
  -- a new row
  have fresh : ∀ (v' : Value) (w' : World) (xs : List Value), w.grownBy w' none → w'.ownsRow base e i.size v' (l.length + l2.length) (xs ++ (List.range' 0 l2.length).flatMap cs2) → (∀ b, v'.ownBlock = some b → w.heap.size ≤ b) →
      xs.length = l.length * i.size → (∀ j r u, j < l.length → (cs j)[r]? = some u → xs[j * i.size + r]? = some u) → (l ≠ [] → n = i.size) →
      ∃ g', RW P base w0 ok0 g' bx (fun j => K j ∨ j = s) (fun j => (lv j ∧ q ≠ .own j e) ∨ j = s) w' ∧ Ext g w g' w' ∧ val w' g' (.slice (.own s e) i.size (l ++ l2)) v' := by
    intro v' w' xs hg ho hnew hxl hxs hne
    have hb : Below w.heap.size w w' := ⟨hg.os, hg.tape, hg.output, hg.size, fun k hk => hg.block k hk (by simp)⟩
    obtain ⟨h1, e1⟩ := h.grow hb (ok' := fun b o => g.ok b o ∨ (v'.ownBlock = some b ∧ o < (l.length + l2.length) * i.size)) (fun _ _ q => .inl q) (fun b o q => q.imp id (fun q => ⟨hnew b q.1, (ho.lt b q.1).2⟩))
    refine fin v' w' _ xs lv h1 e1 ho (fun b hb' => ⟨fun o => ⟨fun q => ?_, fun q => .inr ⟨hb', q⟩⟩, fun j q => ?_, fun s' y hs' hy q => ?_, fun q => ?_, fun q => ?_⟩) (fun j q => q.1) hxl hxs hne
    · rcases q with q | q
      · have := h.ok_lt q; have := hnew b hb'; omega
      · exact q.2
    · have := (h.dom j b q).2.2.1; have := hnew b hb'; omega
    · obtain ⟨v2, e2, len, ys, q1, q2, _⟩ := h.row s' hs'
      have hy' : g.ow s' = some y := hy
      rw [hy'] at q1
      cases q1
      have := (q2.lt _ q).2; have := hnew b hb'; omega
    · have := (h.prot b q).1; have := hnew b hb'; omega
    · have := (h.kept b q).1; have := hnew b hb'; omega
  -- nothing there yet
  have hnilcase : A = none → cap = 0 → l = [] → ∃ v' w' g', (Builtin.append_ #[t, t] ty #[.slice A l.length cap, .slice (some ⟨b2, off2, none⟩) l2.length cap2]).run P w = .ok v' w' ∧ RW P base w0 ok0 g' bx (fun j => K j ∨ j = s) (fun j => (lv j ∧ q ≠ .own j e) ∨ j = s) w' ∧ Ext g w g' w' ∧ val w' g' (.slice (.own s e) i.size (l ++ l2)) v' := by
    intro hA0 hc0 hl0
    subst hA0
    subst hl0
    subst hc0
    obtain ⟨v', w', hrun, ho, hg, hiff, hat⟩ := run_append_own_at (P := P) w base t ty e i z i.size i.bytes hu hi hz rfl rfl hzs hpos (.slice none 0 0) 0 [] (World.ownsRow_nil w base e i.size) ⟨b2, off2, none⟩ l2.length cap2 _ hnl hnews hone (by simpa using h63) (by simpa using hby) h.hbs
    obtain ⟨g', r1, r2, r3⟩ := fresh v' w' [] hg (by simpa using ho) (fun b hb => by
      rcases hat with q | q
      · rw [hb] at q; cases q
      · rw [hb] at q; cases q; exact Nat.le_refl _) (by simp) (fun j r u hj => absurd hj (Nat.not_lt_zero _)) (fun e => absurd rfl e)
    exact ⟨v', w', g', hrun, r1, r2, r3⟩
  rcases hq with ⟨rfl, rfl⟩ | ⟨st, rfl, hst, rfl⟩ | ⟨rfl, hn0⟩
  · exact hnilcase hnil.1 hnil.2 rfl
  · have how' := how st e rfl
    obtain ⟨v1, e1, len, xs, q1, q2, q3⟩ := h.row st hst
    rw [how'] at q1
    cases q1
    rw [hsz] at q2 q3
    have q2' := q2
    rcases q2.2 with ⟨hv0, hl0⟩ | ⟨b, cap', cur, hve, hbb, hg, hnc, hcm, hcs, htake⟩
    · simp only [Value.slice.injEq] at hv0
      exact hnilcase hv0.1 hv0.2.2 (List.eq_nil_of_length_eq_zero hv0.2.1)
    · simp only [Value.slice.injEq] at hve
      obtain ⟨rfl, hve2, hve3⟩ := hve
      subst hve2
      subst hve3
      have hxs : ∀ j r u, j < l.length → (cs j)[r]? = some u → xs[j * i.size + r]? = some u := by
        intro j r u hj hu'
        obtain ⟨b', off', e', hcl⟩ := hc j hj
        cases e'
        have hcell := (hcl r u hu').2
        have hrl : r < i.size := by rw [← hn j hj]; exact (List.getElem?_eq_some_iff.1 hu').1
        have hlt : j * i.size + r < xs.length := by
          rw [q2'.1]
          have : (j + 1) * i.size ≤ l.length * i.size := Nat.mul_le_mul_right _ hj
          rw [Nat.add_mul] at this; omega
        have h3 := q2'.cells (g := b) rfl _ _ (List.getElem?_eq_getElem hlt)
        rw [addr_plus] at h3
        rw [show 0 + j * i.size + r = 0 + (j * i.size + r) from by omega] at hcell
        rw [hcell] at h3
        cases h3
        exact List.getElem?_eq_getElem hlt
      by_cases hroom : l.length + l2.length ≤ cap
      · have hfit : l.length * i.size + ((List.range' 0 l2.length).flatMap cs2).length ≤ cur.size := by
          rw [hnl, hcs, ← Nat.add_mul]; exact Nat.mul_le_mul_right _ hroom
        have hrun := run_append_room (P := P) w t ty e i hu hi b l.length cap cur hg ⟨b2, off2, none⟩ l2.length cap2 _ hnl hnews hone hroom hfit
        have hcell : ∀ o, g.ok b o → (w.setRow b (cur.toList.take (l.length * i.size) ++ (List.range' 0 l2.length).flatMap cs2 ++ cur.toList.drop (l.length * i.size + ((List.range' 0 l2.length).flatMap cs2).length)).toArray).cell? ⟨b, o, none⟩ = w.cell? ⟨b, o, none⟩ := by
          intro o ho
          have hlt := (q3 b rfl).1 o ho
          rw [cell_of_row _ _ _ _ _ _ (setRow_heap w b cur _ e (0, 0) hg), cell_of_row _ _ _ _ _ _ hg]
          simp only [List.getElem?_toArray]
          rw [List.append_assoc, List.getElem?_append_left (by simp; omega), List.getElem?_take, if_pos hlt]
          simp
        obtain ⟨h1, e1⟩ := h.rowPut (w' := w.setRow b (cur.toList.take (l.length * i.size) ++ (List.range' 0 l2.length).flatMap cs2 ++ cur.toList.drop (l.length * i.size + ((List.range' 0 l2.length).flatMap cs2).length)).toArray) (ok' := fun c o => g.ok c o ∨ (c = b ∧ o < (l.length + l2.length) * i.size)) hst how' rfl (by simp) (fun c hc => setRow_other w b c _ hc) ⟨rfl, rfl, rfl⟩ hcell (fun _ _ q => .inl q) (fun c o q => q.imp id (fun q => q.1))
        have hown : (w.setRow b (cur.toList.take (l.length * i.size) ++ (List.range' 0 l2.length).flatMap cs2 ++ cur.toList.drop (l.length * i.size + ((List.range' 0 l2.length).flatMap cs2).length)).toArray).ownsRow base e i.size (.slice (some ⟨b, 0, none⟩) (l.length + l2.length) cap) (l.length + l2.length) (xs ++ (List.range' 0 l2.length).flatMap cs2) := by
          refine ⟨by rw [List.length_append, q2'.1, hnl, ← Nat.add_mul], .inr ⟨b, cap, _, rfl, hbb, setRow_heap w b cur _ e (0, 0) hg, hroom, hcm, ?_, ?_⟩⟩
          · simp only [List.size_toArray, List.length_append, List.length_take, List.length_drop, Array.length_toList]
            omega
          · rw [htake, List.take_append_of_le_length (by rw [List.length_append, q2'.1, hnl, ← Nat.add_mul]; exact Nat.le_refl _), List.take_of_length_le (by rw [List.length_append, q2'.1, hnl, ← Nat.add_mul]; exact Nat.le_refl _)]
        obtain ⟨g', r1, r2, r3⟩ := fin _ _ _ xs (fun j => lv j ∧ j ≠ st) h1 e1 hown (fun c hc' => by
          obtain rfl : b = c := by simpa [Value.ownBlock] using hc'
          refine ⟨fun o => ⟨fun q => ?_, fun q => .inr ⟨rfl, q⟩⟩, (q3 b rfl).2, fun s' y hs' hy q => hs'.2 (h.rinj s' st y _ b hs'.1 hst hy how' q rfl), fun q => (h.prot b q).2.2 st _ hst how' rfl, fun q => (h.kept b q).2.2 st _ hst how' rfl⟩
          rcases q with q | q
          · have := (q3 b rfl).1 o q; rw [Nat.add_mul]; omega
          · exact q.2) (fun j q => ⟨q.1, fun e' => q.2 (by rw [e'])⟩) q2'.1 hxs (fun _ => rfl)
        exact ⟨_, _, g', hrun, r1, r2, r3⟩
      · obtain ⟨v', w', hrun, ho, hg'⟩ := run_append_arg_grows (P := P) w t ty e i z i.size i.bytes hu hi hz rfl rfl hzs hpos ⟨b, 0, none⟩ l.length cap xs q2'.1 (q2'.cells (g := b) rfl) ⟨b2, off2, none⟩ l2.length cap2 _ hnl hnews (by omega) h63 hby
        have ho' : w'.ownsRow base e i.size v' (l.length + l2.length) (xs ++ (List.range' 0 l2.length).flatMap cs2) := by
          refine ⟨ho.1, ho.2.imp id ?_⟩
          rintro ⟨b', c', cur', r1, r2, r3⟩
          exact ⟨b', c', cur', r1, Nat.le_trans h.hbs r2, r3⟩
        obtain ⟨g', r1, r2, r3⟩ := fresh v' w' xs hg' ho' (fun b hb => (ho.lt b hb).1) q2'.1 hxs (fun _ => rfl)
        exact ⟨v', w', g', hrun, r1, r2, r3⟩
  · have hcap : cap = l.length := hnil
    have hne : l ≠ [] → n = i.size := fun e => hn0.resolve_left e
    cases A with
    | none =>
      have hl0 : l = [] := by
        cases hl : l with
        | nil => rfl
        | cons x r =>
          obtain ⟨_, _, q, _⟩ := hc 0 (by rw [hl]; simp)
          cases q
      exact hnilcase rfl (by rw [hcap, hl0]; rfl) hl0
    | some a =>
      have hxl := flat_len cs n l.length 0 (fun k _ hk => hn k (by omega))
      have hxl' : ((List.range' 0 l.length).flatMap cs).length = l.length * i.size := by
        rw [hxl]
        by_cases e : l = []
        · rw [e]; simp
        · rw [hne e]
      have hxc : ∀ k u, ((List.range' 0 l.length).flatMap cs)[k]? = some u → w.cell? (a.add k) = some u := by
        intro k u hk
        have hlt := (List.getElem?_eq_some_iff.1 hk).1
        rw [hxl] at hlt
        obtain ⟨j, r, hj, hr', rfl⟩ := flat_split hlt
        rw [flat_at cs n l.length 0 j r (fun k _ hk => hn k (by omega)) hj hr', Nat.zero_add] at hk
        obtain ⟨b', off', e', hcl⟩ := hc j hj
        cases e'
        rw [addr_plus, ← Nat.add_assoc]
        exact (hcl r u hk).2
      obtain ⟨v', w', hrun, ho, hg'⟩ := run_append_arg_grows (P := P) w t ty e i z i.size i.bytes hu hi hz rfl rfl hzs hpos a l.length cap _ hxl' hxc ⟨b2, off2, none⟩ l2.length cap2 _ hnl hnews (by omega) h63 hby
      have ho' : w'.ownsRow base e i.size v' (l.length + l2.length) ((List.range' 0 l.length).flatMap cs ++ (List.range' 0 l2.length).flatMap cs2) := by
        refine ⟨ho.1, ho.2.imp id ?_⟩
        rintro ⟨b', c', cur', r1, r2, r3⟩
        exact ⟨b', c', cur', r1, Nat.le_trans h.hbs r2, r3⟩
      obtain ⟨g', r1, r2, r3⟩ := fresh v' w' _ hg' ho' (fun b hb => (ho.lt b hb).1) hxl' (fun j r u hj hu' => by
        have e := hne (fun e => by rw [e] at hj; simp at hj)
        rw [← e, flat_at cs n l.length 0 j r (fun k _ hk => hn k (by omega)) hj (by rw [← hn j hj]; exact (List.getElem?_eq_some_iff.1 hu').1), Nat.zero_add]
        exact hu') hne
      exact ⟨v', w', g', hrun, r1, r2, r3⟩
end

end Go.Proofs.Ytjikokmhknnnoaa
