/- The operators: arith and its reference compute the same. -/
import Derived.Test.YtmglacjcefajlaaEnv
namespace Go.Proofs.Ytmglacjcefajlaa
open Go.RowKit


def b01 (b : Bool) : Int := if b then 1 else 0
/-- the binary operators -/
def apD (k x y : Int) : Int × Int :=
 if k = 8 then (IntKind.i64.wrap (x + y), 0) else if k = 9 then (IntKind.i64.wrap (x - y), 0) else if k = 10 then (IntKind.i64.wrap (x * y), 0)
 else if k = 11 then (if y = 0 then (0, 11) else (IntKind.i64.wrap (x.tdiv y), 0)) else if k = 12 then (if y = 0 then (0, 11) else (x.tmod y, 0))
 else if k = 13 then (IntKind.i64.wrap (BitVec.ofInt IntKind.i64.bits x &&& BitVec.ofInt IntKind.i64.bits y).toNat, 0)
 else if k = 14 then (IntKind.i64.wrap (BitVec.ofInt IntKind.i64.bits x ||| BitVec.ofInt IntKind.i64.bits y).toNat, 0)
 else if k = 15 then (IntKind.i64.wrap (BitVec.ofInt IntKind.i64.bits x ^^^ BitVec.ofInt IntKind.i64.bits y).toNat, 0)
 else if k = 16 then (b01 (x == y), 0) else if k = 17 then (b01 (x != y), 0) else if k = 18 then (b01 (decide (x < y)), 0) else if k = 19 then (b01 (decide (x ≤ y)), 0)
 else if k = 20 then (b01 (decide (x > y)), 0) else if k = 21 then (b01 (decide (x ≥ y)), 0) else if k = 22 then (b01 (x != 0 && y != 0), 0) else if k = 23 then (b01 (x != 0 || y != 0), 0)
 else (0, 7)
def unD (k x : Int) : Int × Int := if k = 6 then (IntKind.i64.wrap (0 - x), 0) else if k = 7 then (b01 (x == 0), 0) else (0, 7)
set_option maxRecDepth 100000 in
set_option maxHeartbeats 4000000 in
theorem number_fn (b : Bool) : fn EV 98 [.bool b] = some (.int .i64 (b01 b)) := by
 refine fn_X rfl Try.func98 rfl (rfl) (rfl) (rfl) (rfl) ?_
 simp only [zmc, zmn, D.strip]
 simp only [enterSt, Try.ntmps98, zlc, zln, Nat.reduceAdd, Nat.reduceSub, zr1, zr0, zca, zna]
 refine X_seq ?_
 refine X_rg fun R hR => ?_
 simp only [inr_i64, Int.reduceLE, Int.reduceNeg, aops, astep, awant, aeff, aop, ev, ofValue, St.put, zgd, zmo, if_true, zs1, zs0, and_self]
 with_reducible refine hR _ ?_
 clear hR R
 show X _ _ _ _
 refine X_seq ?_
 refine X_seq ?_
 refine X_rg fun R hR => ?_
 simp only [aops, astep, awant, aeff, aop, ev, St.put, zg0, zgd, zmo, if_true, zs1, zs0]
 with_reducible refine hR _ ?_
 clear hR R
 show X _ _ _ _
 refine X_ite (by simp only [ev, zg1, zg0, zgd]; exact rfl) ?_ ?_
 ·intro b1
  have c1 := b1
  try simp only [znt, znf, decide_eq_true_eq, decide_eq_false_iff_not, beq_iff_eq, Int.not_lt, Int.not_le, ge_iff_le, gt_iff_lt, bne_iff_ne, ne_eq, bne_eq_false_iff_eq, beq_eq_false_iff_ne, zat, zof] at c1
  refine X_seq ?_
  refine X_rg fun R hR => ?_
  simp only [inr_i64, Int.reduceLE, Int.reduceNeg, aops, astep, awant, aeff, aop, ev, ofValue, St.put, zgd, zmo, if_true, zs1, zs0, and_self, b1]
  with_reducible refine hR _ ?_
  clear hR R
  show X _ _ _ _
  refine X_ret ?_
  show resD _ _ _ = some _
  simp only [resD, resAll, resOne, resTup, Try.results98, EVP, zg1, zg0, D.good, if_true, zmo]
  first | (simp [b01, b1]; done) | (exfalso; simp_all; done)
 ·intro b2
  have c2 := b2
  try simp only [znt, znf, decide_eq_true_eq, decide_eq_false_iff_not, beq_iff_eq, Int.not_lt, Int.not_le, ge_iff_le, gt_iff_lt, bne_iff_ne, ne_eq, bne_eq_false_iff_eq, beq_eq_false_iff_ne, zat, zof] at c2
  refine X_skip ?_
  show X _ _ _ _
  refine X_seq ?_
  refine X_rg fun R hR => ?_
  simp only [inr_i64, Int.reduceLE, Int.reduceNeg, aops, astep, awant, aeff, aop, ev, ofValue, St.put, zgd, zmo, if_true, zs1, zs0, and_self, b2]
  with_reducible refine hR _ ?_
  clear hR R
  show X _ _ _ _
  refine X_ret ?_
  show resD _ _ _ = some _
  simp only [resD, resAll, resOne, resTup, Try.results98, EVP, zg1, zg0, D.good, if_true, zmo]
  first | (simp [b01, b2]; done) | (exfalso; simp_all; done)
set_option maxRecDepth 100000 in
set_option maxHeartbeats 4000000 in
theorem unary_fn (k x : Int) : fn EV 95 [.int .u8 k, .int .i64 x] = some (.tup [.int .i64 (unD k x).1, .int .i64 (unD k x).2]) := by
 refine fn_X rfl Try.func95 rfl (rfl) (rfl) (rfl) (rfl) ?_
 simp only [zmc, zmn, D.strip]
 simp only [enterSt, Try.ntmps95, zlc, zln, Nat.reduceAdd, Nat.reduceSub, zr1, zr0, zca, zna]
 refine X_seq ?_
 refine X_rg fun R hR => ?_
 simp only [inr_i64, Int.reduceLE, Int.reduceNeg, aops, astep, awant, aeff, aop, ev, ofValue, St.put, zgd, zmo, if_true, zs1, zs0, and_self]
 with_reducible refine hR _ ?_
 clear hR R
 show X _ _ _ _
 refine X_seq ?_
 refine X_seq ?_
 refine X_rg fun R hR => ?_
 simp only [aops, astep, awant, aeff, aop, ev, St.put, zg0, zgd, zmo, if_true, zs1, zs0]
 with_reducible refine hR _ ?_
 clear hR R
 show X _ _ _ _
 refine X_block ?_
 refine X_seq ?_
 refine X_rg fun R hR => ?_
 simp only [inr_u8, Int.reduceLE, aops, astep, awant, aeff, aop, abin, aint, ev, ofValue, St.put, zg1, zg0, zgd, zmo, if_true, zs1, zs0, and_self]
 with_reducible refine hR _ ?_
 clear hR R
 show X _ _ _ _
 refine X_ite (by simp only [ev, zg1, zg0, zgd]; exact rfl) ?_ ?_
 ·intro b1
  have c1 := b1
  try simp only [beq_iff_eq] at c1
  refine X_seq ?_
  refine X_rg fun R hR => ?_
  simp only [inr_i64, Int.reduceLE, Int.reduceNeg, aops, astep, awant, aeff, aop, ev, ofValue, St.put, zg1, zg0, zgd, zmo, if_true, zs1, zs0, and_self, beq_self_eq_true, c1]
  with_reducible refine hR _ ?_
  clear hR R
  show X _ _ _ _
  refine X_ret ?_
  show resD _ _ _ = some _
  simp only [resD, resAll, resOne, resTup, Try.results95, EVP, zg1, zg0, D.good, if_true, zmo]
  first | (simp [unD, c1]; done) | (exfalso; simp_all; done)
 ·intro b2
  have c2 := b2
  try simp only [ne_eq, beq_eq_false_iff_ne] at c2
  refine X_seq ?_
  refine X_rg fun R hR => ?_
  simp only [inr_u8, Int.reduceLE, aops, astep, awant, aeff, aop, abin, aint, ev, ofValue, St.put, zg1, zg0, zgd, zmo, if_true, zs1, zs0, and_self, b2]
  with_reducible refine hR _ ?_
  clear hR R
  show X _ _ _ _
  refine X_ite (by simp only [ev, zg1, zg0, zgd]; exact rfl) ?_ ?_
  ·intro b3
   have c3 := b3
   try simp only [beq_iff_eq] at c3
   refine X_seq ?_
   refine X_rg fun R hR => ?_
   simp only [EVP, inr_i64, Int.reduceLE, Int.reduceNeg, aops, astep, awant, aeff, aop, abin, aint, ev, ofValue, St.put, pcall, zmc, zmn, zg1, zg0, zgd, zmo, if_true, zs1, zs0, zca, zna, and_self, beq_self_eq_true, any98, number_fn, c3]
   with_reducible refine hR _ ?_
   clear hR R
   show X _ _ _ _
   refine X_ret ?_
   show resD _ _ _ = some _
   simp only [resD, resAll, resOne, resTup, Try.results95, EVP, zg1, zg0, D.good, if_true, zmo]
   first | (simp [unD, c3]; done) | (exfalso; simp_all; done)
  ·intro b4
   have c4 := b4
   try simp only [ne_eq, beq_eq_false_iff_ne] at c4
   refine X_skip ?_
   show X _ _ _ _
   refine X_seq ?_
   refine X_rg fun R hR => ?_
   simp only [inr_i64, Int.reduceLE, Int.reduceNeg, aops, astep, awant, aeff, aop, ev, ofValue, St.put, zgd, zmo, if_true, zs1, zs0, and_self, b4]
   with_reducible refine hR _ ?_
   clear hR R
   show X _ _ _ _
   refine X_ret ?_
   show resD _ _ _ = some _
   simp only [resD, resAll, resOne, resTup, Try.results95, EVP, zg1, zg0, D.good, if_true, zmo]
   first | (simp [unD, c2, c4]; done) | (exfalso; simp_all; done)
set_option maxRecDepth 100000 in
set_option maxHeartbeats 4000000 in
theorem divide_fn (k x y : Int) (hk : k = 11 ∨ k = 12) : fn EV 99 [.int .u8 k, .int .i64 x, .int .i64 y] = some (.tup [.int .i64 (apD k x y).1, .int .i64 (apD k x y).2]) := by
 refine fn_X rfl Try.func99 rfl (rfl) (rfl) (rfl) (rfl) ?_
 simp only [zmc, zmn, D.strip]
 simp only [enterSt, Try.ntmps99, zlc, zln, Nat.reduceAdd, Nat.reduceSub, zr1, zr0, zca, zna]
 refine X_seq ?_
 refine X_rg fun R hR => ?_
 simp only [inr_i64, Int.reduceLE, Int.reduceNeg, aops, astep, awant, aeff, aop, ev, ofValue, St.put, zgd, zmo, if_true, zs1, zs0, and_self]
 with_reducible refine hR _ ?_
 clear hR R
 show X _ _ _ _
 refine X_seq ?_
 refine X_block ?_
 refine X_seq ?_
 refine X_rg fun R hR => ?_
 simp only [inr_i64, Int.reduceLE, Int.reduceNeg, aops, astep, awant, aeff, aop, abin, aint, ev, ofValue, St.put, zg1, zg0, zgd, zmo, if_true, zs1, zs0, and_self]
 with_reducible refine hR _ ?_
 clear hR R
 show X _ _ _ _
 refine X_ite (by simp only [ev, zg1, zg0, zgd]; exact rfl) ?_ ?_
 ·intro b1
  have c1 := b1
  try simp only [beq_iff_eq] at c1
  refine X_seq ?_
  refine X_rg fun R hR => ?_
  simp only [inr_i64, Int.reduceLE, Int.reduceNeg, aops, astep, awant, aeff, aop, ev, ofValue, St.put, zgd, zmo, if_true, zs1, zs0, and_self, beq_self_eq_true, c1]
  with_reducible refine hR _ ?_
  clear hR R
  show X _ _ _ _
  refine X_ret ?_
  show resD _ _ _ = some _
  simp only [resD, resAll, resOne, resTup, Try.results99, EVP, zg1, zg0, D.good, if_true, zmo]
  first | (rcases hk with rfl | rfl <;> simp_all [apD]; done) | (exfalso; simp_all; done)
 ·intro b2
  have c2 := b2
  try simp only [ne_eq, beq_eq_false_iff_ne] at c2
  refine X_seq ?_
  refine X_rg fun R hR => ?_
  simp only [inr_u8, Int.reduceLE, aops, astep, awant, aeff, aop, abin, aint, ev, ofValue, St.put, zg1, zg0, zgd, zmo, if_true, zs1, zs0, and_self, b2]
  with_reducible refine hR _ ?_
  clear hR R
  show X _ _ _ _
  refine X_ite (by simp only [ev, zg1, zg0, zgd]; exact rfl) ?_ ?_
  ·intro b3
   have c3 := b3
   try simp only [beq_iff_eq] at c3
   refine X_seq ?_
   refine X_rg fun R hR => ?_
   simp only [inr_i64, Int.reduceLE, Int.reduceNeg, aops, astep, awant, aeff, aop, abin, aint, ev, ofValue, St.put, zg1, zg0, zgd, zmo, if_true, zs1, zs0, if_false, and_self, beq_self_eq_true, c2, c3]
   with_reducible refine hR _ ?_
   clear hR R
   show X _ _ _ _
   refine X_ret ?_
   show resD _ _ _ = some _
   simp only [resD, resAll, resOne, resTup, Try.results99, EVP, zg1, zg0, D.good, if_true, zmo]
   first | (rcases hk with rfl | rfl <;> simp_all [apD]; done) | (exfalso; simp_all; done)
  ·intro b4
   have c4 := b4
   try simp only [ne_eq, beq_eq_false_iff_ne] at c4
   refine X_skip ?_
   show X _ _ _ _
   refine X_seq ?_
   refine X_rg fun R hR => ?_
   simp only [inr_i64, Int.reduceLE, Int.reduceNeg, aops, astep, awant, aeff, aop, abin, aint, ev, ofValue, St.put, zg1, zg0, zgd, zmo, if_true, zs1, zs0, if_false, and_self, c2, b4]
   with_reducible refine hR _ ?_
   clear hR R
   show X _ _ _ _
   refine X_ret ?_
   show resD _ _ _ = some _
   simp only [resD, resAll, resOne, resTup, Try.results99, EVP, zg1, zg0, D.good, if_true, zmo]
   first | (rcases hk with rfl | rfl <;> simp_all [apD]; done) | (exfalso; simp_all; done)
theorem div11_fn (x y : Int) : fn EV 99 [.int .u8 11, .int .i64 x, .int .i64 y] = some (.tup [.int .i64 (apD 11 x y).1, .int .i64 (apD 11 x y).2]) := divide_fn 11 x y (.inl rfl)
theorem div12_fn (x y : Int) : fn EV 99 [.int .u8 12, .int .i64 x, .int .i64 y] = some (.tup [.int .i64 (apD 12 x y).1, .int .i64 (apD 12 x y).2]) := divide_fn 12 x y (.inr rfl)
set_option maxRecDepth 100000 in
set_option maxHeartbeats 4000000 in
theorem apply_fn (k x y : Int) : fn EV 96 [.int .u8 k, .int .i64 x, .int .i64 y] = some (.tup [.int .i64 (apD k x y).1, .int .i64 (apD k x y).2]) := by
 refine fn_X rfl Try.func96 rfl (rfl) (rfl) (rfl) (rfl) ?_
 simp only [zmc, zmn, D.strip]
 simp only [enterSt, Try.ntmps96, zlc, zln, Nat.reduceAdd, Nat.reduceSub, zr1, zr0, zca, zna]
 refine X_seq ?_
 refine X_rg fun R hR => ?_
 simp only [inr_i64, Int.reduceLE, Int.reduceNeg, aops, astep, awant, aeff, aop, ev, ofValue, St.put, zgd, zmo, if_true, zs1, zs0, and_self]
 with_reducible refine hR _ ?_
 clear hR R
 show X _ _ _ _
 refine X_seq ?_
 refine X_seq ?_
 refine X_rg fun R hR => ?_
 simp only [aops, astep, awant, aeff, aop, ev, St.put, zg0, zgd, zmo, if_true, zs1, zs0]
 with_reducible refine hR _ ?_
 clear hR R
 show X _ _ _ _
 refine X_block ?_
 refine X_seq ?_
 refine X_rg fun R hR => ?_
 simp only [inr_u8, Int.reduceLE, aops, astep, awant, aeff, aop, abin, aint, ev, ofValue, St.put, zg1, zg0, zgd, zmo, if_true, zs1, zs0, and_self]
 with_reducible refine hR _ ?_
 clear hR R
 show X _ _ _ _
 refine X_ite (by simp only [ev, zg1, zg0, zgd]; exact rfl) ?_ ?_
 ·intro b1
  have c1 := b1
  try simp only [beq_iff_eq] at c1
  refine X_seq ?_
  refine X_rg fun R hR => ?_
  simp only [inr_i64, Int.reduceLE, Int.reduceNeg, aops, astep, awant, aeff, aop, abin, aint, ev, ofValue, St.put, zg1, zg0, zgd, zmo, if_true, zs1, zs0, and_self, beq_self_eq_true, c1]
  with_reducible refine hR _ ?_
  clear hR R
  show X _ _ _ _
  refine X_ret ?_
  show resD _ _ _ = some _
  simp only [resD, resAll, resOne, resTup, Try.results96, EVP, zg1, zg0, D.good, if_true, zmo]
  first | (simp [apD, c1]; done) | (exfalso; simp_all; done)
 ·intro b2
  have c2 := b2
  try simp only [ne_eq, beq_eq_false_iff_ne] at c2
  refine X_seq ?_
  refine X_rg fun R hR => ?_
  simp only [inr_u8, Int.reduceLE, aops, astep, awant, aeff, aop, abin, aint, ev, ofValue, St.put, zg1, zg0, zgd, zmo, if_true, zs1, zs0, and_self, b2]
  with_reducible refine hR _ ?_
  clear hR R
  show X _ _ _ _
  refine X_ite (by simp only [ev, zg1, zg0, zgd]; exact rfl) ?_ ?_
  ·intro b3
   have c3 := b3
   try simp only [beq_iff_eq] at c3
   refine X_seq ?_
   refine X_rg fun R hR => ?_
   simp only [inr_i64, Int.reduceLE, Int.reduceNeg, aops, astep, awant, aeff, aop, abin, aint, ev, ofValue, St.put, zg1, zg0, zgd, zmo, if_true, zs1, zs0, and_self, beq_self_eq_true, c3]
   with_reducible refine hR _ ?_
   clear hR R
   show X _ _ _ _
   refine X_ret ?_
   show resD _ _ _ = some _
   simp only [resD, resAll, resOne, resTup, Try.results96, EVP, zg1, zg0, D.good, if_true, zmo]
   first | (simp [apD, c3]; done) | (exfalso; simp_all; done)
  ·intro b4
   have c4 := b4
   try simp only [ne_eq, beq_eq_false_iff_ne] at c4
   refine X_seq ?_
   refine X_rg fun R hR => ?_
   simp only [inr_u8, Int.reduceLE, aops, astep, awant, aeff, aop, abin, aint, ev, ofValue, St.put, zg1, zg0, zgd, zmo, if_true, zs1, zs0, and_self, b4]
   with_reducible refine hR _ ?_
   clear hR R
   show X _ _ _ _
   refine X_ite (by simp only [ev, zg1, zg0, zgd]; exact rfl) ?_ ?_
   ·intro b5
    have c5 := b5
    try simp only [beq_iff_eq] at c5
    refine X_seq ?_
    refine X_rg fun R hR => ?_
    simp only [inr_i64, Int.reduceLE, Int.reduceNeg, aops, astep, awant, aeff, aop, abin, aint, ev, ofValue, St.put, zg1, zg0, zgd, zmo, if_true, zs1, zs0, and_self, beq_self_eq_true, c5]
    with_reducible refine hR _ ?_
    clear hR R
    show X _ _ _ _
    refine X_ret ?_
    show resD _ _ _ = some _
    simp only [resD, resAll, resOne, resTup, Try.results96, EVP, zg1, zg0, D.good, if_true, zmo]
    first | (simp [apD, c5]; done) | (exfalso; simp_all; done)
   ·intro b6
    have c6 := b6
    try simp only [ne_eq, beq_eq_false_iff_ne] at c6
    refine X_seq ?_
    refine X_seq ?_
    refine X_rg fun R hR => ?_
    simp only [inr_u8, Int.reduceLE, aops, astep, awant, aeff, aop, abin, aint, ev, ofValue, St.put, zg1, zg0, zgd, zmo, if_true, zs1, zs0, and_self, b6]
    with_reducible refine hR _ ?_
    clear hR R
    show X _ _ _ _
    refine X_ite (by simp only [ev, zg1, zg0, zgd]; exact rfl) ?_ ?_
    ·intro b7
     have c7 := b7
     try simp only [beq_iff_eq] at c7
     refine X_skip ?_
     show X _ _ _ _
     refine X_true (by simp only [ev, zg1, zg0, zgd, beq_self_eq_true, c7]) ?_
     refine X_seq ?_
     refine X_rg fun R hR => ?_
     simp only [EVP, aops, astep, awant, aeff, aop, ev, St.put, pcall, zmc, zmn, zg1, zg0, zgd, zmo, if_true, zs1, zs0, zca, zna, beq_self_eq_true, any99, div11_fn, c7]
     with_reducible refine hR _ ?_
     clear hR R
     show X _ _ _ _
     refine X_ret ?_
     show resD _ _ _ = some _
     simp only [resD, resAll, resOne, resTup, Try.results96, EVP, zg1, zg0, D.good, if_true, zmo]
     first | (simp [apD, c7]; done) | (exfalso; simp_all; done)
    ·intro b8
     have c8 := b8
     try simp only [ne_eq, beq_eq_false_iff_ne] at c8
     refine X_rg fun R hR => ?_
     simp only [inr_u8, Int.reduceLE, aops, astep, awant, aeff, aop, abin, aint, ev, ofValue, St.put, zg1, zg0, zgd, zmo, if_true, zs1, zs0, and_self, b8]
     with_reducible refine hR _ ?_
     clear hR R
     show X _ _ _ _
     refine X_ite (by simp only [ev, zg1, zg0, zgd]; exact rfl) ?_ ?_
     ·intro b9
      have c9 := b9
      try simp only [beq_iff_eq] at c9
      refine X_seq ?_
      refine X_rg fun R hR => ?_
      simp only [EVP, aops, astep, awant, aeff, aop, ev, St.put, pcall, zmc, zmn, zg1, zg0, zgd, zmo, if_true, zs1, zs0, zca, zna, beq_self_eq_true, any99, div12_fn, c9]
      with_reducible refine hR _ ?_
      clear hR R
      show X _ _ _ _
      refine X_ret ?_
      show resD _ _ _ = some _
      simp only [resD, resAll, resOne, resTup, Try.results96, EVP, zg1, zg0, D.good, if_true, zmo]
      first | (simp [apD, c9]; done) | (exfalso; simp_all; done)
     ·intro b10
      have c10 := b10
      try simp only [ne_eq, beq_eq_false_iff_ne] at c10
      refine X_seq ?_
      refine X_rg fun R hR => ?_
      simp only [inr_u8, Int.reduceLE, aops, astep, awant, aeff, aop, abin, aint, ev, ofValue, St.put, zg1, zg0, zgd, zmo, if_true, zs1, zs0, and_self, b10]
      with_reducible refine hR _ ?_
      clear hR R
      show X _ _ _ _
      refine X_ite (by simp only [ev, zg1, zg0, zgd]; exact rfl) ?_ ?_
      ·intro b11
       have c11 := b11
       try simp only [beq_iff_eq] at c11
       refine X_seq ?_
       refine X_rg fun R hR => ?_
       simp only [inr_i64, Int.reduceLE, Int.reduceNeg, aops, astep, awant, aeff, aop, abin, aint, ev, ofValue, St.put, zg1, zg0, zgd, zmo, if_true, zs1, zs0, and_self, beq_self_eq_true, c11]
       with_reducible refine hR _ ?_
       clear hR R
       show X _ _ _ _
       refine X_ret ?_
       show resD _ _ _ = some _
       simp only [resD, resAll, resOne, resTup, Try.results96, EVP, zg1, zg0, D.good, if_true, zmo]
       first | (simp [apD, c11]; done) | (exfalso; simp_all; done)
      ·intro b12
       have c12 := b12
       try simp only [ne_eq, beq_eq_false_iff_ne] at c12
       refine X_seq ?_
       refine X_rg fun R hR => ?_
       simp only [inr_u8, Int.reduceLE, aops, astep, awant, aeff, aop, abin, aint, ev, ofValue, St.put, zg1, zg0, zgd, zmo, if_true, zs1, zs0, and_self, b12]
       with_reducible refine hR _ ?_
       clear hR R
       show X _ _ _ _
       refine X_ite (by simp only [ev, zg1, zg0, zgd]; exact rfl) ?_ ?_
       ·intro b13
        have c13 := b13
        try simp only [beq_iff_eq] at c13
        refine X_seq ?_
        refine X_rg fun R hR => ?_
        simp only [inr_i64, Int.reduceLE, Int.reduceNeg, aops, astep, awant, aeff, aop, abin, aint, ev, ofValue, St.put, zg1, zg0, zgd, zmo, if_true, zs1, zs0, and_self, beq_self_eq_true, c13]
        with_reducible refine hR _ ?_
        clear hR R
        show X _ _ _ _
        refine X_ret ?_
        show resD _ _ _ = some _
        simp only [resD, resAll, resOne, resTup, Try.results96, EVP, zg1, zg0, D.good, if_true, zmo]
        first | (simp [apD, c13]; done) | (exfalso; simp_all; done)
       ·intro b14
        have c14 := b14
        try simp only [ne_eq, beq_eq_false_iff_ne] at c14
        refine X_seq ?_
        refine X_rg fun R hR => ?_
        simp only [inr_u8, Int.reduceLE, aops, astep, awant, aeff, aop, abin, aint, ev, ofValue, St.put, zg1, zg0, zgd, zmo, if_true, zs1, zs0, and_self, b14]
        with_reducible refine hR _ ?_
        clear hR R
        show X _ _ _ _
        refine X_ite (by simp only [ev, zg1, zg0, zgd]; exact rfl) ?_ ?_
        ·intro b15
         have c15 := b15
         try simp only [beq_iff_eq] at c15
         refine X_seq ?_
         refine X_rg fun R hR => ?_
         simp only [inr_i64, Int.reduceLE, Int.reduceNeg, aops, astep, awant, aeff, aop, abin, aint, ev, ofValue, St.put, zg1, zg0, zgd, zmo, if_true, zs1, zs0, and_self, beq_self_eq_true, c15]
         with_reducible refine hR _ ?_
         clear hR R
         show X _ _ _ _
         refine X_ret ?_
         show resD _ _ _ = some _
         simp only [resD, resAll, resOne, resTup, Try.results96, EVP, zg1, zg0, D.good, if_true, zmo]
         first | (simp [apD, c15]; done) | (exfalso; simp_all; done)
        ·intro b16
         have c16 := b16
         try simp only [ne_eq, beq_eq_false_iff_ne] at c16
         refine X_seq ?_
         refine X_rg fun R hR => ?_
         simp only [inr_u8, Int.reduceLE, aops, astep, awant, aeff, aop, abin, aint, ev, ofValue, St.put, zg1, zg0, zgd, zmo, if_true, zs1, zs0, and_self, b16]
         with_reducible refine hR _ ?_
         clear hR R
         show X _ _ _ _
         refine X_ite (by simp only [ev, zg1, zg0, zgd]; exact rfl) ?_ ?_
         ·intro b17
          have c17 := b17
          try simp only [beq_iff_eq] at c17
          refine X_seq ?_
          refine X_rg fun R hR => ?_
          simp only [EVP, inr_i64, Int.reduceLE, Int.reduceNeg, aops, astep, awant, aeff, aop, abin, aint, ev, ofValue, St.put, pcall, zmc, zmn, zg1, zg0, zgd, zmo, if_true, zs1, zs0, zca, zna, and_self, beq_self_eq_true, any98, number_fn, c17]
          with_reducible refine hR _ ?_
          clear hR R
          show X _ _ _ _
          refine X_ret ?_
          show resD _ _ _ = some _
          simp only [resD, resAll, resOne, resTup, Try.results96, EVP, zg1, zg0, D.good, if_true, zmo]
          first | (simp [apD, c17]; done) | (exfalso; simp_all; done)
         ·intro b18
          have c18 := b18
          try simp only [ne_eq, beq_eq_false_iff_ne] at c18
          refine X_seq ?_
          refine X_rg fun R hR => ?_
          simp only [inr_u8, Int.reduceLE, aops, astep, awant, aeff, aop, abin, aint, ev, ofValue, St.put, zg1, zg0, zgd, zmo, if_true, zs1, zs0, and_self, b18]
          with_reducible refine hR _ ?_
          clear hR R
          show X _ _ _ _
          refine X_ite (by simp only [ev, zg1, zg0, zgd]; exact rfl) ?_ ?_
          ·intro b19
           have c19 := b19
           try simp only [beq_iff_eq] at c19
           refine X_seq ?_
           refine X_rg fun R hR => ?_
           simp only [EVP, inr_i64, Int.reduceLE, Int.reduceNeg, aops, astep, awant, aeff, aop, abin, aint, ev, ofValue, St.put, pcall, zmc, zmn, zg1, zg0, zgd, zmo, if_true, zs1, zs0, zca, zna, and_self, beq_self_eq_true, any98, number_fn, c19]
           with_reducible refine hR _ ?_
           clear hR R
           show X _ _ _ _
           refine X_ret ?_
           show resD _ _ _ = some _
           simp only [resD, resAll, resOne, resTup, Try.results96, EVP, zg1, zg0, D.good, if_true, zmo]
           first | (simp [apD, c19]; done) | (exfalso; simp_all; done)
          ·intro b20
           have c20 := b20
           try simp only [ne_eq, beq_eq_false_iff_ne] at c20
           refine X_seq ?_
           refine X_rg fun R hR => ?_
           simp only [inr_u8, Int.reduceLE, aops, astep, awant, aeff, aop, abin, aint, ev, ofValue, St.put, zg1, zg0, zgd, zmo, if_true, zs1, zs0, and_self, b20]
           with_reducible refine hR _ ?_
           clear hR R
           show X _ _ _ _
           refine X_ite (by simp only [ev, zg1, zg0, zgd]; exact rfl) ?_ ?_
           ·intro b21
            have c21 := b21
            try simp only [beq_iff_eq] at c21
            refine X_seq ?_
            refine X_rg fun R hR => ?_
            simp only [EVP, inr_i64, Int.reduceLE, Int.reduceNeg, aops, astep, awant, aeff, aop, abin, aint, ev, ofValue, St.put, pcall, zmc, zmn, zg1, zg0, zgd, zmo, if_true, zs1, zs0, zca, zna, and_self, beq_self_eq_true, any98, number_fn, c21]
            with_reducible refine hR _ ?_
            clear hR R
            show X _ _ _ _
            refine X_ret ?_
            show resD _ _ _ = some _
            simp only [resD, resAll, resOne, resTup, Try.results96, EVP, zg1, zg0, D.good, if_true, zmo]
            first | (simp [apD, c21]; done) | (exfalso; simp_all; done)
           ·intro b22
            have c22 := b22
            try simp only [ne_eq, beq_eq_false_iff_ne] at c22
            refine X_seq ?_
            refine X_rg fun R hR => ?_
            simp only [inr_u8, Int.reduceLE, aops, astep, awant, aeff, aop, abin, aint, ev, ofValue, St.put, zg1, zg0, zgd, zmo, if_true, zs1, zs0, and_self, b22]
            with_reducible refine hR _ ?_
            clear hR R
            show X _ _ _ _
            refine X_ite (by simp only [ev, zg1, zg0, zgd]; exact rfl) ?_ ?_
            ·intro b23
             have c23 := b23
             try simp only [beq_iff_eq] at c23
             refine X_seq ?_
             refine X_rg fun R hR => ?_
             simp only [EVP, inr_i64, Int.reduceLE, Int.reduceNeg, aops, astep, awant, aeff, aop, abin, aint, ev, ofValue, St.put, pcall, zmc, zmn, zg1, zg0, zgd, zmo, if_true, zs1, zs0, zca, zna, and_self, beq_self_eq_true, any98, number_fn, c23]
             with_reducible refine hR _ ?_
             clear hR R
             show X _ _ _ _
             refine X_ret ?_
             show resD _ _ _ = some _
             simp only [resD, resAll, resOne, resTup, Try.results96, EVP, zg1, zg0, D.good, if_true, zmo]
             first | (simp [apD, c23]; done) | (exfalso; simp_all; done)
            ·intro b24
             have c24 := b24
             try simp only [ne_eq, beq_eq_false_iff_ne] at c24
             refine X_seq ?_
             refine X_rg fun R hR => ?_
             simp only [inr_u8, Int.reduceLE, aops, astep, awant, aeff, aop, abin, aint, ev, ofValue, St.put, zg1, zg0, zgd, zmo, if_true, zs1, zs0, and_self, b24]
             with_reducible refine hR _ ?_
             clear hR R
             show X _ _ _ _
             refine X_ite (by simp only [ev, zg1, zg0, zgd]; exact rfl) ?_ ?_
             ·intro b25
              have c25 := b25
              try simp only [beq_iff_eq] at c25
              refine X_seq ?_
              refine X_rg fun R hR => ?_
              simp only [EVP, inr_i64, Int.reduceLE, Int.reduceNeg, aops, astep, awant, aeff, aop, abin, aint, ev, ofValue, St.put, pcall, zmc, zmn, zg1, zg0, zgd, zmo, if_true, zs1, zs0, zca, zna, and_self, beq_self_eq_true, any98, number_fn, c25]
              with_reducible refine hR _ ?_
              clear hR R
              show X _ _ _ _
              refine X_ret ?_
              show resD _ _ _ = some _
              simp only [resD, resAll, resOne, resTup, Try.results96, EVP, zg1, zg0, D.good, if_true, zmo]
              first | (simp [apD, c25]; done) | (exfalso; simp_all; done)
             ·intro b26
              have c26 := b26
              try simp only [ne_eq, beq_eq_false_iff_ne] at c26
              refine X_seq ?_
              refine X_rg fun R hR => ?_
              simp only [inr_u8, Int.reduceLE, aops, astep, awant, aeff, aop, abin, aint, ev, ofValue, St.put, zg1, zg0, zgd, zmo, if_true, zs1, zs0, and_self, b26]
              with_reducible refine hR _ ?_
              clear hR R
              show X _ _ _ _
              refine X_ite (by simp only [ev, zg1, zg0, zgd]; exact rfl) ?_ ?_
              ·intro b27
               have c27 := b27
               try simp only [beq_iff_eq] at c27
               refine X_seq ?_
               refine X_rg fun R hR => ?_
               simp only [EVP, inr_i64, Int.reduceLE, Int.reduceNeg, aops, astep, awant, aeff, aop, abin, aint, ev, ofValue, St.put, pcall, zmc, zmn, zg1, zg0, zgd, zmo, if_true, zs1, zs0, zca, zna, and_self, beq_self_eq_true, any98, number_fn, c27]
               with_reducible refine hR _ ?_
               clear hR R
               show X _ _ _ _
               refine X_ret ?_
               show resD _ _ _ = some _
               simp only [resD, resAll, resOne, resTup, Try.results96, EVP, zg1, zg0, D.good, if_true, zmo]
               first | (simp [apD, c27]; done) | (exfalso; simp_all; done)
              ·intro b28
               have c28 := b28
               try simp only [ne_eq, beq_eq_false_iff_ne] at c28
               refine X_seq ?_
               refine X_rg fun R hR => ?_
               simp only [inr_u8, Int.reduceLE, aops, astep, awant, aeff, aop, abin, aint, ev, ofValue, St.put, zg1, zg0, zgd, zmo, if_true, zs1, zs0, and_self, b28]
               with_reducible refine hR _ ?_
               clear hR R
               show X _ _ _ _
               refine X_ite (by simp only [ev, zg1, zg0, zgd]; exact rfl) ?_ ?_
               ·intro b29
                have c29 := b29
                try simp only [beq_iff_eq] at c29
                refine X_seq ?_
                refine X_y ?_
                refine Y_k 3 fun R hR => ?_
                simp only [EVP, inr_i64, Int.reduceLE, Int.reduceNeg, aops, astep, awant, aeff, aop, abin, aint, ev, ofValue, St.put, zg1, zg0, zgd, zmo, if_true, zs1, zs0, zt1, zt0, and_self, beq_self_eq_true, c29]
                with_reducible refine hR _ ?_
                clear hR R
                simp only [zd1, zd0]
                refine Y_if 88 (by simp only [ev, zg1, zg0, zgd]; exact rfl) ?_ ?_
                ·intro b30
                 have c30 := b30
                 try simp only [bne_iff_ne, ne_eq] at c30
                 refine Y_end fun R hR => ?_
                 simp only [EVP, inr_i64, Int.reduceLE, Int.reduceNeg, aops, astep, awant, aeff, aop, abin, aint, ev, ofValue, St.put, pcall, zmc, zmn, zg1, zg0, zgd, zmo, zbs, if_true, zs1, zs0, zca, zna, and_self, beq_self_eq_true, any98, number_fn, b30]
                 with_reducible refine hR _ ?_
                 clear hR R
                 show X _ _ _ _
                 refine X_ret ?_
                 show resD _ _ _ = some _
                 simp only [resD, resAll, resOne, resTup, Try.results96, EVP, zg1, zg0, D.good, if_true, zmo]
                 first | (simp [apD, c29, b30]; done) | (exfalso; simp_all; done)
                ·intro b31
                 have c31 := b31
                 try simp only [bne_eq_false_iff_eq] at c31
                 refine Y_end fun R hR => ?_
                 simp only [EVP, inr_i64, Int.reduceLE, Int.reduceNeg, aops, astep, awant, aeff, aop, abin, ev, ofValue, St.put, pcall, zmc, zmn, zg1, zg0, zgd, zmo, Option.map_none, zbs, if_true, zs1, zs0, zca, zna, zft, if_false, and_self, bne_self_eq_false, bq_ft, any98, number_fn, c31]
                 with_reducible refine hR _ ?_
                 clear hR R
                 show X _ _ _ _
                 refine X_ret ?_
                 show resD _ _ _ = some _
                 simp only [resD, resAll, resOne, resTup, Try.results96, EVP, zg1, zg0, D.good, if_true, zmo]
                 first | (simp [apD, c29, c31]; done) | (exfalso; simp_all; done)
               ·intro b32
                have c32 := b32
                try simp only [ne_eq, beq_eq_false_iff_ne] at c32
                refine X_seq ?_
                refine X_rg fun R hR => ?_
                simp only [inr_u8, Int.reduceLE, aops, astep, awant, aeff, aop, abin, aint, ev, ofValue, St.put, zg1, zg0, zgd, zmo, if_true, zs1, zs0, and_self, b32]
                with_reducible refine hR _ ?_
                clear hR R
                show X _ _ _ _
                refine X_ite (by simp only [ev, zg1, zg0, zgd]; exact rfl) ?_ ?_
                ·intro b33
                 have c33 := b33
                 try simp only [beq_iff_eq] at c33
                 refine X_seq ?_
                 refine X_y ?_
                 refine Y_k 3 fun R hR => ?_
                 simp only [EVP, inr_i64, Int.reduceLE, Int.reduceNeg, aops, astep, awant, aeff, aop, abin, aint, ev, ofValue, St.put, zg1, zg0, zgd, zmo, if_true, zs1, zs0, zt1, zt0, and_self, beq_self_eq_true, c33]
                 with_reducible refine hR _ ?_
                 clear hR R
                 simp only [zd1, zd0]
                 refine Y_if 97 (by simp only [ev, zg1, zg0, zgd]; exact rfl) ?_ ?_
                 ·intro b34
                  have c34 := b34
                  try simp only [bne_iff_ne, ne_eq] at c34
                  refine Y_end fun R hR => ?_
                  simp only [EVP, inr_i64, Int.reduceLE, Int.reduceNeg, aops, astep, awant, aeff, aop, abin, ev, ofValue, St.put, pcall, zmc, zmn, zg1, zg0, zgd, zmo, Option.map_none, zbs, if_true, zs1, zs0, zca, zna, zft, if_false, and_self, bq_tf, any98, number_fn, b34]
                  with_reducible refine hR _ ?_
                  clear hR R
                  show X _ _ _ _
                  refine X_ret ?_
                  show resD _ _ _ = some _
                  simp only [resD, resAll, resOne, resTup, Try.results96, EVP, zg1, zg0, D.good, if_true, zmo]
                  first | (simp [apD, c33, b34]; done) | (exfalso; simp_all; done)
                 ·intro b35
                  have c35 := b35
                  try simp only [bne_eq_false_iff_eq] at c35
                  refine Y_end fun R hR => ?_
                  simp only [EVP, inr_i64, Int.reduceLE, Int.reduceNeg, aops, astep, awant, aeff, aop, abin, aint, ev, ofValue, St.put, pcall, zmc, zmn, zg1, zg0, zgd, zmo, zbs, if_true, zs1, zs0, zca, zna, zft, if_false, and_self, beq_self_eq_true, bne_self_eq_false, any98, number_fn, c35]
                  with_reducible refine hR _ ?_
                  clear hR R
                  show X _ _ _ _
                  refine X_ret ?_
                  show resD _ _ _ = some _
                  simp only [resD, resAll, resOne, resTup, Try.results96, EVP, zg1, zg0, D.good, if_true, zmo]
                  first | (simp [apD, c33, c35]; done) | (exfalso; simp_all; done)
                ·intro b36
                 have c36 := b36
                 try simp only [ne_eq, beq_eq_false_iff_ne] at c36
                 refine X_skip ?_
                 show X _ _ _ _
                 refine X_seq ?_
                 refine X_rg fun R hR => ?_
                 simp only [inr_i64, Int.reduceLE, Int.reduceNeg, aops, astep, awant, aeff, aop, ev, ofValue, St.put, zgd, zmo, if_true, zs1, zs0, and_self, b36]
                 with_reducible refine hR _ ?_
                 clear hR R
                 show X _ _ _ _
                 refine X_ret ?_
                 show resD _ _ _ = some _
                 simp only [resD, resAll, resOne, resTup, Try.results96, EVP, zg1, zg0, D.good, if_true, zmo]
                 first | (simp [apD, c2, c4, c6, c8, c10, c12, c14, c16, c18, c20, c22, c24, c26, c28, c32, c36]; done) | (exfalso; simp_all; done)

end Go.Proofs.Ytmglacjcefajlaa
