/- Requests, replies, answers as values; '==' and '!=' of such structs. -/
import Derived.Test.YtonfeppenhebjaaDoorReqP
import Derived.WalkSpells
namespace Go.Proofs.YtonfeppenhebjaaDoor
open Go Go.RowKit
set_option linter.unusedVariables false
set_option linter.unusedSimpArgs false
section
variable {P : Program} {d : Nat} {xs ys : Array Value} {f : Field} {fs : List Field} {a b : Value} {r s : Bool} {w : World}
theorem seq_nil : (Op.eqFields d xs ys []).run P w = .ok true w := by simp [Op.eqFields]
theorem seq_cons (hn : (f.name == "_") = false) (ha : (part f.type xs f.offset).run P w = .ok a w) (hb : (part f.type ys f.offset).run P w = .ok b w) (he : (Op.equalIn d f.type a b).run P w = .ok r w) (hr : (Op.eqFields d xs ys fs).run P w = .ok s w) :
    (Op.eqFields d xs ys (f :: fs)).run P w = .ok (r && s) w := by
  have hn' : f.name ≠ "_" := by simpa using hn
  rw [Op.eqFields]
  simp only [if_pos hn', Sem.run_bind, ha, hb, he, Result.andThen_ok]
  cases r
  · simp
  · simpa using hr
theorem seq_of {t : TypeId} {fs : Array Field} (hu : P.underlying t = some (.struct fs)) (hp : P.stoodInHeld t = false) (h : (Op.eqFields d xs ys fs.toList).run P w = .ok r w) : (Op.equalIn (d + 1) t (.agg xs) (.agg ys)).run P w = .ok r w := by
  have hf : P.fieldsOf t = fs := by simp [Program.fieldsOf, hu]
  rw [run_equalIn_struct (P := P) w d t xs ys (by rw [hf]; exact hu) hp, hf]
  exact h
theorem part_one {t : TypeId} {o : Nat} {cs : Array Value} {v : Value} (ht : (P.underlying t).map (fun d => match d with | .struct _ | .array _ _ => true | _ => false) = some false) (hv : cs[o]? = some v) : (part t cs o).run P w = .ok v w := by
  obtain ⟨d, hd, hx⟩ := Option.map_eq_some_iff.1 ht
  unfold part isAgg
  cases d <;> simp_all [run_underlying hd]
theorem part_agg {t : TypeId} {o n : Nat} {cs : Array Value} {fs : Array Field} (ht : P.underlying t = some (.struct fs)) (hi : (P.info? t).map (·.size) = some n) : (part t cs o).run P w = .ok (.agg (cs.extract o (o + n))) w := by
  obtain ⟨i, hi', hs⟩ := Option.map_eq_some_iff.1 hi
  unfold part isAgg sizeOf typeInfo
  simp [run_underlying ht, hi', hs]
end
theorem eq_int (d : Nat) (a b : Int) (w : World) : (Op.equalIn (d + 1) 3 (.int .i64 a) (.int .i64 b)).run Tryd.prog w = .ok (a == b) w := by
  simp [Op.equalIn, run_underlying Tryd.underlying3]
theorem eq_u64 (d : Nat) (a b : UInt64) (w : World) : (Op.equalIn (d + 1) 26 (.int .u64 (n64 a)) (.int .u64 (n64 b))).run Tryd.prog w = .ok (a == b) w := by
  rw [← beq_n64]
  simp [Op.equalIn, run_underlying Tryd.underlying26]
theorem eq_str (d : Nat) (a b : List UInt8) (w : World) : (Op.equalIn (d + 1) 9 (.string ⟨a.toArray⟩) (.string ⟨b.toArray⟩)).run Tryd.prog w = .ok (a == b) w := by
  simp [Op.equalIn, run_underlying Tryd.underlying9]
  rw [beq_toListBytes, ByteArray.toList_eq, ByteArray.toList_eq]
theorem aggInt : (Tryd.prog.underlying 3).map (fun d => match d with | .struct _ | .array _ _ => true | _ => false) = some false := by kernel_rfl
theorem aggU64 : (Tryd.prog.underlying 26).map (fun d => match d with | .struct _ | .array _ _ => true | _ => false) = some false := by kernel_rfl
theorem aggStr : (Tryd.prog.underlying 9).map (fun d => match d with | .struct _ | .array _ _ => true | _ => false) = some false := by kernel_rfl
theorem sizePol : (Tryd.prog.info? 28).map (·.size) = some 5 := by kernel_rfl
theorem sizeLev : (Tryd.prog.info? 32).map (·.size) = some 3 := by kernel_rfl
theorem sizeRep : (Tryd.prog.info? 34).map (·.size) = some 11 := by kernel_rfl

structure Lev where
  tat : UInt64
  index : UInt64
  count : UInt64
  deriving Inhabited, DecidableEq
structure Rep where
  code : Int
  at_ : UInt64
  retry : UInt64
  pol : Pol
  lev : Lev
  deriving Inhabited, DecidableEq
structure Ans where
  op : Int
  rep : Rep
  deriving Inhabited, DecidableEq
structure Req where
  op : Int
  key : List UInt8
  pol : Pol
  units : UInt64
  deriving Inhabited, DecidableEq
def levZ : Lev := ⟨0, 0, 0⟩
def repZ : Rep := ⟨0, 0, 0, polZ, levZ⟩
def ansZ : Ans := ⟨0, repZ⟩
def reqZ : Req := ⟨0, [], polZ, 0⟩
def polA (p : Pol) : Array Value := #[.int .i64 p.kind, .int .u64 (n64 p.gap), .int .u64 (n64 p.slack), .int .u64 (n64 p.limit), .int .u64 (n64 p.span)]
def levA (l : Lev) : Array Value := #[.int .u64 (n64 l.tat), .int .u64 (n64 l.index), .int .u64 (n64 l.count)]
def repA (r : Rep) : Array Value := #[.int .i64 r.code, .int .u64 (n64 r.at_), .int .u64 (n64 r.retry), .int .i64 r.pol.kind, .int .u64 (n64 r.pol.gap), .int .u64 (n64 r.pol.slack), .int .u64 (n64 r.pol.limit), .int .u64 (n64 r.pol.span), .int .u64 (n64 r.lev.tat), .int .u64 (n64 r.lev.index), .int .u64 (n64 r.lev.count)]
def ansA (a : Ans) : Array Value := #[.int .i64 a.op, .int .i64 a.rep.code, .int .u64 (n64 a.rep.at_), .int .u64 (n64 a.rep.retry), .int .i64 a.rep.pol.kind, .int .u64 (n64 a.rep.pol.gap), .int .u64 (n64 a.rep.pol.slack), .int .u64 (n64 a.rep.pol.limit), .int .u64 (n64 a.rep.pol.span), .int .u64 (n64 a.rep.lev.tat), .int .u64 (n64 a.rep.lev.index), .int .u64 (n64 a.rep.lev.count)]
def reqA (r : Req) : Array Value := #[.int .i64 r.op, .string ⟨r.key.toArray⟩, .int .i64 r.pol.kind, .int .u64 (n64 r.pol.gap), .int .u64 (n64 r.pol.slack), .int .u64 (n64 r.pol.limit), .int .u64 (n64 r.pol.span), .int .u64 (n64 r.units)]

theorem eqIn_pol (d : Nat) (p q : Pol) (w : World) : (Op.equalIn (d + 2) 28 (.agg (polA p)) (.agg (polA q))).run Tryd.prog w = .ok (p == q) w := by
  have h : (Op.equalIn (d + 2) 28 (.agg (polA p)) (.agg (polA q))).run Tryd.prog w = .ok (p.kind == q.kind && (p.gap == q.gap && (p.slack == q.slack && (p.limit == q.limit && (p.span == q.span && true))))) w := by
    refine seq_of Tryd.underlying28 (by kernel_rfl) ?_
    refine seq_cons (by decide) (part_one aggInt rfl) (part_one aggInt rfl) (eq_int _ _ _ _) ?_
    refine seq_cons (by decide) (part_one aggU64 rfl) (part_one aggU64 rfl) (eq_u64 _ _ _ _) ?_
    refine seq_cons (by decide) (part_one aggU64 rfl) (part_one aggU64 rfl) (eq_u64 _ _ _ _) ?_
    refine seq_cons (by decide) (part_one aggU64 rfl) (part_one aggU64 rfl) (eq_u64 _ _ _ _) ?_
    refine seq_cons (by decide) (part_one aggU64 rfl) (part_one aggU64 rfl) (eq_u64 _ _ _ _) ?_
    exact seq_nil
  refine h.trans (congrArg (fun r => Result.ok r w) ?_)
  obtain ⟨a1, a2, a3, a4, a5⟩ := p
  obtain ⟨b1, b2, b3, b4, b5⟩ := q
  rw [Bool.eq_iff_iff]
  simp
theorem eqIn_lev (d : Nat) (p q : Lev) (w : World) : (Op.equalIn (d + 2) 32 (.agg (levA p)) (.agg (levA q))).run Tryd.prog w = .ok (p == q) w := by
  have h : (Op.equalIn (d + 2) 32 (.agg (levA p)) (.agg (levA q))).run Tryd.prog w = .ok (p.tat == q.tat && (p.index == q.index && (p.count == q.count && true))) w := by
    refine seq_of Tryd.underlying32 (by kernel_rfl) ?_
    refine seq_cons (by decide) (part_one aggU64 rfl) (part_one aggU64 rfl) (eq_u64 _ _ _ _) ?_
    refine seq_cons (by decide) (part_one aggU64 rfl) (part_one aggU64 rfl) (eq_u64 _ _ _ _) ?_
    refine seq_cons (by decide) (part_one aggU64 rfl) (part_one aggU64 rfl) (eq_u64 _ _ _ _) ?_
    exact seq_nil
  refine h.trans (congrArg (fun r => Result.ok r w) ?_)
  obtain ⟨a1, a2, a3⟩ := p
  obtain ⟨b1, b2, b3⟩ := q
  rw [Bool.eq_iff_iff]
  simp
theorem eqIn_rep (d : Nat) (p q : Rep) (w : World) : (Op.equalIn (d + 3) 34 (.agg (repA p)) (.agg (repA q))).run Tryd.prog w = .ok (p == q) w := by
  have h : (Op.equalIn (d + 3) 34 (.agg (repA p)) (.agg (repA q))).run Tryd.prog w = .ok (p.code == q.code && (p.at_ == q.at_ && (p.retry == q.retry && (p.pol == q.pol && (p.lev == q.lev && true))))) w := by
    refine seq_of Tryd.underlying34 (by kernel_rfl) ?_
    refine seq_cons (by decide) (part_one aggInt rfl) (part_one aggInt rfl) (eq_int _ _ _ _) ?_
    refine seq_cons (by decide) (part_one aggU64 rfl) (part_one aggU64 rfl) (eq_u64 _ _ _ _) ?_
    refine seq_cons (by decide) (part_one aggU64 rfl) (part_one aggU64 rfl) (eq_u64 _ _ _ _) ?_
    refine seq_cons (by decide) (part_agg Tryd.underlying28 sizePol) (part_agg Tryd.underlying28 sizePol) (eqIn_pol d p.pol q.pol w) ?_
    refine seq_cons (by decide) (part_agg Tryd.underlying32 sizeLev) (part_agg Tryd.underlying32 sizeLev) (eqIn_lev d p.lev q.lev w) ?_
    exact seq_nil
  refine h.trans (congrArg (fun r => Result.ok r w) ?_)
  obtain ⟨a1, a2, a3, a4, a5⟩ := p
  obtain ⟨b1, b2, b3, b4, b5⟩ := q
  rw [Bool.eq_iff_iff]
  simp
theorem eqIn_ans (d : Nat) (p q : Ans) (w : World) : (Op.equalIn (d + 4) 36 (.agg (ansA p)) (.agg (ansA q))).run Tryd.prog w = .ok (p == q) w := by
  have h : (Op.equalIn (d + 4) 36 (.agg (ansA p)) (.agg (ansA q))).run Tryd.prog w = .ok (p.op == q.op && (p.rep == q.rep && true)) w := by
    refine seq_of Tryd.underlying36 (by kernel_rfl) ?_
    refine seq_cons (by decide) (part_one aggInt rfl) (part_one aggInt rfl) (eq_int _ _ _ _) ?_
    refine seq_cons (by decide) (part_agg Tryd.underlying34 sizeRep) (part_agg Tryd.underlying34 sizeRep) (eqIn_rep d p.rep q.rep w) ?_
    exact seq_nil
  refine h.trans (congrArg (fun r => Result.ok r w) ?_)
  obtain ⟨a1, a2⟩ := p
  obtain ⟨b1, b2⟩ := q
  rw [Bool.eq_iff_iff]
  simp
theorem eqIn_req (d : Nat) (p q : Req) (w : World) : (Op.equalIn (d + 3) 30 (.agg (reqA p)) (.agg (reqA q))).run Tryd.prog w = .ok (p == q) w := by
  have h : (Op.equalIn (d + 3) 30 (.agg (reqA p)) (.agg (reqA q))).run Tryd.prog w = .ok (p.op == q.op && (p.key == q.key && (p.pol == q.pol && (p.units == q.units && true)))) w := by
    refine seq_of Tryd.underlying30 (by kernel_rfl) ?_
    refine seq_cons (by decide) (part_one aggInt rfl) (part_one aggInt rfl) (eq_int _ _ _ _) ?_
    refine seq_cons (by decide) (part_one aggStr rfl) (part_one aggStr rfl) (eq_str _ _ _ _) ?_
    refine seq_cons (by decide) (part_agg Tryd.underlying28 sizePol) (part_agg Tryd.underlying28 sizePol) (eqIn_pol d p.pol q.pol w) ?_
    refine seq_cons (by decide) (part_one aggU64 rfl) (part_one aggU64 rfl) (eq_u64 _ _ _ _) ?_
    exact seq_nil
  refine h.trans (congrArg (fun r => Result.ok r w) ?_)
  obtain ⟨a1, a2, a3, a4⟩ := p
  obtain ⟨b1, b2, b3, b4⟩ := q
  rw [Bool.eq_iff_iff]
  simp
section
variable {P : Program} {w : World} {t : TypeId} {a b : Array Value} {r : Bool}
theorem eql_of (h : ∀ d, (Op.equalIn (d + 4) t (.agg a) (.agg b)).run P w = .ok r w) : (binOp .eql t (.agg a) (.agg b)).run P w = .ok (.bool r) w := by
  simp only [binOp]
  simp [Op.equal, Op.maxDepth, h 9996]
theorem neq_of (h : ∀ d, (Op.equalIn (d + 4) t (.agg a) (.agg b)).run P w = .ok r w) : (binOp .neq t (.agg a) (.agg b)).run P w = .ok (.bool (!r)) w := by
  simp only [binOp]
  simp [Op.equal, Op.maxDepth, h 9996]
end
theorem eql_pol (p q : Pol) (w : World) : (binOp .eql 28 (.agg (polA p)) (.agg (polA q))).run Tryd.prog w = .ok (.bool (p == q)) w := eql_of fun d => eqIn_pol (d + 2) p q w
theorem neq_rep (p q : Rep) (w : World) : (binOp .neq 34 (.agg (repA p)) (.agg (repA q))).run Tryd.prog w = .ok (.bool (!(p == q))) w := neq_of fun d => eqIn_rep (d + 1) p q w
theorem eql_lev (p q : Lev) (w : World) : (binOp .eql 32 (.agg (levA p)) (.agg (levA q))).run Tryd.prog w = .ok (.bool (p == q)) w := eql_of fun d => eqIn_lev (d + 2) p q w
theorem neq_lev (p q : Lev) (w : World) : (binOp .neq 32 (.agg (levA p)) (.agg (levA q))).run Tryd.prog w = .ok (.bool (!(p == q))) w := neq_of fun d => eqIn_lev (d + 2) p q w
theorem neq_pol (p q : Pol) (w : World) : (binOp .neq 28 (.agg (polA p)) (.agg (polA q))).run Tryd.prog w = .ok (.bool (!(p == q))) w := neq_of fun d => eqIn_pol (d + 2) p q w
theorem eql_req (p q : Req) (w : World) : (binOp .eql 30 (.agg (reqA p)) (.agg (reqA q))).run Tryd.prog w = .ok (.bool (p == q)) w := eql_of fun d => eqIn_req (d + 1) p q w
theorem neq_req (p q : Req) (w : World) : (binOp .neq 30 (.agg (reqA p)) (.agg (reqA q))).run Tryd.prog w = .ok (.bool (!(p == q))) w := neq_of fun d => eqIn_req (d + 1) p q w
theorem eql_ans (p q : Ans) (w : World) : (binOp .eql 36 (.agg (ansA p)) (.agg (ansA q))).run Tryd.prog w = .ok (.bool (p == q)) w := eql_of fun d => eqIn_ans d p q w
theorem neq_ans (p q : Ans) (w : World) : (binOp .neq 36 (.agg (ansA p)) (.agg (ansA q))).run Tryd.prog w = .ok (.bool (!(p == q))) w := neq_of fun d => eqIn_ans d p q w
end Go.Proofs.YtonfeppenhebjaaDoor
