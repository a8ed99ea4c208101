/- What the rows of laws over frames share: the two errors' variables. -/
import Derived.Test.YtngmhkhncimknaaDoorStmFr
import Derived.Test.YtngmhkhncimknaaDoorStmRow
import Derived.Test.YtngmhkhncimknaaDoorCards
import Derived.Test.YtngmhkhncimknaaDoorTie
import Derived.Deep.DeepWitnessRowRef
import Derived.Stop.LaidErr
import Derived.Lay
import Derived.MakeChecks
import Derived.SevenTiedAt
namespace Go.Proofs.YtngmhkhncimknaaDoor
open Go Go.Conc Go.RowKit Go.ChangeShapes Go.WideShapes Go.ChangeAt
set_option linter.unusedVariables false
set_option linter.unusedSimpArgs false

theorem cellsStr : Tryd.prog.cellsOf 9 = 1 := by kernel_rfl
theorem cellsErrS : Tryd.prog.cellsOf 71 = 1 := by kernel_rfl
theorem rowErr (u : TypeId) (h : Tryd.prog.typeName? 3 u = some "*errors.errorString") : u = 54 :=
  typeName_ptr_named (nm := "errors.errorString") (by kernel_rfl) (by kernel_rfl) (by decide) u h
theorem g1 : Tryd.prog.globalNamed "turnstile/api.ErrArg" = some 0 := by kernel_rfl
theorem g1t : (Tryd.prog.globals[0]?).map (·.type) = some 27 := by kernel_rfl
theorem g2 : Tryd.prog.globalNamed "turnstile/api.ErrLong" = some 1 := by kernel_rfl
theorem g2t : (Tryd.prog.globals[1]?).map (·.type) = some 27 := by kernel_rfl
/-- a sentinel's place, its text, and the block that bears it -/
theorem laid_err {P : Program} {n nm : String} {text : List UInt8} {r : List (String × DataW Unit)} {W : World} {g : Nat} {ti tp te ts : TypeId} {ms : Array (String × TypeId)} {f : Field}
    (h : laidMet P ((n, .iface nm (.ptr (.agg [.lit (.string text)]))) :: r) W)
    (hg : P.globalNamed n = some g) (ht : (P.globals[g]?).map (·.type) = some ti) (hi : P.underlying ti = some (.interface ms)) (hrow : ∀ u, P.typeName? 3 u = some nm → u = tp)
    (hp : P.underlying tp = some (.pointer te)) (he : P.underlying te = some (.struct #[f])) (hft : f.type = ts) (hfo : f.offset = 0) (hs : P.underlying ts = some .string) (hc : P.cellsOf te = 1) (hcs : P.cellsOf ts = 1) :
    ∃ (a : Addr) (s : ByteArray), W.cell? ⟨g, 0, none⟩ = some (.iface tp (.pointer (some a))) ∧ W.cell? a = some (.string s) ∧ s.data.toList = text ∧ ∃ c t, W.heap[a.block]? = some (.cells c t (0, 0)) := by
  obtain ⟨ps, ⟨g0, t0, cs0, f0, p0, q0, hg0, ht0, hv0, hd0, _, e0⟩, _, hrows⟩ := h
  obtain rfl := Option.some.inj (hg.symm.trans hg0)
  obtain rfl := Option.some.inj (ht.symm.trans ht0)
  subst e0
  obtain ⟨l0⟩ := cs0
  have ok0 : ∀ u v, l0 = [.iface u v] → Value.okWide P W .any 0 u v := fun u v e => by
    subst e
    exact (hrows g 0 (by simp [MemPlace.row])).2 u v (by simpa using World.var?_cell hg0 hv0 0)
  obtain ⟨a0, s0, rfl, hc0, hs0, hz0, hp0⟩ := errorString_of_trod hi hrow hp he hft hfo hs hc hcs hd0 ok0
  subst hp0
  obtain ⟨c0, t0, hb0⟩ := (hrows a0.block a0.off (by simp [MemPlace.row])).1
  exact ⟨a0, s0, by simpa using World.var?_cell hg0 hv0 0, hc0, hs0, c0, t0, hb0⟩

theorem errF_of {W : World} {r : List (String × DataW Unit)} (h : laidMetH Tryd.prog (("turnstile/api.ErrArg", Rows.laid_turnstile_api_ErrArg) :: ("turnstile/api.ErrLong", Rows.laid_turnstile_api_ErrLong) :: r) W)
    (hr : ((("turnstile/api.ErrArg", Rows.laid_turnstile_api_ErrArg) :: ("turnstile/api.ErrLong", Rows.laid_turnstile_api_ErrLong) :: r).all fun x : String × DataW Unit => x.2.handleName?.isNone) = true) : ∃ a1 a2, ErrF W a1 a2 := by
  rw [Go.MakeChecks.laidMetH_plain _ _ _ hr] at h
  obtain ⟨a1, s1, h1, _⟩ := laid_err h g1 g1t Tryd.underlying27 rowErr Tryd.underlying54 Tryd.underlying71 rfl rfl Tryd.underlying9 cellsErrS cellsStr
  obtain ⟨a2, s2, h2, _⟩ := laid_err h.tail g2 g2t Tryd.underlying27 rowErr Tryd.underlying54 Tryd.underlying71 rfl rfl Tryd.underlying9 cellsErrS cellsStr
  exact ⟨a1, a2, h1, h2⟩

/-- THE FORM of a row that leaves goroutines behind, from a good run at every start that its reading lets in -/
theorem leaving_laid {H : Type} {enc : TypeId × Value → H} {C : Checked} {os : Os} {f : FuncId} {fn : Func} {s : OpenSpec} {F : Stop.Interp} {laid : List (String × DataW Unit)}
    (own : ownKnob C.prog.godebug = none) (started : os.Started) (hfn : C.prog.funcs[f]? = some fn)
    (witness : ∃ (w : World) (tape : Tape) (i : Input), w.os = os ∧ (w.forCall tape i).Shaped C.prog ∧ i.vars = [] ∧ Input.okWide C.prog (w.forCall tape i) .any w.heap.size f i ∧
      s.preRow enc C.prog fn [] false laid (w.forCall tape i).memory i.args ∧ ({} : Assume).holds C.prog (lone (Frame.enter C.prog f i.args .normal) [] (w.forCall tape i)))
    (runs : ∀ (W : World) (base : Nat) (args : Array Value) (ds gs : List (DataW H)) (before : List MemPlace),
      (∀ (j : Nat) t v, fn.params[j]? = some t → args[j]? = some v → Value.okWide C.prog W .any base t v) →
      DataW.Whole enc C.prog fn.params.toList s.vars false W args.toList ds gs before →
      (∀ k, s.cond = some k → k H (ds ++ gs) = true) →
      (DataW.weightsEach C.prog (fn.params.toList ++ s.bare.plain.varTypes C.prog) (ds ++ gs)).all (· ≤ reachBytes) = true →
      laidMetH C.prog laid W →
      EndsRun C.prog (fun v W' => (s.at F).post enc C.prog fn false true false false W args v W') (solo (G (Frame.enter C.prog f args .normal) []) W) #[]) :
    ReturnsInLeavingWide {} C os f .any (s.preRow enc C.prog fn [] false laid) ((s.at F).post enc C.prog fn false true false false) := by
  refine returnsInLeavingWide_of_good own started witness fun w tape i _ _ _ hok hpre _ => ?_
  obtain ⟨_, _, _, g, hg, _, _, _, _, hval⟩ := hok
  obtain rfl : g = fn := Option.some.inj (hg.symm.trans hfn)
  obtain ⟨ds, gs, before, hw, _, hk⟩ := OpenSpec.pre_parts hpre.1.1
  obtain ⟨M, last, o, w', t', h1, h2, h3, h4⟩ := runs (w.forCall tape i) w.heap.size i.args ds gs before hval (DataW.Whole.of_heap (w' := w.forCall tape i) (by rfl) hw) hk (hpre.2.weights hw) (hpre.1.2.of_heap (by rfl))
  exact ⟨M, last, o, w', t', h1, h2, h3, h4.mono fun v hp => ChangeSpec.post_blind hp⟩

/-- the kit's builder of a tied card, for a program that starts goroutines -/
theorem holds_tied_goes (Lk : Looks) {p : Pinned} {s : OpenSpec} {c : OpenClaim} (kinds : List LaidKind) (tests : Bool) (har : Bool × String) (lk : Bool)
    (hc : c.holds p s) (hw : c.wfByText s = true) (htie : c.laidByTextAt Lk p kinds tests)
    (hst : c.start = .entering) (hnb : c.noBlocks = false ∧ c.again = false) (hm : p.checked.prog.mainIs = some (har.1, har.2.toList)) (hn : (!har.1 && har.2.isEmpty && !lk) = false)
    (hl : ∀ f fn, p.checked.prog.funcNamed c.func = some f → p.checked.prog.funcs[f]? = some fn → lk = p.checked.prog.looks [] ∧ ∀ (j : Nat) t, fn.params[j]? = some t → p.checked.prog.wantsStandIn t = false)
    (hg : true = c.goesBy p.checked.prog) :
    Claim7.holds p (.plain s) { stood := { row := c, standIns := [], harness := har, looks := lk }, kinds := [], alts := [], goes := true, laidByText := true, laidKinds := kinds, laidTests := tests, laidLooks := Lk } := by
  have h6 : ∀ r : OpenClaim, Claim7.isSixth { stood := { row := r, standIns := [], harness := har, looks := lk }, kinds := [] } = false := fun r => by simpa [Claim7.isSixth] using hn
  exact ⟨Claim7.tied_new_at Lk kinds tests (Claim7.new_of_sixth hc har lk hst hnb hm (h6 c) hl) hw, fun D hD => (by cases hD), htie, (fun h => by cases h), hg⟩
noncomputable def frWorld (os : Os) : World := World.laidAll Tryd.prog os Rows.streamFramesRow.laid
end Go.Proofs.YtngmhkhncimknaaDoor
