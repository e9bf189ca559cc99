import Derived.Test.YtfgbamkopfepdaaGreatDoorRows
import Derived.Test.YtfgbamkopfepdaaGreatDoorSX
import Derived.ProofKit
import Derived.OpenShut
import Derived.LaidMore
import Derived.Lay
import Derived.Lib.LaidTab
import Derived.Stop.LaidErr
import Derived.Shelf.Vars
import Derived.HandedShaped
import Derived.MakeChecks
import Derived.SevenTiedAt
namespace Ev
open Go Go.Proofs Go.Proofs.YtfgbamkopfepdaaGreatDoor

abbrev laid : List (String × DataW Unit) := Rows.scriptKnownRow.laid

theorem star : "*errors.errorString" = "*" ++ "errors.errorString" := by decide

theorem row415 (u : TypeId) (h : Tryz.prog.typeName? 3 u = some "*errors.errorString") : u = 415 :=
  typeName_ptr_named (nm := "errors.errorString") (by rw [← star]; kernel_rfl) (by kernel_rfl) (by decide) u (by rw [← star]; exact h)

theorem var_cell {W : World} {n : String} {g : Nat} {v : Value} (hg : Tryz.prog.globalNamed n = some g) (h : W.var? Tryz.prog n = some #[v]) : W.cell? ⟨g, 0, none⟩ = some v := by
  simpa using World.var?_cell hg h 0

theorem laid_plain {W : World} (h : laidMetH Tryz.prog laid W) : laidMet Tryz.prog laid W := by
  rw [MakeChecks.laidMetH_plain _ _ _ (by kernel_rfl)] at h
  exact h

theorem size_of_shaped {W : World} (hsh : W.ShapedOpen Tryz.prog) : nGlob ≤ W.heap.size := by
  have h0 : ((begin Tryz.prog (fun _ _ => 0) default).world.heap[8]?).bind Obj.row? = some (Array.replicate 64 (.int .u8 0), 380) := by kernel_rfl
  obtain ⟨cs, hh, _⟩ := hsh.1 8 _ _ (by decide +kernel) h0
  have : 8 < W.heap.size := (Array.getElem?_eq_some_iff.1 hh).1
  exact this

theorem pow_of_laid {W : World} (h : laidMetH Tryz.prog laid W) : ∃ el fr, W.heap[1]? = some (.cells powCells.toArray el fr) := by
  rw [MakeChecks.laidMetH_plain _ _ _ (by kernel_rfl)] at h
  have h3 : laidMet Tryz.prog (("internal/strconv.uint64pow10", Lib.tabData .u64 Lib.pow10Tab) :: laid.drop 3) W := laidMet.tail (laidMet.tail h)
  have ht := Lib.tabIs_of_head (g := 1) (t := 281) (e := 90) (n := 20) (by kernel_rfl) (by kernel_rfl) (by kernel_rfl) (by kernel_rfl) (by kernel_rfl) (by kernel_rfl) h3
  have hg : Tryz.prog.globalNamed "internal/strconv.uint64pow10" = some 1 := by kernel_rfl
  unfold Lib.TabIs World.var? at ht
  rw [hg] at ht
  simp only [Option.bind_some] at ht
  split at ht
  · rename_i cs t fr hc
    cases ht
    exact ⟨t, fr, hc⟩
  · cases ht

theorem base_of {W : World} (h : laidMetH Tryz.prog laid W) (hsh : W.ShapedOpen Tryz.prog) : Base W where
  size := size_of_shaped hsh
  pow := pow_of_laid h
  mx := cell_of_shapedOpen_int (k := .i64) (t := 3) (zero := #[.int .i64 0]) hsh (by decide +kernel) (by kernel_rfl) (by kernel_rfl) (by kernel_rfl) (by kernel_rfl) (by kernel_rfl)
  syn := by
    have h5 : laidMet Tryz.prog (laid.drop 5) W := laidMet.tail (laidMet.tail (laidMet.tail (laidMet.tail (laidMet.tail (laid_plain h)))))
    obtain ⟨a, s, hv, _⟩ := laid_sentinel (g := 5) (n := "strconv.ErrSyntax") (nm := "*errors.errorString") h5 (by kernel_rfl) (by kernel_rfl) Tryz.underlying153 row415 Tryz.underlying415 Tryz.underlying417 rfl rfl Tryz.underlying9 (by kernel_rfl) (by kernel_rfl)
    exact ⟨_, .inr ⟨_, _, rfl⟩, var_cell (by kernel_rfl) hv⟩
  ran := by
    have h4 : laidMet Tryz.prog (laid.drop 4) W := laidMet.tail (laidMet.tail (laidMet.tail (laidMet.tail (laid_plain h))))
    obtain ⟨a, s, hv, _⟩ := laid_sentinel (g := 6) (n := "strconv.ErrRange") (nm := "*errors.errorString") h4 (by kernel_rfl) (by kernel_rfl) Tryz.underlying153 row415 Tryz.underlying415 Tryz.underlying417 rfl rfl Tryz.underlying9 (by kernel_rfl) (by kernel_rfl)
    exact ⟨_, .inr ⟨_, _, rfl⟩, var_cell (by kernel_rfl) hv⟩

/-- the wrap that keeps the listed variables and the world's shape. -/
theorem wrap_laid {H : Type} {enc : TypeId × Value → H} {a : Assume} {C : Checked} {os : Os} {f : FuncId} {fn : Func} {s : ChangeSpec} {conds : List PathCond} {apart fresh handsOn again : Bool} {X : World → Array Value → Prop}
    (hX : ∀ (w w' : World) (args : Array Value), w.heap = w'.heap → X w args → X w' args)
    (own : ownKnob C.prog.godebug = none) (started : os.Started) (noInit : C.prog.inits.idxOf? f = none) (hfn : C.prog.funcs[f]? = some fn)
    (witness : ∃ (w : World) (tape : Tape) (i : Input), w.os = os ∧ (w.forCall tape i).Shaped C.prog ∧ i.vars = [] ∧ Input.okWide C.prog (w.forCall tape i) .any w.heap.size f i ∧
      ((s.pre enc C.prog fn conds apart (w.forCall tape i).memory i.args ∧ X (w.forCall tape i).memory i.args) ∧ sizedMet enc C.prog fn (OpenSpec.ofChange s) apart (w.forCall tape i).memory i.args) ∧ a.holds C.prog (lone (Frame.enter C.prog f i.args .normal) [] (w.forCall tape i)))
    (contract : ∀ (W : World) (base : Nat) (args : Array Value) (ds gs : List (DataW H)) (before : List MemPlace),
      (∀ (j : Nat) t v, fn.params[j]? = some t → args[j]? = some v → Value.okWide C.prog W .any base t v) →
      DataW.Whole enc C.prog fn.params.toList s.vars apart W args.toList ds gs before →
      conds.all (PathCond.test C.prog ⟨fn.params.toList, ds, s.plain.varTypes C.prog, gs⟩) = true →
      (DataW.weightsEach C.prog (fn.params.toList ++ s.plain.varTypes C.prog) (ds ++ gs)).all (· ≤ reachBytes) = true → X W args →
      W.ShapedOpen C.prog →
      Calls C.prog f args W fun e W' => ∃ v, e = .returned v ∧ s.post enc C.prog fn apart fresh handsOn again W args v W') :
    ReturnsInHanded a C os f .any (fun w args => (s.pre enc C.prog fn conds apart w args ∧ X w args) ∧ sizedMet enc C.prog fn (OpenSpec.ofChange s) apart w args) (s.post enc C.prog fn apart fresh handsOn again) := by
  refine returnsInHanded_of_calls own started noInit witness ?_
  intro w tape i _ hsh _ hok hpre _
  obtain ⟨_, _, _, fn', hfn', _, _, _, _, hval⟩ := hok
  have e : fn' = fn := Option.some.inj (hfn'.symm.trans hfn)
  subst e
  obtain ⟨⟨⟨ds, gs, before, hw, hc⟩, hx⟩, hz⟩ := hpre
  have hw' := DataW.Whole.of_heap (w' := w.forCall tape i) (by rfl) hw
  refine (contract (w.forCall tape i) w.heap.size i.args ds gs before hval hw' hc (hz.weights hw) (hX _ _ _ (by rfl) hx) hsh).mono fun e W' ⟨v, he, hp⟩ => ?_
  subst he
  exact ChangeSpec.post_blind hp

end Ev
