/-
  ScriptKnown, chapter 27's examples, is proved: the closed function returns true. Condition: the seven listed package-level variables of Go's library read as its own initialisers lay them; the card ties that to the text.
  How: an evaluator for the program's form, proved sound here (texts Ev..), is run in the kernel; strings and strconv are met by the shelf's contracts (text Shelf).
-/
import Derived.Test.YtfgbamkopfepdaaGreatDoorRows
import Derived.Test.YtfgbamkopfepdaaGreatDoorCards
import Derived.Test.YtfgbamkopfepdaaGreatDoorTie
import Derived.Test.YtfgbamkopfepdaaGreatDoorSL
import Derived.Test.YtfgbamkopfepdaaGreatDoorSG
import Derived.Test.YtfgbamkopfepdaaGreatDoorSCSn
import Derived.Test.YtfgbamkopfepdaaGreatDoorSDSn
import Derived.WalkKit
import Derived.ProofKit
import Derived.OpenShut
import Derived.SevenTiedAt
namespace Go.Proofs.YtfgbamkopfepdaaGreatDoor.scriptKnown
open Go.ChangeShapes Go.WideShapes Go.ChangeAt Go.RowKit

theorem own : ownKnob Tryz.prog.godebug = none := by kernel_rfl

set_option maxRecDepth 100000 in
theorem lifted (os : Os) (started : os.Started) (H : Type) (enc : TypeId × Value → H) :
    ReturnsInHanded {} Tryz.checked os 3 .any (fun w args => (Rows.scriptKnownSpec.pre enc Tryz.prog Tryz.f3 Rows.scriptKnownRow.domain false w args ∧ laidMetH Tryz.prog Rows.scriptKnownRow.laid w) ∧ sizedMet enc Tryz.prog Tryz.f3 (OpenSpec.ofChange Rows.scriptKnownSpec) false w args)
      (Rows.scriptKnownSpec.post enc Tryz.prog Tryz.f3 false true false false) := by
  refine Ev.wrap_laid (C := Tryz.checked) (X := fun w _ => laidMetH Tryz.prog Rows.scriptKnownRow.laid w) (fun _ _ _ hh h => h.of_heap hh) own started (by kernel_rfl) Tryz.func3
    (ChangeSpec.witness_shaped (enc := enc) (C := Tryz.checked) (os := os) (X := fun w _ => laidMetH Tryz.prog Rows.scriptKnownRow.laid w) false (World.laidAll Tryz.prog os Rows.scriptKnownRow.laid) #[] 8 (World.laidAll_os _ _ _)
      (World.shaped_of_ZipB (by kernel_rfl) (by kernel_rfl)) (by kernel_rfl) (by kernel_rfl) (by kernel_rfl)
      (by rw [MakeChecks.laidMetH_plain _ _ _ (by kernel_rfl)]; exact laidMet_laidAll _ (by kernel_rfl) (by kernel_rfl))) ?_
  intro W base args ds gs before hval0 hW _ _ hL hsh
  have hW' := hW
  obtain ⟨p, q, hA0, hV, rfl, hfz, hnd⟩ := hW
  have hA : DataW.TrodAll enc Tryz.prog W 0 (fun _ => true) true Tryz.f3.params.toList args.toList ds p := hA0
  rw [Tryz.params3] at hA
  obtain ⟨rfl, rfl, rfl⟩ := trodAll_none hA
  obtain ⟨rfl, rfl⟩ := trodVars_none hV
  clear hA0 hval0
  simp only [List.append_nil] at hW'
  refine (Ev.known_holds W (Ev.base_of hL hsh)).mono fun e W' ⟨he, h1, _, h3, h4⟩ => ?_
  subst he
  exact ⟨_, rfl, Ev.post_of_old (pa := []) (pv := []) hW' (fun _ _ _ => (trodAll_cons_mk (shut_bool Tryz.underlying4 _) trodAll_mk0)) (fun sp _ => rfl) (fun _ _ => rfl) rfl
    h1 h3 h4 (ok_one (by kernel_rfl) rfl (okWide_bool_mk Tryz.underlying4 _))⟩

theorem holds : Rows.ScriptKnownSaid :=
  OpenClaim.holds_of_wide 3 Tryz.f3 rfl rfl rfl rfl rfl rfl rfl ⟨rfl, rfl, rfl, rfl, rfl⟩ rfl rfl rfl rfl rfl card_n Tryz.func3 facts row_o row_w
    (fun os started H enc _ => lifted os started H enc)

theorem proved : Rows.ScriptKnownCardSaid :=
  Claim7.holds_tied_plain_at .later [] [.data, .data, .data, .data, .sentinel, .sentinel, .pinned] true (true, "9f936e40c1c3f30ac12fe1181fd859c2159e917695d28dd544ba7434d0b542ac") true
    holds (fun _ h => by cases h) card_w (fun _ h => by cases h) scriptKnown_row_tie rfl ⟨rfl, rfl⟩ card_m rfl
    (fun f fn hf hfn => by
      obtain rfl : f = 3 := Option.some.inj (card_n.symm.trans hf) |>.symm
      obtain rfl : fn = Tryz.f3 := (Option.some.inj (Tryz.func3.symm.trans hfn)).symm
      exact ⟨card_l, fun j t ht => by
        rw [Tryz.params3] at ht
        simp at ht⟩)
    card_g
#print axioms proved
end Go.Proofs.YtfgbamkopfepdaaGreatDoor.scriptKnown
