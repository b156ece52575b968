/-
  THE STATEMENT HousesFound: a tied card: who can found a house, as the law says. No condition.
-/
import Derived.Test.YtdhipjoplkpgmaaGreatDoorHHlJ
import Derived.Test.YtdhipjoplkpgmaaGreatDoorHLaw
import Derived.Test.YtdhipjoplkpgmaaGreatDoorHStA
import Derived.Test.YtdhipjoplkpgmaaGreatDoorHOwnTie
import Derived.Test.YtdhipjoplkpgmaaGreatDoorHLimC
import Derived.Test.YtdhipjoplkpgmaaGreatDoorCards
import Derived.ChangeMaps5
import Derived.ProofKit
import Derived.PinnedBridge
import Derived.SevenTiedAt
import Derived.Deep.DeepHandedRow
import Derived.Deep.DeepWitnessRowRef
import Derived.SizedLaws
import Derived.Stop.LaidErr
set_option maxRecDepth 100000
set_option linter.unusedSimpArgs false
set_option linter.unusedVariables false
set_option maxHeartbeats 800000
namespace Go.Proofs.YtdhipjoplkpgmaaGreatDoor.housesFound
open Go.ChangeShapes Go.WideShapes Go.ChangeAt Go.RowKit
open Go.Lib
open law
noncomputable def low : Nat := (World.holding Tryz.prog default ⟨#[], #[], []⟩).heap.size
noncomputable def laidWorld (os : Os) : World :=
 let w0 := World.holding Tryz.prog os ⟨#[.cells #[.string ⟨#[118, 97, 108, 117, 101, 32, 111, 117, 116, 32, 111, 102, 32, 114, 97, 110, 103, 101]⟩] 497, .cells #[.string ⟨#[105, 110, 118, 97, 108, 105, 100, 32, 115, 121, 110, 116, 97, 120]⟩] 497,
  .cells (Go.Lib.rgCells .u16 Great.T10.r16) 506, .cells #[.slice (some ⟨low + 2, 0, none⟩) 7 7, .slice none 0 0, .int .i64 2] 503], #[], []⟩
 let put (h : Array Obj) (g : Nat) (cs : Array Value) : Array Obj := h.modify g fun
  | .cells _ t frozen => .cells cs t frozen
  | o => o
 let h1 := put w0.heap 1 (Great.z1.map (Value.int .u64)).toArray
 let h2 := put h1 2 (Great.z2.map (Value.int .u8)).toArray
 let h3 := put h2 3 (Great.z3.map (Value.int .u8)).toArray
 let h4 := put h3 5 Great.accCells
 let h5 := put h4 6 #[.iface 495 (.pointer (some ⟨low + 1, 0, none⟩))]
 let h6 := put h5 7 #[.iface 495 (.pointer (some ⟨low, 0, none⟩))]
 let h7 := put h6 8 (Great.z8.map (Value.int .u8)).toArray
 let h8 := put h7 9 #[.pointer (some ⟨low + 3, 0, none⟩)]
 let h9 := put h8 4 ((Lib.firstTab.map fun z => Value.int .u8 z).toArray)
 { w0 with heap := h9 }
def args0 : Array Value := #[.agg (Array.replicate 32 (.int .u8 0)), .agg (Array.replicate 16 (.int .u8 0)), .slice none 0 0, .int .i64 0]
theorem piece (os : Os) (args : Array Value) : LaidIn Tryz.prog ((laidWorld os).forCall (fun _ _ => 0) ⟨#[], args, []⟩).memory Rows.housesFoundRow.laid [4, 5, 8, 9, low + 3, low + 2, 1, 2, 3, 6, low + 1, 7, low] :=
 LaidIn.of_run [4, 5, 8, 9, low + 3, low + 2, 1, 2, 3, 6, low + 1, 7, low] 10 (by kernel_rfl) (by kernel_rfl) (by kernel_rfl) (by kernel_rfl)
theorem witness_row (os : Os) {H : Type} (enc : TypeId × Value → H) :
  (OpenSpec.ofChange Rows.housesFoundSpec).preRow enc Tryz.prog Tryz.f3 Rows.housesFoundRow.domain false Rows.housesFoundRow.laid ((laidWorld os).forCall (fun _ _ => 0) ⟨#[], args0, []⟩).memory args0 := by
 have hw : (DataW.whole enc Tryz.prog ((laidWorld os).forCall (fun _ _ => 0) ⟨#[], args0, []⟩).memory Tryz.f3.params.toList (OpenSpec.ofChange Rows.housesFoundSpec).vars false args0.toList 8).map (fun x => (x.1, x.2.1)) =
   some ([.agg (List.replicate 32 (.lit (.int .u8 0))), .agg (List.replicate 16 (.lit (.int .u8 0))), .nil, .lit (.int .i64 0)], []) := by kernel_rfl
 obtain ⟨⟨x1, x2, x3⟩, hx, hx1⟩ := Option.map_eq_some_iff.1 hw
 simp only [Prod.mk.injEq] at hx1
 obtain ⟨rfl, rfl⟩ := hx1
 exact OpenSpec.preRow_of_cond 8 hx (by kernel_rfl) (fun k hk => by cases hk) (by kernel_rfl) (piece os _).met
theorem noHandles : (Rows.housesFoundRow.laid.filter fun x => x.2.handleName?.isSome) = [] := by kernel_rfl
theorem laidRow : Rows.housesFoundRow.laid = ("unicode/utf8.first", Rows.laid_unicode_utf8_first) :: ("unicode/utf8.acceptRanges", Rows.laid_unicode_utf8_acceptRanges) :: ("strings.asciiSpace", Rows.laid_strings_asciiSpace) :: ("unicode.White_Space", Rows.laid_unicode_White_Space) :: ("internal/strconv.uint64pow10", Lib.tabData .u64 Lib.pow10Tab) :: Rows.housesFoundRow.laid.drop 5 := by kernel_rfl
theorem powTab {W : World} (h : laidMetH Tryz.prog Rows.housesFoundRow.laid W) : hf.PowTab W := by
 have h1 : laidMet Tryz.prog Rows.housesFoundRow.laid W := by
  unfold laidMetH at h
  rw [noHandles] at h
  exact h
 rw [laidRow] at h1
 exact Lib.tabBelow_of_tabIs (Lib.tabIs_of_head (g := 1) (by kernel_rfl) (by kernel_rfl) Tryz.underlying433 Tryz.underlying282 (by kernel_rfl) (by kernel_rfl) (Go.laidMet.tail (Go.laidMet.tail (Go.laidMet.tail (Go.laidMet.tail h1)))))
theorem types0 : Readable Tryz.prog [23, 25, 26, 3] := readable_cons (by kernel_rfl) (of_decide_eq_true (by kernel_rfl)) (readable_cons (by kernel_rfl) (of_decide_eq_true (by kernel_rfl)) (readable_cons (by kernel_rfl) (of_decide_eq_true (by kernel_rfl)) (readable_cons (by kernel_rfl) (of_decide_eq_true (by kernel_rfl)) (readable_nil))))
theorem types : Readable Tryz.prog Tryz.f3.params.toList := by rw [Tryz.params3]; exact types0
theorem lifted (os : Os) (started : os.Started) (H : Type) (enc : TypeId × Value → H) :
  ReturnsInHanded {} Tryz.checked os 3 .any ((OpenSpec.ofChange Rows.housesFoundSpec).preRow enc Tryz.prog Tryz.f3 Rows.housesFoundRow.domain false Rows.housesFoundRow.laid) (Rows.housesFoundSpec.post enc Tryz.prog Tryz.f3 false true false false) := by
 refine returnsInHanded_of_row (F := default) (C := Tryz.checked) (s := OpenSpec.ofChange Rows.housesFoundSpec) own started (by kernel_rfl) Tryz.func3
  (witness_row_atRef (enc := enc) (C := Tryz.checked) false (laidWorld os) args0 rfl (by kernel_rfl) (by kernel_rfl) (by kernel_rfl) (witness_row os enc)) ?_
 intro W base args ds gs before hval0 hW _ _ _ hlaid _ _
 have hpow := powTab hlaid
 have hval : ∀ (j : Nat) t v, Tryz.f3.params[j]? = some t → args[j]? = some v → Value.okWide Tryz.prog W .any base t v := hval0
 have hW' := hW
 obtain ⟨p, q, hA0, hV, rfl, _, _⟩ := hW
 have hA : DataW.TrodAll enc Tryz.prog W 0 (fun _ => true) true Tryz.f3.params.toList args.toList ds p := hA0
 rw [Tryz.params3] at hA hval
 obtain ⟨v0, vs0, d0, ds0, p0, q0, hargs, rfl, rfl, h0, r0⟩ := trodAll_cons hA
 obtain ⟨v1, vs1, d1, ds1, p1, q1, rfl, rfl, rfl, h1, r1⟩ := trodAll_cons r0
 obtain ⟨v2, vs2, d2, ds2, p2, q2, rfl, rfl, rfl, h2, r2⟩ := trodAll_cons r1
 obtain ⟨v3, vs3, d3, ds3, p3, q3, rfl, rfl, rfl, h3, r3⟩ := trodAll_cons r2
 obtain ⟨rfl, rfl, rfl⟩ := trodAll_nil r3
 obtain rfl : args = #[v0, v1, v2, v3] := by cases args; simp_all
 obtain ⟨rfl, rfl⟩ := trodVars_none hV
 clear hA0 hval0
 obtain ⟨k, rfl, hk1, hk2⟩ := opn.octArr Tryz.underlying23 Tryz.underlying5 (by kernel_rfl) (by kernel_rfl) (hval 0 23 v0 rfl rfl) h0
 obtain ⟨f, rfl, hf1, hf2⟩ := opn.octArr Tryz.underlying25 Tryz.underlying5 (by kernel_rfl) (by kernel_rfl) (hval 1 25 v1 rfl rfl) h1
 obtain ⟨rs, ao, cap, rfl, hr, hs, hn⟩ := hf.strsArg (hval 2 26 v2 rfl rfl) h2
 obtain ⟨t, rfl, rfl, rfl, _⟩ := open_int Tryz.underlying3 (hval 3 3 v3 rfl rfl) h3
 refine (hf.found_law k hk1 hk2 t f hf1 hf2 ao cap rs W hr hs hn hpow).mono fun e W' ⟨he, hg⟩ => ?_
 subst he
 exact ⟨_, rfl, post (tb := 4) laidOut hW' rfl types rfl Tryz.underlying4 rfl hg⟩
theorem said : Rows.HousesFoundSaid :=
 OpenClaim.holds_of_wide 3 Tryz.f3 rfl rfl rfl rfl rfl rfl rfl ⟨rfl, rfl, rfl, rfl, rfl⟩ rfl rfl rfl rfl rfl lim.funcNamed' Tryz.func3 lim.joined
  (of_decide_eq_true (by kernel_rfl)) (by unfold Func.isWrapper; first | (rw [if_pos (by decide +kernel)]; kernel_rfl) | (rw [if_neg (by decide +kernel)]; exact ⟨rfl, rfl⟩))
  (fun os started H enc _ => by rw [OpenClaim.pre_eq_preRow]; exact lifted os started H enc)
theorem proved : Rows.HousesFoundCardSaid :=
 Claim7.holds_tied_plain_at .later [] [.pinned, .data, .data, .listed, .data, .data, .data, .sentinel, .sentinel] true (true, "bc075536ea3f50f80a3c399d419665fde60b5931873e351af1e4339f4b604830") true
  said (fun _ h => by cases h) (by kernel_rfl) (fun _ h => by cases h) housesFound_row_tie rfl ⟨rfl, rfl⟩ (by kernel_rfl) rfl
  (fun f fn hf hfn => by
   obtain rfl : f = 3 := Option.some.inj (lim.funcNamed'.symm.trans hf) |>.symm
   obtain rfl : fn = Tryz.f3 := (Option.some.inj (Tryz.func3.symm.trans hfn)).symm
   exact ⟨lim.looks', fun j t ht => by
    rw [Tryz.params3] at ht
    have h3 : t = 23 ∨ t = 25 ∨ t = 26 ∨ t = 3 := by
     rcases j with _ | _ | _ | _ | j <;> simp at ht <;> simp [ht.symm]
    rcases h3 with rfl | rfl | rfl | rfl
    ·exact (show Tryz.prog.wantsStandIn 23 = false by kernel_rfl)
    ·exact (show Tryz.prog.wantsStandIn 25 = false by kernel_rfl)
    ·exact (show Tryz.prog.wantsStandIn 26 = false by kernel_rfl)
    ·exact (show Tryz.prog.wantsStandIn 3 = false by kernel_rfl)⟩)
  (lim.goesBy_false rfl lim.noGo)
#print axioms proved
end Go.Proofs.YtdhipjoplkpgmaaGreatDoor.housesFound
