/-
  HousesFound: contracts of strconv.Itoa and strings.Join at this program (the library's, laid), of lines.line. Conditions: the table uint64pow10 is laid; short texts.
-/
import Derived.Test.YtdhipjoplkpgmaaGreatDoorHHkA
import Derived.Test.YtdhipjoplkpgmaaGreatDoorHHkB
import Derived.Test.YtdhipjoplkpgmaaGreatDoorHHfX
import Derived.Test.YtdhipjoplkpgmaaGreatDoorHHld
import Derived.Shelf.Strings.OnBuilder
import Derived.Shelf.Strconv.Itoa3
import Derived.Lib.AppendIntMem
set_option maxRecDepth 100000
set_option linter.unusedSimpArgs false
set_option linter.unusedVariables false
set_option maxHeartbeats 4000000
namespace Go.Proofs.YtdhipjoplkpgmaaGreatDoor.hf
open Go.RowKit Go.Shelf st hs wr shr sh lk
def laysJoin_ren : Go.Shelf.Ren := ⟨fun | 156 => 60 | 165 => 127 | 166 => 128 | 169 => 122 | 240 => 208 | 241 => 209 | 276 => 318 | 277 => 319 | n => n, fun | 31 => 26 | 9 => 9 | 3 => 3 | 4 => 4 | 0 => 0 | 20 => 20 | 72 => 194 | 76 => 216 | 70 => 192 | 37 => 61 | 75 => 215 | 127 => 296 | 164 => 385 | 5 => 5 | 80 => 208 | n => n, fun | n => n⟩
theorem laysJoin : Go.Proofs.Lays.n156 Tryz.prog laysJoin_ren := {
 mixed := by kernel_rfl
 f156 := Tryz.func60.trans (congrArg some (by kernel_rfl))
 f165 := Tryz.func127.trans (congrArg some (by kernel_rfl))
 f166 := Tryz.func128.trans (congrArg some (by kernel_rfl))
 f169 := Tryz.func122.trans (congrArg some (by kernel_rfl))
 f240 := Tryz.func208.trans (congrArg some (by kernel_rfl))
 f241 := Tryz.func209.trans (congrArg some (by kernel_rfl))
 f276 := Tryz.func318.trans (congrArg some (by kernel_rfl))
 f277 := Tryz.func319.trans (congrArg some (by kernel_rfl))
 t0 := Tryz.underlying0
 a0 := Tryz.isAgg0
 z0 := Tryz.sizeOf0
 v0 := Tryz.zeroValue0
 t3 := Tryz.underlying3
 a3 := Tryz.isAgg3
 z3 := Tryz.sizeOf3
 v3 := Tryz.zeroValue3
 t4 := Tryz.underlying4
 a4 := Tryz.isAgg4
 z4 := Tryz.sizeOf4
 v4 := Tryz.zeroValue4
 t9 := Tryz.underlying9
 a9 := Tryz.isAgg9
 z9 := Tryz.sizeOf9
 v9 := Tryz.zeroValue9
 t20 := Tryz.underlying20
 a20 := Tryz.isAgg20
 z20 := Tryz.sizeOf20
 v20 := Tryz.zeroValue20
 t31 := Tryz.underlying26
 a31 := Tryz.isAgg26
 z31 := Tryz.sizeOf26
 v31 := Tryz.zeroValue26
 t37 := Tryz.underlying61
 a37 := Tryz.isAgg61
 z37 := Tryz.sizeOf61
 v37 := Tryz.zeroValue61
 t70 := Tryz.underlying192
 a70 := Tryz.isAgg192
 z70 := Tryz.sizeOf192
 v70 := Tryz.zeroValue192
 t72 := Tryz.underlying194
 a72 := Tryz.isAgg194
 z72 := Tryz.sizeOf194
 v72 := Tryz.zeroValue194
 t75 := Tryz.underlying215
 a75 := Tryz.isAgg215
 z75 := Tryz.sizeOf215
 v75 := Tryz.zeroValue215
 t76 := Tryz.underlying216
 a76 := Tryz.isAgg216
 z76 := Tryz.sizeOf216
 v76 := Tryz.zeroValue216
 t127 := Tryz.underlying296
 a127 := Tryz.isAgg296
 z127 := Tryz.sizeOf296
 v127 := Tryz.zeroValue296
 t164 := Tryz.underlying385
 a164 := Tryz.isAgg385
 z164 := Tryz.sizeOf385
 v164 := Tryz.zeroValue385 }
def laysItoa_ren : Go.Shelf.Ren := ⟨fun | 171 => 57 | 243 => 123 | 246 => 201 | 283 => 307 | 284 => 308 | 285 => 309 | 286 => 310 | 129 => 219 | 317 => 389 | 318 => 390 | 319 => 391 | 320 => 392 | 337 => 443 | 338 => 444 | n => n, fun | 3 => 3 | 9 => 9 | 2 => 2 | 4 => 4 | 171 => 378 | 0 => 0 | 53 => 282 | 37 => 61 | 5 => 5 | 173 => 380 | 212 => 433 | 51 => 235 | 20 => 20 | 213 => 434 | 46 => 209 | 232 => 22 | 233 => 53 | n => n, fun | 17 => 1 | 18 => 2 | 19 => 3 | n => n⟩
theorem laysItoa : Go.Proofs.LaysM.n171 Tryz.prog laysItoa_ren := {
 mixed := by kernel_rfl
 f129 := Tryz.func219.trans (congrArg some (by kernel_rfl))
 f171 := Tryz.func57.trans (congrArg some (by kernel_rfl))
 f243 := Tryz.func123.trans (congrArg some (by kernel_rfl))
 f246 := Tryz.func201.trans (congrArg some (by kernel_rfl))
 f283 := Tryz.func307.trans (congrArg some (by kernel_rfl))
 f284 := Tryz.func308.trans (congrArg some (by kernel_rfl))
 f285 := Tryz.func309.trans (congrArg some (by kernel_rfl))
 f286 := Tryz.func310.trans (congrArg some (by kernel_rfl))
 f317 := Tryz.func389.trans (congrArg some (by kernel_rfl))
 f318 := Tryz.func390.trans (congrArg some (by kernel_rfl))
 f319 := Tryz.func391.trans (congrArg some (by kernel_rfl))
 f320 := Tryz.func392.trans (congrArg some (by kernel_rfl))
 f337 := Tryz.func443.trans (congrArg some (by kernel_rfl))
 f338 := Tryz.func444.trans (congrArg some (by kernel_rfl))
 t0 := Tryz.underlying0
 a0 := Tryz.isAgg0
 z0 := Tryz.sizeOf0
 v0 := Tryz.zeroValue0
 t2 := Tryz.underlying2
 a2 := Tryz.isAgg2
 z2 := Tryz.sizeOf2
 v2 := Tryz.zeroValue2
 t3 := Tryz.underlying3
 a3 := Tryz.isAgg3
 z3 := Tryz.sizeOf3
 v3 := Tryz.zeroValue3
 t4 := Tryz.underlying4
 a4 := Tryz.isAgg4
 z4 := Tryz.sizeOf4
 v4 := Tryz.zeroValue4
 t5 := Tryz.underlying5
 a5 := Tryz.isAgg5
 z5 := Tryz.sizeOf5
 v5 := Tryz.zeroValue5
 t9 := Tryz.underlying9
 a9 := Tryz.isAgg9
 z9 := Tryz.sizeOf9
 v9 := Tryz.zeroValue9
 t20 := Tryz.underlying20
 a20 := Tryz.isAgg20
 z20 := Tryz.sizeOf20
 v20 := Tryz.zeroValue20
 t37 := Tryz.underlying61
 a37 := Tryz.isAgg61
 z37 := Tryz.sizeOf61
 v37 := Tryz.zeroValue61
 t46 := Tryz.underlying209
 a46 := Tryz.isAgg209
 z46 := Tryz.sizeOf209
 v46 := Tryz.zeroValue209
 t51 := Tryz.underlying235
 a51 := Tryz.isAgg235
 z51 := Tryz.sizeOf235
 v51 := Tryz.zeroValue235
 t53 := Tryz.underlying282
 a53 := Tryz.isAgg282
 z53 := Tryz.sizeOf282
 v53 := Tryz.zeroValue282
 t171 := Tryz.underlying378
 a171 := Tryz.isAgg378
 z171 := Tryz.sizeOf378
 v171 := Tryz.zeroValue378
 t173 := Tryz.underlying380
 a173 := Tryz.isAgg380
 z173 := Tryz.sizeOf380
 v173 := Tryz.zeroValue380
 t212 := Tryz.underlying433
 a212 := Tryz.isAgg433
 z212 := Tryz.sizeOf433
 v212 := Tryz.zeroValue433
 t213 := Tryz.underlying434
 a213 := Tryz.isAgg434
 z213 := Tryz.sizeOf434
 t232 := Tryz.underlying22
 a232 := Tryz.isAgg22
 z232 := Tryz.sizeOf22
 v232 := Tryz.zeroValue22
 t233 := Tryz.underlying53
 a233 := Tryz.isAgg53
 z233 := Tryz.sizeOf53
 v233 := Tryz.zeroValue53
 g17 := by kernel_rfl
 g18 := by kernel_rfl
 g19 := by kernel_rfl
 i0 := by kernel_rfl
 i2 := by kernel_rfl
 i3 := by kernel_rfl
 i4 := by kernel_rfl
 i5 := by kernel_rfl
 i9 := by kernel_rfl
 i20 := by kernel_rfl
 i37 := by kernel_rfl
 i46 := by kernel_rfl
 i51 := by kernel_rfl
 i53 := by kernel_rfl
 i171 := by kernel_rfl
 i173 := by kernel_rfl
 i212 := by kernel_rfl
 i232 := by kernel_rfl
 i233 := by kernel_rfl
 m17 := by kernel_rfl
 m18 := by kernel_rfl
 m19 := by kernel_rfl }
theorem bldExtra : Builder.Extra Tryz.prog laysJoin_ren where
 sizeBuilder := by kernel_rfl
 liesBuilder := by kernel_rfl
 t5 := Tryz.underlying5
 a5 := Tryz.isAgg5
 z5 := Tryz.sizeOf5
 v5 := Tryz.zeroValue5
 infoByte := by kernel_rfl
 cellsByte := by kernel_rfl
 sizeByte := by kernel_rfl
 neB5 := by decide
def PowTab (w : World) : Prop := Lib.TabBelow Tryz.prog w.heap.size w "internal/strconv.uint64pow10" .u64 Lib.pow10Tab
theorem PowTab.on {w w' : World} {B : Nat} (h : PowTab w) (hb : Below B w w') (hB : w.heap.size ≤ B) : PowTab w' := fun w'' hb' => h w'' ((hb.mono hB).trans (hb'.mono hb.size))
theorem Itoa_ok (n : Int) (h0 : -9223372036854775808 ≤ n) (h1 : n ≤ 9223372036854775807) (w : World) (ht : PowTab w) :
  Calls Tryz.prog 57 #[.int .i64 n] w fun e w' => e = .returned (.string (strL (Lib.itoa n))) ∧ Below w.heap.size w w' := by
 refine (Any.strconv_Itoa laysItoa n h0 h1 w ht.here).mono ?_
 rintro e w' ⟨rfl, k, os, rfl⟩
 exact ⟨rfl, Lib.below_grow _ _ (Nat.le_refl _) _ _⟩
theorem Join_ok (g o c n : Nat) (xs : List ByteArray) (w : World) (hn : n = xs.length) (hcells : ∀ (j : Nat) x, xs[j]? = some x → w.cell? ⟨g, o + j, none⟩ = some (.string x)) (hg : g < w.heap.size) (hc : n ≤ c) (hN : n ≤ 1000)
  (hlen : (Lib.join (xs.map (·.data.toList)) [32]).length ≤ 1048576) :
  Calls Tryz.prog 60 #[.slice (some ⟨g, o, none⟩) n c, .string ⟨#[32]⟩] w fun e w' => e = .returned (.string (strL (Lib.join (xs.map (·.data.toList)) [32]))) ∧ Below w.heap.size w w' := by
 subst hn
 exact Any.strings_Join laysJoin bldExtra g o c xs ⟨#[32]⟩ w hcells hg (by omega) hc (by show (Lib.join (xs.map (·.data.toList)) [32]).length ≤ _; omega)
theorem linesBelow {B b : Nat} {bs : List Value} {w w' : World} (h : LinesAt B b bs w) (hb : Below w.heap.size w w') : LinesAt B b bs w' := by
 have k : ∀ p, Lib.BuilderAt 196 5 B b p bs w → Lib.BuilderAt 196 5 B b p bs w' := fun p ⟨h1, v, h2, h3, h4⟩ => ⟨h1, v, (hb.block b (Array.getElem?_eq_some_iff.1 h2).1).trans h2, owns_up h3 hb, h4⟩
 exact h.imp (k _) (k _)
theorem line_ok (B b : Nat) (bs : List UInt8) (g o c n : Nat) (xs : List ByteArray) (w : World) (h : LinesAt B b (Lib.byteCells bs) w) (hbs : bs.length ≤ 500000) (hn : n = xs.length) (hcells : ∀ (j : Nat) x, xs[j]? = some x → w.cell? ⟨g, o + j, none⟩ = some (.string x)) (hg : g < w.heap.size) (hc : n ≤ c) (hN : n ≤ 1000)
  (hlen : (Lib.join (xs.map (·.data.toList)) [32]).length ≤ 100000) (hBw : B ≤ w.heap.size) :
  Calls Tryz.prog 114 #[.pointer (some ⟨b, 0, none⟩), .slice (some ⟨g, o, none⟩) n c] w fun e w' => e = .returned (.tuple #[]) ∧ LinesAt B b (Lib.byteCells (bs ++ lineL (xs.map (·.data.toList)))) w' ∧ Below B w w' := by
 have HJD := hid (Join_ok g o c n xs w.drew hn hcells hg hc hN (by omega))
 obtain ⟨J, HJL⟩ := hidE (Lib.join (xs.map (·.data.toList)) [32])
 rw [← HJL.out] at HJD hlen
 have HF : Hid (Lib.byteCells (bs ++ lineL (xs.map (·.data.toList))) = (Lib.byteCells bs ++ Lib.byteCells J) ++ [.int .u8 10]) := hid (by
  unfold lineL
  rw [← HJL.out]
  simp [Lib.byteCells])
 rw [HF.out]
 have hbl : (Lib.byteCells bs).length ≤ 500000 := by rw [Lib.byteCells_length]; exact hbs
 have hjl : (strL J).size ≤ 100000 := by rw [strL_size]; exact hlen
 have hjl2 : (Lib.byteCells J).length ≤ 100000 := by rw [Lib.byteCells_length]; exact hlen
 have HW := fun (w' : World) (hb : Below w.heap.size w w') (h : LinesAt B b (Lib.byteCells bs) w') => hid (WriteString_ok B b (Lib.byteCells bs) (strL J) w' h (by omega) (by omega) (by have := hb.size; omega))
 have HY := fun (w' : World) (hs : B ≤ w'.heap.size) (h : LinesAt B b (Lib.byteCells bs ++ Lib.byteCells J) w') => hid (WriteByte_ok B b (Lib.byteCells bs ++ Lib.byteCells J) 10 w' h (by rw [List.length_append]; omega) hs)
 have HL := hid h
 obtain ⟨SJ, HSJ⟩ : ∃ J', Hid (J' = strL J) := ⟨_, hid rfl⟩
 rw [← HSJ.out] at HJD HW
 have HSC : Hid (Lib.strCells SJ = Lib.byteCells J) := hid (by rw [HSJ.out]; rfl)
 rw [HSC.out] at HW
 clear h hn hcells hc hlen hjl hjl2 hbl hbs
 go_enter Tryz.func114, Tryz.ntmps114
 go_wp2_with fail
 refine wp_region_held_drew (S := fun _ => True) (by kernel_rfl) trivial (fun hHeld => ?_)
 have HJ1 := hid (show Calls Tryz.prog 60 #[.slice (some ⟨g, o, none⟩) n c, .string ⟨#[32]⟩] w.drew (fun e w' => e = .returned (.string SJ) ∧ Below w.drew.heap.size w.drew w') from HJD.out)
 have HL1 : Hid (LinesAt B b (Lib.byteCells bs) w.drew) := hid (by exact HL.out)
 have hB1 : Below w.heap.size w w.drew := (Below.refl _ _).drew
 obtain ⟨x0, HX0⟩ := hidE w.drew
 rw [← HX0.out] at HJ1 HL1 hB1 ⊢
 refine tq 0 rfl ?_
 refine tq 1 rfl ?_
 refine tq 2 rfl ?_
 refine tq 3 rfl ?_
 refine e1 4 rfl fun K' hK' => ?_
 rw [if_pos (by rfl)]
 go_simp
 go_at_call 60
 refine HJ1.out.mono ?_
 rintro e x1 ⟨rfl, hb1⟩
 have hL1 := linesBelow HL1.out hb1
 have hB2 : Below w.heap.size w x1 := hB1.trans (hb1.mono hB1.size)
 refine ko hK' trivial fun hHeld => ?_
 clear hK' K'
 refine e1 5 rfl fun K' hK' => ?_
 rw [if_pos (by rfl)]
 go_simp
 go_at_call 128
 refine (HW x1 hB2 hL1).out.mono ?_
 rintro e x2 ⟨rfl, hA2, hb2⟩
 have hB3 : Below B w x2 := (hB2.mono hBw).trans hb2
 have hs2 : B ≤ x2.heap.size := by have := hB3.size; omega
 have hY2 := HY x2 hs2 (Or.inr hA2)
 refine hK'.out _ _ trivial (fun hHeld => ?_)
 clear hK' K' hL1 hA2
 try simp only [Act.put, sArr, sZ, sS]
 refine wpAnyH_done (by kernel_rfl) ?_ _
 clear hHeld
 go_wp2_with (first | (go_at_call 195; refine hY2.out.mono ?_; rintro e x3 ⟨rfl, hA3, hb3⟩))
 go_end0
 exact ⟨rfl, Or.inr hA3, hB3.trans hb3⟩
end Go.Proofs.YtdhipjoplkpgmaaGreatDoor.hf
