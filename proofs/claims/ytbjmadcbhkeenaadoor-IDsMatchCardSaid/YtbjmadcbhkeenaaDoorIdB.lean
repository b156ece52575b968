/-
  IDsMatch: keylaw2.idOf and keylaw2.desks: an ID of a word by strings.Trim. Conditions: a word that lies in memory.
-/
import Derived.Test.YtbjmadcbhkeenaaDoorIdA
import Derived.Shelf.Strings.SlTrimAscii
import Derived.Ground.NamesProg
namespace Go.Proofs.YtbjmadcbhkeenaaDoor.idm
open Go.Shelf
def trim160_ren : Go.Shelf.Ren := ⟨fun | 160 => 7 | 232 => 9 | 231 => 8 | 227 => 10 | 234 => 12 | 233 => 11 | 236 => 14 | 235 => 13 | 228 => 15 | 271 => 18 | 151 => 17 | 197 => 16 | 120 => 21 | 152 => 20 | 260 => 19 | 137 => 22 | 119 => 23 | 224 => 24 | 225 => 25 | 217 => 26 | 266 => 27 | n => n, fun | 9 => 9 | 4 => 4 | 3 => 3 | 5 => 5 | 117 => 34 | 116 => 33 | 0 => 0 | 124 => 37 | 21 => 21 | 105 => 39 | 46 => 44 | 119 => 43 | 139 => 47 | 138 => 46 | n => n, fun | 3 => 0 | 4 => 1 | n => n⟩
theorem trim160 : Go.Proofs.Lays.n160 Tryd.prog trim160_ren := {
  mixed := by kernel_rfl
  f119 := Tryd.func23.trans (congrArg some (by kernel_rfl))
  f120 := Tryd.func21.trans (congrArg some (by kernel_rfl))
  f137 := Tryd.func22.trans (congrArg some (by kernel_rfl))
  f151 := Tryd.func17.trans (congrArg some (by kernel_rfl))
  f152 := Tryd.func20.trans (congrArg some (by kernel_rfl))
  f160 := Tryd.func7.trans (congrArg some (by kernel_rfl))
  f197 := Tryd.func16.trans (congrArg some (by kernel_rfl))
  f217 := Tryd.func26.trans (congrArg some (by kernel_rfl))
  f224 := Tryd.func24.trans (congrArg some (by kernel_rfl))
  f225 := Tryd.func25.trans (congrArg some (by kernel_rfl))
  f227 := Tryd.func10.trans (congrArg some (by kernel_rfl))
  f228 := Tryd.func15.trans (congrArg some (by kernel_rfl))
  f231 := Tryd.func8.trans (congrArg some (by kernel_rfl))
  f232 := Tryd.func9.trans (congrArg some (by kernel_rfl))
  f233 := Tryd.func11.trans (congrArg some (by kernel_rfl))
  f234 := Tryd.func12.trans (congrArg some (by kernel_rfl))
  f235 := Tryd.func13.trans (congrArg some (by kernel_rfl))
  f236 := Tryd.func14.trans (congrArg some (by kernel_rfl))
  f260 := Tryd.func19.trans (congrArg some (by kernel_rfl))
  f266 := Tryd.func27.trans (congrArg some (by kernel_rfl))
  f271 := Tryd.func18.trans (congrArg some (by kernel_rfl))
  t0 := Tryd.underlying0
  a0 := Tryd.isAgg0
  z0 := Tryd.sizeOf0
  v0 := Tryd.zeroValue0
  t3 := Tryd.underlying3
  a3 := Tryd.isAgg3
  z3 := Tryd.sizeOf3
  v3 := Tryd.zeroValue3
  t4 := Tryd.underlying4
  a4 := Tryd.isAgg4
  z4 := Tryd.sizeOf4
  v4 := Tryd.zeroValue4
  t5 := Tryd.underlying5
  a5 := Tryd.isAgg5
  z5 := Tryd.sizeOf5
  v5 := Tryd.zeroValue5
  t9 := Tryd.underlying9
  a9 := Tryd.isAgg9
  z9 := Tryd.sizeOf9
  v9 := Tryd.zeroValue9
  t21 := Tryd.underlying21
  a21 := Tryd.isAgg21
  z21 := Tryd.sizeOf21
  v21 := Tryd.zeroValue21
  t46 := Tryd.underlying44
  a46 := Tryd.isAgg44
  z46 := Tryd.sizeOf44
  v46 := Tryd.zeroValue44
  t105 := Tryd.underlying39
  a105 := Tryd.isAgg39
  z105 := Tryd.sizeOf39
  v105 := Tryd.zeroValue39
  t116 := Tryd.underlying33
  a116 := Tryd.isAgg33
  z116 := Tryd.sizeOf33
  t117 := Tryd.underlying34
  a117 := Tryd.isAgg34
  z117 := Tryd.sizeOf34
  v117 := Tryd.zeroValue34
  t119 := Tryd.underlying43
  a119 := Tryd.isAgg43
  z119 := Tryd.sizeOf43
  t124 := Tryd.underlying37
  a124 := Tryd.isAgg37
  z124 := Tryd.sizeOf37
  v124 := Tryd.zeroValue37
  t138 := Tryd.underlying46
  a138 := Tryd.isAgg46
  z138 := Tryd.sizeOf46
  v138 := Tryd.zeroValue46
  t139 := Tryd.underlying47
  a139 := Tryd.isAgg47
  z139 := Tryd.sizeOf47
  v139 := Tryd.zeroValue47
  g3 := by kernel_rfl
  g4 := by kernel_rfl }

end Go.Proofs.YtbjmadcbhkeenaaDoor.idm
namespace Go.Proofs.YtbjmadcbhkeenaaDoor.idm
open Go.RowKit Go.Lib Go.Shelf
set_option linter.unusedSimpArgs false
set_option linter.unusedVariables false
set_option pp.maxSteps 6000

def setL : List UInt8 := [97, 98, 99, 100, 101, 102, 103, 104, 105, 106, 107, 108, 109, 110, 111, 112, 113, 114, 115, 116, 117, 118, 119, 120, 121, 122, 48, 49, 50, 51, 52, 53, 54, 55, 56, 57]
theorem okC_set (c : UInt8) : setL.contains c = okC c := by
  have h : ∀ n : Fin 256, setL.contains (UInt8.ofNat n.val) = okC (UInt8.ofNat n.val) := by decide +kernel
  have := h ⟨c.toNat, c.toNat_lt⟩
  simpa using this
theorem drop_all (p : UInt8 → Bool) : ∀ l : List UInt8, l.all p = true → l.dropWhile p = []
  | [], _ => rfl
  | a :: l, h => by
    simp only [List.all_cons, Bool.and_eq_true] at h
    rw [List.dropWhile_cons, if_pos h.1]
    exact drop_all p l h.2
theorem mem_drop (p : UInt8 → Bool) (x : UInt8) (hx : p x = false) : ∀ l : List UInt8, x ∈ l → x ∈ l.dropWhile p
  | a :: l, h => by
    rw [List.dropWhile_cons]
    rcases List.mem_cons.1 h with e | h
    · subst e; rw [if_neg (by rw [hx]; decide)]; exact List.mem_cons_self ..
    · split
      · exact mem_drop p x hx l h
      · exact List.mem_cons_of_mem _ h
theorem trim_ok (l : List UInt8) : trimS l setL = [] ↔ l.all okC = true := by
  have e : (fun c => setL.contains c) = okC := funext okC_set
  unfold trimS trimLeftS trimRightS
  rw [e]
  constructor
  · intro h
    rw [List.all_eq_true]
    intro x hx
    cases hp : okC x with
    | true => rfl
    | false =>
      have h1 := mem_drop okC x hp l.reverse (List.mem_reverse.2 hx)
      have h2 := mem_drop okC x hp _ (List.mem_reverse.2 h1)
      rw [h] at h2
      cases h2
  · intro h
    have h1 := drop_all okC l.reverse (by rw [List.all_reverse]; exact h)
    rw [h1]
    rfl
theorem trim_empty (s : ByteArray) : ((⟨(trimS s.data.toList setL).toArray⟩ : ByteArray) = ⟨#[]⟩) ↔ okS s = true := by
  rw [show okS s = s.data.toList.all okC from rfl, ← trim_ok]
  constructor
  · intro h
    have := congrArg (fun b : ByteArray => b.data.toList) h
    simpa using this
  · intro h; rw [h]

set_option maxRecDepth 100000 in
theorem Trim_any (s : ByteArray) (w : World) (hs : s.size ≤ 9223372036854775807) : Calls Tryd.prog 7 #[.string s, .string ⟨#[97, 98, 99, 100, 101, 102, 103, 104, 105, 106, 107, 108, 109, 110, 111, 112, 113, 114, 115, 116, 117, 118, 119, 120, 121, 122, 48, 49, 50, 51, 52, 53, 54, 55, 56, 57]⟩] w fun e w' => e = .returned (.string ⟨(trimS s.data.toList setL).toArray⟩) ∧ Below w.heap.size w w' :=
  Any.strings_Trim_laid trim160 (by kernel_rfl) s ⟨#[97, 98, 99, 100, 101, 102, 103, 104, 105, 106, 107, 108, 109, 110, 111, 112, 113, 114, 115, 116, 117, 118, 119, 120, 121, 122, 48, 49, 50, 51, 52, 53, 54, 55, 56, 57]⟩ w hs (by decide) (ascii_of_all (by decide))
end Go.Proofs.YtbjmadcbhkeenaaDoor.idm
