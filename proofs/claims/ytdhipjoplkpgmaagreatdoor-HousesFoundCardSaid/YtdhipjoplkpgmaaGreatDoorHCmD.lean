/-
  Contracts of mix.PutLong, wrap.Commit and keyref2.CommitOf. Conditions: a key of octets; a string of at most maxLen octets. HousesFound: plain: the roles' error, the octets of a body and of an entry. No condition. HousesFound: contract of ledger.rolesFault: the roles' error. Conditions: the roles lie behind the slice; each of at most maxLen octets. Contract of keyref1.Derive at a label that is a name. Conditions: a key of octets, an epoch in range. Rows of octets that a conversion of a string has laid (a mark lies behind their end): append to them. Conditions: at most 2^47 octets. HousesFound: contracts of slices.SortFunc at rows of at most one element: nothing moves. Conditions: such a row.
-/
import Derived.Test.YtdhipjoplkpgmaaGreatDoorHCmC
import Derived.Test.YtdhipjoplkpgmaaGreatDoorHWrH
import Derived.Test.YtdhipjoplkpgmaaGreatDoorHSmA
import Derived.Test.YtdhipjoplkpgmaaGreatDoorHMkX
import Derived.Lib.AppendStr
import Derived.ArgAppend
set_option maxRecDepth 100000
set_option linter.unusedSimpArgs false
set_option linter.unusedVariables false
set_option maxHeartbeats 2000000
namespace Go.Proofs.YtdhipjoplkpgmaaGreatDoor.wr
open Go.RowKit st hs shr sh
theorem o8_length (n : Int) : (o8 n).length = 8 := rfl
theorem zeroA8' : (Tryz.prog.info? 280).map (·.zero) = some (some (.agg ((List.replicate 8 (0 : Int)).map (Value.int .u8)).toArray)) := by kernel_rfl
def numsOf (s : ByteArray) : List Int := s.data.toList.map fun c => (c.toNat : Int)
theorem numsOf_octs (s : ByteArray) : Octs (numsOf s) := by
 intro c hc
 obtain ⟨x, _, rfl⟩ := List.mem_map.1 hc
 have := x.toNat_lt
 exact ⟨by omega, by omega⟩
theorem numsOf_length (s : ByteArray) : (numsOf s).length = s.size := by unfold numsOf; rw [List.length_map]; simp
theorem strOf_nums (s : ByteArray) : strOfNums (numsOf s) = s := by
 unfold strOfNums numsOf
 rw [List.map_map]
 have e : s.data.toList.map ((fun n : Int => UInt8.ofNat n.toNat) ∘ fun c : UInt8 => (c.toNat : Int)) = s.data.toList := by
  have : ∀ c : UInt8, ((fun n : Int => UInt8.ofNat n.toNat) ∘ fun c : UInt8 => (c.toNat : Int)) c = c := fun c => by
   show UInt8.ofNat ((c.toNat : Int).toNat) = c
   rw [Int.toNat_natCast]; exact UInt8.ofNat_toNat
  rw [List.map_congr_left (fun c _ => this c), List.map_id']
 rw [e]
theorem PutLong_any (ao : Option Addr) (n cap : Nat) (l : List Int) (v : Int) (w : World) (hn : n = l.length) (HR : RowI .u8 w ao l) (hlt : ∀ b, ao = some b → b.block < w.heap.size) (hno : ao = none → cap = 0) (hm : n ≤ 1048576) (hv : 0 ≤ v ∧ v ≤ 4611686018427387904) :
  Calls Tryz.prog 143 #[.slice ao n cap, .int .i64 v] w fun e w' => ∃ ao' c', e = .returned (.slice ao' (n + 8) c') ∧ Mine w' w.heap.size 5 1 (.slice ao' (n + 8) c') (n + 8) ((l ++ o8 v).map (Value.int .u8)) ∧ Below w.heap.size w w' := by
 obtain ⟨B, HB⟩ := hidE w.heap.size
 have hsz : w.heap.size = B := HB.out.symm
 obtain ⟨O, HO⟩ := hidE ((o8 v).map (Value.int .u8))
 have hOl : O.length = 8 := by rw [HO.out]; rfl
 have hO1 : ∀ u ∈ O, u.oneCell' = true := by rw [HO.out]; exact ints_one _ _
 obtain ⟨Z, HZ⟩ := hidE ((List.replicate 8 (0 : Int)).map (Value.int .u8))
 have hz8 := hid zeroA8'
 rw [← HZ.out] at hz8
 have hZl : Z.length = 8 := by rw [HZ.out]; rfl
 have ho8 := fun w => hid (longOctets v w ⟨hv.1, by omega⟩)
 rw [← HO.out] at ho8
 have hal : Tryz.prog.arrayLen 280 = 8 := by kernel_rfl
 have hv0 : ¬ v < 0 := by omega
 have hv1 : ¬ 4611686018427387904 < v := by omega
 have hwv : IntKind.u64.wrap v = v := IntWalk.u64_in _ (by omega)
 have hLN : Hid ((l.map (Value.int .u8)).length = n * 1) := by show _ = _; rw [List.length_map, hn, Nat.mul_one]
 have hEQ : Hid ((l ++ o8 v).map (Value.int .u8) = l.map (Value.int .u8) ++ O) := by show _ = _; rw [List.map_append, HO.out]
 clear hn hv
 rw [← HB.out]
 go_enter Tryz.func143, Tryz.ntmps143
 go_wp2_with (first | (go_at_call 186; refine (ho8 w).out.mono ?_; rintro e w1 ⟨rfl, hb1⟩; have hR1 := HR.below hb1; have hs1 := hb1.size) | (refine wl_allocV rfl 280 rfl Z hz8.out w1.heap.size rfl ?_; intro w2 hO2 hb2 hs2) | (refine wl_storeV rfl 280 _ _ rfl 280 w1.heap.size rfl O rfl 8 agg8 hOl Z hO2 hZl hO1 ?_; intro w3 hO3 hb3 hs3; have hb13 := hb2.trans hb3; have hR3 := hR1.below hb13; have bb3 : Below B w w3 := (hsz ▸ hb1).trans (hb13.mono (by omega)); have hs3' : B ≤ w3.heap.size := (by omega); clear hO2 hb2 hb3 hb13 hR1))
 have hnew : ∀ o, (w3.alloc o).heap[w1.heap.size + 1]? = some o := fun o => by have h := heap_alloc_new w3 o; rwa [show w3.heap.size = w1.heap.size + 1 by omega] at h
 refine (slB.Concat_two ⟨ao, n, cap, l.map (Value.int .u8)⟩ ⟨some ⟨w1.heap.size, 0, none⟩, 8, 8, O⟩ (w1.heap.size + 1) _ (hnew _) ⟨hR3.v.alloc _, hLN.out, ints_one _ _, hno⟩ ⟨(at_row hO3.lt hO3.at0).alloc _, hOl, hO1, fun h => by cases h⟩ (by simp only; omega)).mono ?_
 rintro e w4 ⟨v4, rfl, hM4, hb4⟩
 obtain ⟨ao4, c4, rfl, hc4, _⟩ := hM4.row
 go_wp2_with fail
 go_ret
 refine ⟨_, _, rfl, ?_, (bb3.alloc hs3' _).trans (hb4.mono (by simp; omega))⟩
 rw [hEQ.out]
 exact hM4.mono (by simp; omega)
end Go.Proofs.YtdhipjoplkpgmaaGreatDoor.wr
namespace Go.Proofs.YtdhipjoplkpgmaaGreatDoor.hf
open Go.RowKit st hs wr
def firstE (b : Nat → Int) : Nat → Int
 | 0 => 0
 | n + 1 => if firstE b n = 0 then b n else firstE b n
theorem firstE_zero {b : Nat → Int} : ∀ {n : Nat}, (∀ j, j < n → b j = 0) → firstE b n = 0
 | 0, _ => rfl
 | n + 1, h => by
  unfold firstE
  rw [if_pos (firstE_zero fun j hj => h j (by omega))]
  exact h n (by omega)
theorem firstE_at {b : Nat → Int} {k : Nat} (h : ∀ j, j < k → b j = 0) (hb : b k ≠ 0) : ∀ {n : Nat}, k < n → firstE b n = b k
 | 0, hk => absurd hk (by omega)
 | n + 1, hk => by
  unfold firstE
  by_cases e : k = n
  ·subst e
   rw [if_pos (firstE_zero h)]
  ·have h1 := firstE_at h hb (n := n) (by omega)
   rw [h1, if_neg hb]
theorem firstE_inv {b : Nat → Int} : ∀ {n : Nat}, firstE b n = 0 → ∀ j, j < n → b j = 0
 | 0, _, j, hj => absurd hj (by omega)
 | n + 1, h, j, hj => by
  unfold firstE at h
  by_cases e : firstE b n = 0
  ·rw [if_pos e] at h
   by_cases ej : j = n
   ·rw [ej]; exact h
   ·exact firstE_inv e j (by omega)
  ·rw [if_neg e] at h
   exact absurd h e
theorem less_flip : ∀ x y : List UInt8, (!Op.bytesLess x y) = (Op.bytesLess y x || y == x)
 | [], [] => by simp [Op.bytesLess]
 | [], b :: y => by simp [Op.bytesLess]
 | a :: x, [] => by simp [Op.bytesLess]
 | a :: x, b :: y => by
  have ih := less_flip x y
  by_cases e : a = b
  ·subst e
   simp [Op.bytesLess, UInt8.lt_irrefl, ih]
  ·have e' : ¬ b = a := fun h => e h.symm
   by_cases h : a < b
   ·have h' : ¬ b < a := fun k => by
     have := UInt8.lt_iff_toNat_lt.1 h
     have := UInt8.lt_iff_toNat_lt.1 k
     omega
    simp [Op.bytesLess, h, h', e, e']
   ·have h' : b < a := by
     have h1 : ¬ a.toNat < b.toNat := fun k => h (UInt8.lt_iff_toNat_lt.2 k)
     have h2 : a.toNat ≠ b.toNat := fun k => e (UInt8.toNat_inj.1 k)
     exact UInt8.lt_iff_toNat_lt.2 (by omega)
    simp [Op.bytesLess, h, h', e, e']
def strLe (a b : ByteArray) : Bool := Op.bytesLess a.toList b.toList || a.toList == b.toList
theorem ge_le (a b : ByteArray) : (!Op.bytesLess a.toList b.toList) = strLe b a := less_flip _ _
def roleAt (rs : List ByteArray) (i : Nat) : ByteArray := rs.getD i ⟨#[]⟩
def badAt (rs : List ByteArray) (i : Nat) : Int := if isName (roleAt rs i) = false then 6 else if (decide (0 < i) && strLe (roleAt rs i) (roleAt rs (i - 1))) = true then 9 else 0
def roleE (rs : List ByteArray) : Int := firstE (badAt rs) rs.length
def bodyE (rs : List ByteArray) : Int := if 16 < rs.length then 5 else roleE rs
theorem bodyE_names {rs : List ByteArray} (h : bodyE rs = 0) : rs.length ≤ 16 ∧ ∀ i, i < rs.length → isName (roleAt rs i) = true := by
 unfold bodyE at h
 by_cases h1 : 16 < rs.length
 ·rw [if_pos h1] at h; omega
 ·rw [if_neg h1] at h
  refine ⟨by omega, fun i hi => ?_⟩
  have h2 := firstE_inv h i hi
  unfold badAt at h2
  cases e : isName (roleAt rs i) with
  | true => rfl
  | false => rw [if_pos e] at h2; omega
def textB (s : ByteArray) : List Int := (s.size : Int) :: numsOf s
def rolesB (rs : List ByteArray) : List Int := (rs.map textB).flatten
def bodyB (f : List Int) (rs : List ByteArray) : List Int := f ++ ((rs.length : Int) :: rolesB rs)
def plainB (f : List Int) (t : Int) (b : List Int) : List Int := [75, 87, 69, 49] ++ (o8 0 ++ (o8 t ++ ([2] ++ (f ++ (List.replicate 16 0 ++ (List.replicate 32 0 ++ (o4 (b.length : Int) ++ b)))))))
def entryS (f : List Int) (t : Int) (b : List Int) : List Int := sumL 3 (plainB f t b)
def entryB (f : List Int) (t : Int) (b : List Int) : List Int := plainB f t b ++ entryS f t b
def foundE (f : List Int) (rs : List ByteArray) (t : Int) : Int := if f = List.replicate 16 0 then 2 else if bodyE rs ≠ 0 then bodyE rs else if t < 0 ∨ 1099511627776 < t then 4 else 0
theorem roleAt_get (rs : List ByteArray) {k : Nat} (h : k < rs.length) : roleAt rs k = rs[k] := by unfold roleAt; rw [getD_lt' rs _ h]
theorem rolesB_take (rs : List ByteArray) {k : Nat} (h : k < rs.length) : rolesB (rs.take (k + 1)) = rolesB (rs.take k) ++ textB (roleAt rs k) := by
 unfold rolesB
 rw [List.take_succ_eq_append_getElem h, List.map_append, List.flatten_append, roleAt_get rs h]
 simp
theorem rolesB_drop (rs : List ByteArray) {k : Nat} (h : k < rs.length) : rolesB (rs.drop k) = ((roleAt rs k).size : Int) :: (numsOf (roleAt rs k) ++ rolesB (rs.drop (k + 1))) := by
 unfold rolesB
 rw [List.drop_eq_getElem_cons h, List.map_cons, List.flatten_cons, roleAt_get rs h]
 rfl
theorem textB_octs {s : ByteArray} (h : s.size ≤ 255) : Octs (textB s) := by
 intro c hc
 rcases List.mem_cons.1 hc with rfl | hc
 ·exact ⟨by omega, by omega⟩
 ·exact numsOf_octs s c hc
theorem textB_length (s : ByteArray) : (textB s).length = s.size + 1 := by unfold textB; rw [List.length_cons, numsOf_length]
theorem rolesB_octs {rs : List ByteArray} (h : ∀ s ∈ rs, s.size ≤ 255) : Octs (rolesB rs) := by
 intro c hc
 unfold rolesB at hc
 obtain ⟨l, hl, hc⟩ := List.mem_flatten.1 hc
 obtain ⟨s, hs, rfl⟩ := List.mem_map.1 hl
 exact textB_octs (h s hs) c hc
theorem rolesB_len : ∀ {rs : List ByteArray}, (∀ s ∈ rs, s.size ≤ 32) → (rolesB rs).length ≤ 33 * rs.length
 | [], _ => Nat.le_refl _
 | s :: rs, h => by
  have ih := rolesB_len (rs := rs) fun t ht => h t (List.mem_cons_of_mem _ ht)
  have h1 := h s (List.mem_cons_self ..)
  show ((textB s :: rs.map textB).flatten).length ≤ _
  rw [List.flatten_cons, List.length_append, textB_length, List.length_cons]
  have : ((rs.map textB).flatten).length ≤ 33 * rs.length := ih
  omega
theorem isName_size {s : ByteArray} (h : isName s = true) : 0 < s.size ∧ s.size ≤ 32 := by
 unfold isName at h
 simp only [Bool.and_eq_true, decide_eq_true_eq] at h
 exact h.2
theorem bodyE_small {rs : List ByteArray} (h : bodyE rs = 0) : rs.length ≤ 16 ∧ ∀ s ∈ rs, s.size ≤ 32 := by
 obtain ⟨h1, h2⟩ := bodyE_names h
 refine ⟨h1, fun s hs => ?_⟩
 obtain ⟨i, hi, rfl⟩ := List.mem_iff_getElem.1 hs
 have := (isName_size (h2 i hi)).2
 rwa [roleAt_get rs hi] at this
theorem bodyB_octs {f : List Int} {rs : List ByteArray} (hf : Octs f) (h : bodyE rs = 0) : Octs (bodyB f rs) := by
 obtain ⟨h1, h2⟩ := bodyE_small h
 intro c hc
 rcases List.mem_append.1 hc with hc | hc
 ·exact hf c hc
 ·rcases List.mem_cons.1 hc with rfl | hc
  ·exact ⟨by omega, by omega⟩
  ·exact rolesB_octs (fun s hs => Nat.le_trans (h2 s hs) (by omega)) c hc
theorem bodyB_len {f : List Int} {rs : List ByteArray} (hf : f.length = 16) (h : bodyE rs = 0) : 17 ≤ (bodyB f rs).length ∧ (bodyB f rs).length ≤ 545 := by
 obtain ⟨h1, h2⟩ := bodyE_small h
 have h3 := rolesB_len h2
 unfold bodyB
 rw [List.length_append, hf, List.length_cons]
 omega
theorem o4_oct (n : Int) : Octs (o4 n) := by
 intro c hc
 simp only [o4, List.mem_cons, List.not_mem_nil, or_false] at hc
 rcases hc with rfl | rfl | rfl | rfl <;> exact ⟨by omega, by omega⟩
theorem zeros_oct (n : Nat) : Octs (List.replicate n (0 : Int)) := fun c hc => by rw [List.eq_of_mem_replicate hc]; exact ⟨by omega, by omega⟩
theorem plainB_length {f : List Int} (t : Int) (b : List Int) (hf : f.length = 16) : (plainB f t b).length = 89 + b.length := by
 unfold plainB
 simp only [List.length_append, o8_length, hs.o4_length, List.length_replicate, hf, List.length_cons, List.length_nil]
 omega
theorem plainB_octs {f b : List Int} (t : Int) (hf : Octs f) (hb : Octs b) : Octs (plainB f t b) := by
 have h1 : Octs [75, 87, 69, 49] := by intro c hc; simp only [List.mem_cons, List.not_mem_nil, or_false] at hc; rcases hc with rfl | rfl | rfl | rfl <;> exact ⟨by decide, by decide⟩
 have h2 : Octs [2] := by intro c hc; rw [List.mem_singleton.1 hc]; exact ⟨by decide, by decide⟩
 unfold plainB
 intro c hc
 simp only [List.mem_append] at hc
 rcases hc with hc | hc | hc | hc | hc | hc | hc | hc | hc
 ·exact h1 c hc
 ·exact o8_octs _ c hc
 ·exact o8_octs _ c hc
 ·exact h2 c hc
 ·exact hf c hc
 ·exact zeros_oct _ c hc
 ·exact zeros_oct _ c hc
 ·exact o4_oct _ c hc
 ·exact hb c hc
theorem entryS_length (f : List Int) (t : Int) (b : List Int) : (entryS f t b).length = 32 := sumL_length _ _
theorem entryS_octs (f : List Int) (t : Int) (b : List Int) : Octs (entryS f t b) := sumL_octs _ _
theorem entryB_length {f : List Int} (t : Int) (b : List Int) (hf : f.length = 16) : (entryB f t b).length = 121 + b.length := by
 unfold entryB
 rw [List.length_append, plainB_length t b hf, entryS_length]
 omega
theorem entryB_octs {f b : List Int} (t : Int) (hf : Octs f) (hb : Octs b) : Octs (entryB f t b) := by
 intro c hc
 rcases List.mem_append.1 hc with hc | hc
 ·exact plainB_octs t hf hb c hc
 ·exact entryS_octs _ _ _ c hc
end Go.Proofs.YtdhipjoplkpgmaaGreatDoor.hf
namespace Go.Proofs.YtdhipjoplkpgmaaGreatDoor.hf
open Go.RowKit st hs wr
def RowS (w : World) (ao : Option Addr) (rs : List ByteArray) : Prop :=
 rs = [] ∨ ∃ b off, ao = some ⟨b, off, none⟩ ∧ b < w.heap.size ∧ ∀ i, i < rs.length → w.cell? ⟨b, off + i, none⟩ = some (.string (roleAt rs i))
theorem RowS.below {w w' : World} {ao : Option Addr} {rs : List ByteArray} (h : RowS w ao rs) (hb : Below w.heap.size w w') : RowS w' ao rs := by
 rcases h with h | ⟨b, off, h1, h2, h3⟩
 ·exact Or.inl h
 ·exact Or.inr ⟨b, off, h1, Nat.lt_of_lt_of_le h2 hb.size, fun i hi => (hb.cell (p := ⟨b, off + i, none⟩) h2).trans (h3 i hi)⟩
theorem RowS.at {w : World} {ao : Option Addr} {rs : List ByteArray} (h : RowS w ao rs) {i : Nat} (hi : i < rs.length) : ∃ b off, ao = some ⟨b, off, none⟩ ∧ b < w.heap.size ∧ w.cell? ⟨b, off + i, none⟩ = some (.string (roleAt rs i)) := by
 rcases h with rfl | ⟨b, off, h1, h2, h3⟩
 ·simp at hi
 ·exact ⟨b, off, h1, h2, h3 i hi⟩
theorem rolesFault_any (ao : Option Addr) (cap : Nat) (rs : List ByteArray) (w : World) (hr : RowS w ao rs) (hs : ∀ i, i < rs.length → (roleAt rs i).size ≤ maxLen) (hn : rs.length ≤ 9223372036854775807) :
  Calls Tryz.prog 250 #[.slice ao rs.length cap] w fun e w' => e = .returned (.int .i64 (roleE rs)) ∧ w = w' := by
 have HS := hid hs
 have HR := hid hr
 clear hs hr
 obtain ⟨R, HRE⟩ := hidE (roleE rs)
 rw [← HRE.out]
 obtain ⟨n, Hn⟩ := hidE rs.length
 rw [← Hn.out] at hn ⊢
 go_enter Tryz.func250, Tryz.ntmps250
 go_wp2
 go_loopw [3, 4, 7] (fun i s j wr => ∃ k : Nat, k ≤ n ∧ j = .int .i64 k ∧ Hid (∀ i, i < k → badAt rs i = 0) ∧ wr = w) (fun _ _ j _ => n - (intOf j).toNat)
 case atStart => exact ⟨0, Nat.zero_le _, rfl, hid (fun i hi => absurd hi (by omega)), rfl⟩
 case round =>
  obtain ⟨k, hk, rfl, HK, rfl⟩ := hrel
  by_cases h0 : k < n
  ·have hkI : (k : Int) < (n : Int) := by omega
   have hkr : k < rs.length := by rw [← Hn.out]; exact h0
   obtain ⟨b, off, rfl, hb, hc⟩ := HR.out.at (i := k) hkr
   have hname := hid (fun w => IsName_any (roleAt rs k) w (HS.out k hkr))
   obtain ⟨S, HSS⟩ := hidE (roleAt rs k)
   rw [← HSS.out] at hc hname
   cases hN : isName S with
   | false =>
    rw [hN] at hname
    have HE : Hid (R = 6) := hid (by
     have hB : badAt rs k = 6 := by unfold badAt; rw [← HSS.out, if_pos hN]
     rw [HRE.out]; unfold roleE; rw [firstE_at HK.out (by rw [hB]; decide) hkr, hB])
    go_wp2_with (go_at_call 185; refine (hname.out _).mono ?_; rintro e w1 ⟨rfl, rfl⟩)
    go_ret
    exact ⟨by rw [HE.out]; rfl, rfl⟩
   | true =>
    rw [hN] at hname
    rcases Nat.eq_zero_or_pos k with hk0 | hkp
    ·have HB0 : Hid (∀ i, i < k + 1 → badAt rs i = 0) := hid (fun i hi => by
      have e : i = k := by omega
      rw [e]; unfold badAt; rw [← HSS.out, if_neg (by rw [hN]; decide), if_neg (by rw [hk0]; simp)])
     have hkf : ¬ (0 : Int) < (k : Int) := by omega
     clear hk0
     go_wp2_with (go_at_call 185; refine (hname.out _).mono ?_; rintro e w1 ⟨rfl, rfl⟩)
     go_roundw
     case rel => exact ⟨k + 1, by omega, by go_num, HB0, by first | rfl | trivial⟩
     case measure => simp [intOf] <;> omega
    ·obtain ⟨b', off', hbo, hb', hc'⟩ := HR.out.at (i := k - 1) (by omega)
     injection hbo with hbo
     injection hbo with e1 e2
     subst e1; subst e2
     obtain ⟨T, HT⟩ := hidE (roleAt rs (k - 1))
     rw [← HT.out] at hc'
     have hpk : (0 : Int) < (k : Int) := by omega
     have HKP := hid hkp
     clear hkp
     by_cases hL : (Op.bytesLess S.toList T.toList || S.toList == T.toList) = true
     ·have HE : Hid (R = 9) := hid (by
       have hB : badAt rs k = 9 := by unfold badAt; rw [← HSS.out, if_neg (by rw [hN]; decide), if_pos]; rw [← HT.out]; simp [strLe, hL]; have := HKP.out; omega
       rw [HRE.out]; unfold roleE; rw [firstE_at HK.out (by rw [hB]; decide) hkr, hB])
      have hq : ∀ w, (binOp .leq 9 (.string S) (.string T)).run Tryz.prog w = .ok (.bool true) w := fun w => by simp [binOp, Op.stringOp, hL]
      clear hL
      go_wp2_with (go_at_call 185; refine (hname.out _).mono ?_; rintro e w1 ⟨rfl, rfl⟩)
      go_ret
      exact ⟨by rw [HE.out]; rfl, rfl⟩
     ·have HB0 : Hid (∀ i, i < k + 1 → badAt rs i = 0) := hid (fun i hi => by
       by_cases e : i = k
       ·rw [e]; unfold badAt; rw [← HSS.out, if_neg (by rw [hN]; decide), if_neg]; rw [← HT.out]; simp only [strLe]; simp [hL]
       ·exact HK.out i (by omega))
      have hL : (Op.bytesLess S.toList T.toList || S.toList == T.toList) = false := by simpa using hL
      have hq : ∀ w, (binOp .leq 9 (.string S) (.string T)).run Tryz.prog w = .ok (.bool false) w := fun w => by simp [binOp, Op.stringOp, hL]
      clear hL
      go_wp2_with (go_at_call 185; refine (hname.out _).mono ?_; rintro e w1 ⟨rfl, rfl⟩)
      go_roundw
      case rel => exact ⟨k + 1, by omega, by go_num, HB0, by first | rfl | trivial⟩
      case measure => simp [intOf] <;> omega
  ·have hkI : ¬ (k : Int) < (n : Int) := by omega
   have HE : Hid (R = 0) := hid (by rw [HRE.out]; exact firstE_zero fun i hi => HK.out i (by rw [← Hn.out] at hi; omega))
   go_wp2
   go_ret
   exact ⟨by rw [HE.out]; rfl, rfl⟩
end Go.Proofs.YtdhipjoplkpgmaaGreatDoor.hf
namespace Go.Proofs.YtdhipjoplkpgmaaGreatDoor.wr
open Go.RowKit st hs shr sh
theorem strCells_nums {L : List Int} (hL : Octs L) : Lib.strCells (strOfNums L) = L.map (Value.int .u8) := by
 apply List.ext_getElem?
 intro i
 by_cases hi : i < L.length
 ·have h := str_cells hL i (by rw [strOfNums_size]; exact hi)
  have h2 : i < (strOfNums L).data.toList.length := by
   have h3 : (strOfNums L).data.toList.length = (strOfNums L).size := by rw [Array.length_toList]; rfl
   rw [h3, strOfNums_size]; exact hi
  unfold Lib.strCells
  rw [List.getElem?_map, List.getElem?_map, List.getElem?_eq_getElem h2, List.getElem?_eq_getElem hi]
  rw [List.getD_eq_getElem?_getD, List.getElem?_eq_getElem h2, List.getD_eq_getElem?_getD, List.getElem?_eq_getElem hi] at h
  simp only [Option.getD_some] at h
  simp only [Option.map_some, h]
 ·rw [List.getElem?_eq_none (by rw [Lib.strCells_length, strOfNums_size]; omega), List.getElem?_eq_none (by rw [List.length_map]; omega)]
theorem RefDerive_ok (k : List Int) (hk : k.length = 32) (ok : Octs k) (L : List Int) (hL : Octs L) (hname : isName (strOfNums L) = true) (e : Int) (he : 0 ≤ e ∧ e ≤ 4294967295) (w : World) :
  Calls Tryz.prog 14 #[.agg (k.map (Value.int .u8)).toArray, .string (strOfNums L), .int .i64 e] w fun r w' => r = .returned (.tuple #[.agg ((deriveL k L e).map (Value.int .u8)).toArray, .int .i64 0]) ∧ Below w.heap.size w w' := by
 obtain ⟨B, HB⟩ := hidE w.heap.size
 have hsz : w.heap.size = B := HB.out.symm
 obtain ⟨K, HK⟩ := hidE (k.map (Value.int .u8))
 have hKl : K.length = 32 := by rw [HK.out, List.length_map, hk]
 have hK1 : ∀ u ∈ K, u.oneCell' = true := by rw [HK.out]; exact ints_one _ _
 obtain ⟨Z, HZ⟩ := hidE ((List.replicate 32 (0 : Int)).map (Value.int .u8))
 have hzK := hid zeroKey
 rw [← HZ.out] at hzK
 have hZl : Z.length = 32 := by rw [HZ.out]; simp
 obtain ⟨O, HO⟩ := hidE ((o8 e).map (Value.int .u8))
 have hOl : O.length = 8 := by rw [HO.out]; rfl
 have hO1 : ∀ u ∈ O, u.oneCell' = true := by rw [HO.out]; exact ints_one _ _
 obtain ⟨S, HS⟩ : ∃ S : List Value, Hid (S = (deriveL k L e).map (Value.int .u8)) := ⟨_, rfl⟩
 have hSl : S.length = 32 := by rw [HS.out, List.length_map, deriveL_length]
 have hS1 : ∀ u ∈ S, u.oneCell' = true := by rw [HS.out]; exact ints_one _ _
 have hLn : L.length ≤ 32 := by
  have h1 := hname
  unfold isName at h1
  rw [strOfNums_size] at h1
  simp at h1
  exact h1.2.2
 have hin := fun w => hid (RefIsName_any (strOfNums L) w (by rw [strOfNums_size]; unfold maxLen; omega))
 rw [hname] at hin
 obtain ⟨q, rfl⟩ : ∃ q : Nat, e = q := ⟨e.toNat, by omega⟩
 have hlo := fun w => hid (longR (q : Int) w)
 obtain ⟨T, HT⟩ := hidE (derT k L (q : Int))
 have hTl : Hid (41 + L.length = T.length) := hid (by rw [HT.out, derT_length hk])
 have hTo : Octs T := by rw [HT.out]; exact octs_app ok (octs_app hL (octs_app oct_zero (o8_octs _)))
 obtain ⟨n, Hn⟩ := hidE L.length
 rw [← Hn.out] at hTl hLn
 have hsum := fun (y : World) (a : Option Addr) (c : Nat) (hP : Pt.Ok y ⟨a, c, T⟩) (h : a = none → c = 0 ∧ 41 + n = 0) => hid (sumR 7 oct7 a c (41 + n) T y hTl.out hP h (by omega))
 have hTS : (sumL 7 T).map (Value.int .u8) = S := by rw [HS.out, HT.out]; rfl
 rw [hTS] at hsum
 have hcl := fun (y : World) (hB : BlkV 23 y B K) => hid (cloneB (some ⟨B, 0, none⟩) 32 32 K y (at_row hB.lt hB.at0) (by rw [hKl]) hK1 (fun h => by cases h) (by decide))
 obtain ⟨s, Hs⟩ := hidE (strOfNums L)
 have hss : Hid (s.size = n) := hid (by rw [Hs.out, strOfNums_size, Hn.out])
 have hsc : Hid (Lib.strCells s = L.map (Value.int .u8)) := hid (by rw [Hs.out]; exact strCells_nums hL)
 rw [← Hs.out] at hin ⊢
 have hal : Tryz.prog.arrayLen 23 = 32 := by kernel_rfl
 have hXT : ((K ++ L.map (Value.int .u8)) ++ [Value.int .u8 0]) ++ O = T.map (Value.int .u8) := by rw [HT.out, HK.out, HO.out]; unfold derT; simp
 rw [← HK.out, ← HS.out]
 obtain ⟨i8, hi8, hz8, hsi8, hby8⟩ := (info8 : Info Tryz.prog 5 (.int .u8 0) 1 1).parts
 have hnl : (L.map (Value.int .u8)).length = n := by rw [List.length_map, Hn.out]
 have he1 : (0 : Int) ≤ (q : Int) := he.1
 have he2 : ¬ 4294967295 < (q : Int) := by omega
 have he3 : ¬ (q : Int) < 0 := by omega
 clear hk hname he hTS hL
 go_enter Tryz.func14, Tryz.ntmps14
 go_wp2_with (first | (refine wl_storeV rfl 23 _ _ rfl 23 (B + 1) rfl S rfl 32 aggKey hSl Z hR9 hZl hS1 ?_; intro w10 hR10 hb10 hs10; have bb10 := bb9.trans (hb10.mono (by omega : B ≤ _)); clear hR9 bb9 hb10) | (go_at_call 45; refine (hsum w8 ao8 c8 hPP.1 hPP.2).out.mono ?_; rintro r w9 ⟨rfl, hb9⟩; have hR9 := hR8.below hb9 hR8.lt; have bb9 := bb8.trans (hb9.mono (by omega : B ≤ _)); clear hR8 bb8 hb9 hPP) | (at_builtin; refine wl_appendS rfl _ _ 61 rfl 5 (.int .u8 0) 1 1 Tryz.underlying61 info8 rfl (by decide) (B + 2) (.slice ao6 (33 + n) c6) (33 + n) ((K ++ L.map (Value.int .u8)) ++ [.int .u8 0]) rfl hM7 (some ⟨w6.heap.size, 0, none⟩) 8 8 rfl (fun h => by cases h) O (by rw [hOl]) (at_row hO7'.lt hO7'.at0) hO1 (by unfold maxLen; omega) (by omega) hs7 (41 + n) (by omega) ?_; intro ao8 c8 w8 row8 hc8 hM8 hv8 hg8 hr8; have hR8 := hR7.grown hg8 (by intro h; have := (hr8 _ h).1; omega); have bb8 : Below B w w8 := bb7.grown hg8 (by omega) (fun k hk => by have := (hr8 k hk).1; omega); have hs8 : B + 2 ≤ w8.heap.size := Nat.le_trans hs7 hg8.size; have hPP := mine_pt (l := T) (by rw [← hXT]; exact hM8) hTl.out (by omega) hTo; clear hO7' hM8; clear hR7 bb7 hv8 hg8 hr8 hM7) | (go_at_call 46; refine (hlo w6).out.mono ?_; rintro r w7 ⟨rfl, hO7, hb7⟩; have hM7 := hM6.belowAll hb7; have hR7 := hR6.below hb7 hR6.lt; have bb7 := bb6.trans (hb7.mono (by omega : B ≤ _)); have hs7 : B + 2 ≤ w7.heap.size := Nat.le_trans hs6 hb7.size; have hO7' : BlkV 5 w7 w6.heap.size O := (by rw [HO.out]; exact BlkI.v hO7); clear hM6 hR6 bb6 hb7 hO7) | (at_builtin; refine wl_appendS rfl _ _ 61 rfl 5 (.int .u8 0) 1 1 Tryz.underlying61 info8 rfl (by decide) (B + 2) v4 (32 + n) (K ++ L.map (Value.int .u8)) rfl hM5 (some ⟨w4.heap.size, 0, none⟩) 1 1 rfl (fun h => by cases h) [.int .u8 0] rfl (at_row hN5.lt hN5.at0) (by simp [Value.oneCell']) (by unfold maxLen; omega) (by omega) hs5 (33 + n) (by omega) ?_; intro ao6 c6 w6 row6 hc6 hM6 hv6 hg6 hr6; have hR6 := hR5.grown hg6 (by intro h; have := (hr6 _ h).1; omega); have bb6 : Below B w w6 := bb5.grown hg6 (by omega) (fun k hk => by have := (hr6 k hk).1; omega); have hs6 : B + 2 ≤ w6.heap.size := Nat.le_trans hs5 hg6.size; clear hN5; clear hR5 bb5 hv6 hg6 hr6 hM5) | (refine wl_lit rfl 61 5 1 _ rfl Tryz.underlying61 (.int .u8 0) 1 1 info8 (by decide) (by decide) [.int .u8 0] (by kernel_rfl) w4.heap.size rfl ?_; intro w5 hN5 hb5 hs5'; have hM5 := hM4.belowAll hb5; have hR5 := hR4.below hb5 hR4.lt; have bb5 := bb4.trans (hb5.mono (by omega : B ≤ _)); have hs5 : B + 2 ≤ w5.heap.size := Nat.le_trans hs4 hb5.size; clear hM4 hR4 bb4 hb5 hs5') | (at_builtin; refine Lib.wpList_append_own_string w3 rfl _ _ 61 9 rfl (B + 2) 5 i8 Tryz.underlying61 Tryz.underlying9 hi8 hz8 hsi8 hby8 v 32 K rfl (mine_own hM3 (by decide)) s rfl (by rw [hss.out]; unfold maxLen; omega) (by rw [hss.out]; omega) hs3 ?_; intro v4 w4 hM4' hg4 _; have hM4 : Mine w4 (B + 2) 5 1 v4 (32 + n) (K ++ L.map (Value.int .u8)) := (by have h := hM4'; rw [hsc.out, hss.out] at h; exact Or.inl h); have hge4 : ∀ g, v.ownBlock = some g → B + 2 ≤ g := (fun g h => ((mine_own hM3 (by decide)).lt g h).1); have hR4 := hR3.grown hg4 (by intro h; have := hge4 _ h; omega); have bb4 : Below B w w4 := bb3.grown hg4 (by omega) (fun k hk => by have := hge4 k hk; omega); have hs4 : B + 2 ≤ w4.heap.size := Nat.le_trans hs3 hg4.size; clear hR3 bb3 hM3 hg4 hge4 hM4') | (go_at_call 44; refine (hcl w2 hB2).out.mono ?_; rintro r w3 ⟨v, rfl, hM3', hb3⟩; have hM3 := hM3'.mono hs2; have hR3 := hR2.below hb3 (by omega); have bb3 := bb2.trans (hb3.mono (by omega : B ≤ _)); have hs3 : B + 2 ≤ w3.heap.size := Nat.le_trans hs2 hb3.size; clear hR2 bb2 hb3 hB2 hM3') | (go_at_call 43; refine (hin w1).out.mono ?_; rintro r w2 ⟨rfl, hb2⟩; have hB2 := hB1.below hb2 (by omega); have hR2 := hR1.below hb2 (by omega); have bb2 := bb1.trans (hb2.mono (by omega : B ≤ _)); have hs2 : B + 2 ≤ w2.heap.size := (by have := hb2.size; omega); clear hB1 hR1 bb1 hb2) | (refine wl_allocV rfl 23 rfl Z hzK.out (B + 1) hs0 ?_; intro w1 hR1 hb1 hs1; have hB1 := hB0.below hb1 (by omega); have bb1 := hb0.trans (hb1.mono (by omega : B ≤ _)); clear hB0 hb0 hb1) | (refine wl_boxV rfl 23 _ rfl K rfl B hsz ?_; intro w0 hB0 hb0 hs0))
 (try simp only [Exit.inBlock, Exit.then]); refine bodyPost_ret (results_cell2 rfl _ _ _ _ rfl S (by rw [hSl]; exact aggKey) hR10.at0) rfl ?_
 exact ⟨rfl, by rw [← HB.out]; exact bb10⟩
end Go.Proofs.YtdhipjoplkpgmaaGreatDoor.wr
namespace Go.Proofs.YtdhipjoplkpgmaaGreatDoor.hf
open Go.RowKit st hs wr
def Mark (fz : Nat × Nat) (sz : Nat) : Prop := fz = (0, 0) ∨ sz ≤ fz.1
theorem mark_frozen {w : World} {g j : Nat} {cur : Array Value} {t : TypeId} {fz : Nat × Nat} (hg : w.heap[g]? = some (.cells cur t fz)) (hm : Mark fz cur.size) (hj : j < cur.size) : w.frozen? ⟨g, j, none⟩ = false := by
 obtain ⟨lo, hi⟩ := fz
 simp only [World.frozen?, hg, Bool.and_eq_false_iff, decide_eq_false_iff_not]
 rcases hm with h | h
 ·injection h with h1 h2
  right; omega
 ·left
  simp only at h
  omega
theorem run_storeCells_atM (P : Program) (g o : Nat) (t : TypeId) (fz : Nat × Nat) : ∀ (vs : List Value) (i : Nat) (cur : Array Value) (w : World), w.heap[g]? = some (.cells cur t fz) → Mark fz cur.size → o + i + vs.length ≤ cur.size → (∀ v ∈ vs, v.oneCell' = true) →
  (storeCells ⟨g, o, none⟩ vs i).run P w = .ok () (w.setRow g (cur.toList.take (o + i) ++ vs ++ cur.toList.drop (o + i + vs.length)).toArray)
 | [], i, cur, w, hg, _, _, _ => by
  simp only [storeCells, List.append_nil, List.length_nil, Nat.add_zero, List.take_append_drop, Array.toArray_toList]
  rw [setRow_self w g cur t fz hg]
  rfl
 | v :: rest, i, cur, w, hg, hm, hl, h1 => by
  have hi : o + i < cur.size := by simp at hl; omega
  have hadd : (⟨g, o, none⟩ : Addr).add i = ⟨g, o + i, none⟩ := by unfold Addr.add; split <;> simp_all
  have hcell : w.cell? ⟨g, o + i, none⟩ = some cur[o + i] := by simp [World.cell?, hg, hi]
  have hfro : w.frozen? ⟨g, o + i, none⟩ = false := mark_frozen hg hm hi
  have hst : (store ((⟨g, o, none⟩ : Addr).add i) v).run P w = .ok () (w.setRow g (cur.setIfInBounds (o + i) v)) := by
   rw [hadd, run_store P w _ v _ (h1 v (by simp)), hcell]
   simp [hfro, setCell_eq_setRow w g (o + i) cur t fz v hg]
  have ih := run_storeCells_atM P g o t fz rest (i + 1) (cur.setIfInBounds (o + i) v) (w.setRow g (cur.setIfInBounds (o + i) v)) (setRow_heap w g cur _ t _ hg) (by simpa using hm) (by simp at hl ⊢; omega) (fun x hx => h1 x (by simp [hx]))
  simp only [storeCells, Sem.run_bind, hst, Result.andThen_ok, ih, setRow_setRow]
  congr 3
  have e := list_seg_step cur.toList (o + i) v rest (by simp at hl ⊢; omega)
  simpa [Array.toList_setIfInBounds, Nat.add_assoc] using e
section
variable {P : Program} (w : World)
theorem run_append_roomM (t ty e : TypeId) (i : TypeInfo) (ht : P.underlying t = some (.slice e)) (hi : P.info? e = some i)
  (g sLen sCap : Nat) (cur : Array Value) (fz : Nat × Nat) (hg : w.heap[g]? = some (.cells cur e fz)) (hm : Mark fz cur.size)
  (a : Addr) (m c : Nat) (news : List Value) (hl : news.length = m * i.size) (hnews : ∀ j u, news[j]? = some u → w.cell? (a.add j) = some u) (h1 : ∀ u ∈ news, u.oneCell' = true)
  (hroom : sLen + m ≤ sCap) (hfit : sLen * i.size + news.length ≤ cur.size) :
  (Builtin.append_ #[t, t] ty #[.slice (some ⟨g, 0, none⟩) sLen sCap, .slice (some a) m c]).run P w =
   .ok (.slice (some ⟨g, 0, none⟩) (sLen + m) sCap) (w.setRow g (cur.toList.take (sLen * i.size) ++ news ++ cur.toList.drop (sLen * i.size + news.length)).toArray) := by
 have hf := run_firstCells_some (P := P) w i.size m a m c news hl hnews
 have hst := run_storeCells_atM P g (sLen * i.size) e fz news 0 cur w hg hm (by simpa using hfit) h1
 simp only [Nat.add_zero] at hst
 simp [Builtin.append_, run_underlying ht, sizeOf, typeInfo, hi, Builtin.lenOf, hroom, hf, Addr.add_lit, hst]
theorem run_append_room_stringM (t u ty e : TypeId) (i : TypeInfo) (ht : P.underlying t = some (.slice e)) (hu : P.underlying u = some .string) (hi : P.info? e = some i) (hs1 : i.size = 1)
  (g sLen sCap : Nat) (cur : Array Value) (fz : Nat × Nat) (hg : w.heap[g]? = some (.cells cur e fz)) (hm : Mark fz cur.size) (s : ByteArray)
  (hroom : sLen + s.size ≤ sCap) (hfit : sLen + s.size ≤ cur.size) :
  (Builtin.append_ #[t, u] ty #[.slice (some ⟨g, 0, none⟩) sLen sCap, .string s]).run P w =
   .ok (.slice (some ⟨g, 0, none⟩) (sLen + s.size) sCap) (w.setRow g (cur.toList.take sLen ++ Lib.strCells s ++ cur.toList.drop (sLen + s.size)).toArray) := by
 have hf := Lib.run_firstCells_string (P := P) w 1 s
 have hst := run_storeCells_atM P g sLen e fz (Lib.strCells s) 0 cur w hg hm (by simpa [Lib.strCells_length] using hfit) (Lib.strCells_oneCell s)
 simp only [Nat.add_zero, Lib.strCells_length] at hst
 simp [Builtin.append_, run_underlying ht, run_underlying hu, sizeOf, typeInfo, hi, hs1, Builtin.lenOf, hroom, hf, Addr.add_lit, hst]
end
def OwnM (w : World) (base : Nat) (v : Value) (n : Nat) (l : List Int) : Prop :=
 l.length = n ∧ ∃ g cap cur fz, v = .slice (some ⟨g, 0, none⟩) n cap ∧ base ≤ g ∧ w.heap[g]? = some (.cells cur 5 fz) ∧ Mark fz cur.size ∧ n ≤ cap ∧ cap ≤ maxLen ∧ cur.size = cap ∧ cur.toList.take n = l.map (Value.int .u8)
theorem OwnM.lt {w : World} {base n : Nat} {v : Value} {l : List Int} (h : OwnM w base v n l) : ∀ k, v.ownBlock = some k → base ≤ k ∧ k < w.heap.size := by
 obtain ⟨_, g, cap, cur, fz, rfl, hb, hg, _⟩ := h
 intro k hk
 simp [Value.ownBlock] at hk
 subst hk
 exact ⟨hb, (Array.getElem?_eq_some_iff.1 hg).1⟩
theorem OwnM.of {w : World} {base base' n : Nat} {v : Value} {l : List Int} (h : w.ownsRow base 5 1 v n (l.map (Value.int .u8))) (hn : 0 < n) (hb : base' ≤ base) : OwnM w base' v n l := by
 obtain ⟨h1, h2⟩ := h
 rw [List.length_map, Nat.mul_one] at h1
 refine ⟨h1, ?_⟩
 rcases h2 with ⟨_, h2⟩ | ⟨g, cap, cur, rfl, h3, h4, h5, h6, h7, h8⟩
 ·omega
 ·rw [Nat.mul_one] at h7 h8
  exact ⟨g, cap, cur, (0, 0), rfl, Nat.le_trans hb h3, h4, Or.inl rfl, h5, h6, h7, h8⟩
theorem OwnM.mono {w : World} {base base' n : Nat} {v : Value} {l : List Int} (h : OwnM w base v n l) (hb : base' ≤ base) : OwnM w base' v n l := by
 obtain ⟨h1, g, cap, cur, fz, rfl, h2, rest⟩ := h
 exact ⟨h1, g, cap, cur, fz, rfl, Nat.le_trans hb h2, rest⟩
theorem OwnM.kept {w w' : World} {base n : Nat} {v : Value} {l : List Int} {row : Option Nat} (h : OwnM w base v n l) (hg : w.grownBy w' row) (hne : v.ownBlock ≠ row) : OwnM w' base v n l := by
 obtain ⟨h1, g, cap, cur, fz, rfl, hb, hgg, rest⟩ := h
 refine ⟨h1, g, cap, cur, fz, rfl, hb, ?_, rest⟩
 rw [hg.block g (Array.getElem?_eq_some_iff.1 hgg).1 (by simpa [Value.ownBlock] using hne)]
 exact hgg
theorem OwnM.below {w w' : World} {base n B : Nat} {v : Value} {l : List Int} (h : OwnM w base v n l) (hb : Below B w w') (hB : w.heap.size ≤ B) : OwnM w' base v n l := by
 obtain ⟨h1, g, cap, cur, fz, rfl, hbg, hgg, rest⟩ := h
 exact ⟨h1, g, cap, cur, fz, rfl, hbg, by rw [hb.block g (Nat.lt_of_lt_of_le (Array.getElem?_eq_some_iff.1 hgg).1 hB)]; exact hgg, rest⟩
theorem OwnM.at {w : World} {base n : Nat} {v : Value} {l : List Int} (h : OwnM w base v n l) : ∃ g cap, v = .slice (some ⟨g, 0, none⟩) n cap ∧ base ≤ g ∧ g < w.heap.size ∧ n ≤ cap ∧ cap ≤ maxLen ∧ At w ⟨g, 0, none⟩ (l.map (Value.int .u8)) := by
 obtain ⟨h1, g, cap, cur, fz, rfl, hb, hg, _, h3, h4, h5, h6⟩ := h
 refine ⟨g, cap, rfl, hb, (Array.getElem?_eq_some_iff.1 hg).1, h3, h4, fun j u hu => ?_⟩
 have hadd : (⟨g, 0, none⟩ : Addr).add j = ⟨g, j, none⟩ := by unfold Addr.add; split <;> simp_all
 rw [hadd, cell_of_row w g j cur _ fz hg]
 rw [← h6, List.getElem?_take] at hu
 split at hu
 ·simpa using hu
 ·cases hu
theorem OwnM.pt {w : World} {base n : Nat} {v : Value} {l : List Int} (h : OwnM w base v n l) (ho : Octs l) : ∃ g cap, v = .slice (some ⟨g, 0, none⟩) n cap ∧ base ≤ g ∧ g < w.heap.size ∧ Pt.Ok w ⟨some ⟨g, 0, none⟩, cap, l⟩ := by
 have h1 := h.1
 obtain ⟨g, cap, rfl, hb, hlt, h3, h4, h5⟩ := h.at
 exact ⟨g, cap, rfl, hb, hlt, RowV.i (at_row hlt h5), by show l.length ≤ cap; omega, h4, ho, fun b e => by cases e; exact hlt⟩
theorem run_append_ownM (w : World) (ty : TypeId) (base : Nat) (v : Value) (n : Nat) (l : List Int) (hown : OwnM w base v n l) (a : Addr) (m c : Nat) (k : List Int) (hl : k.length = m) (hrow : At w a (k.map (Value.int .u8))) (hb : n + m ≤ 140737488355328) (hbase : base ≤ w.heap.size) :
  ∃ v' w', (Builtin.append_ #[61, 61] ty #[v, .slice (some a) m c]).run Tryz.prog w = .ok v' w' ∧ OwnM w' base v' (n + m) (l ++ k) ∧ w.grownBy w' v.ownBlock := by
 obtain ⟨i, hi, hz, hsi, hby⟩ := info8.parts
 have hml : (k.map (Value.int .u8)).length = m * 1 := by rw [List.length_map, hl, Nat.mul_one]
 have hlen : (l ++ k).length = n + m := by rw [List.length_append, hown.1, hl]
 have hown0 := hown
 obtain ⟨h1, g, cap, cur, fz, rfl, hbg, hg, hm, hnc, hcm, hcs, htake⟩ := hown
 by_cases hroom : n + m ≤ cap
 ·have hr := run_append_roomM (P := Tryz.prog) w 61 ty 5 i Tryz.underlying61 hi g n cap cur fz hg hm a m c _ (by rw [hsi]; exact hml) hrow (ints_one _ _) hroom (by rw [hsi, hml]; omega)
  rw [hsi, Nat.mul_one, hml, Nat.mul_one] at hr
  refine ⟨_, _, hr, ⟨hlen, g, cap, _, fz, rfl, hbg, setRow_heap w g cur _ _ _ hg, ?_, hroom, hcm, ?_, ?_⟩, ⟨rfl, rfl, rfl, by simp, fun q _ hq => setRow_other w g q _ (fun e => hq (by simp [Value.ownBlock, e]))⟩⟩
  ·have : ((cur.toList.take n ++ k.map (Value.int .u8) ++ cur.toList.drop (n + m)).toArray).size = cur.size := by
    simp only [List.size_toArray, List.length_append, List.length_take, List.length_drop, Array.length_toList, List.length_map]; omega
   rw [this]; exact hm
  ·simp only [List.size_toArray, List.length_append, List.length_take, List.length_drop, Array.length_toList, List.length_map]; omega
  ·rw [htake, List.map_append]
   have : (l.map (Value.int .u8) ++ k.map (Value.int .u8)).length = n + m := by rw [← List.map_append, List.length_map, hlen]
   rw [← this]
   exact List.take_left
 ·obtain ⟨g2, cap2, h2, _, _, _, _, hat⟩ := hown0.at
  injection h2 with e1 e2 e3
  injection e1 with e1
  injection e1 with e1
  subst e1
  obtain ⟨v', w', hrun, r1, r2⟩ := run_append_arg_grows (P := Tryz.prog) w 61 ty 5 i (.int .u8 0) 1 1 Tryz.underlying61 hi hz hsi hby rfl (by decide) ⟨g, 0, none⟩ n cap (l.map (Value.int .u8)) (by rw [List.length_map, h1, Nat.mul_one]) (fun j u hu => hat j u hu) a m c _ hml hrow (by omega) (by unfold maxLen; omega) (by omega)
  refine ⟨v', w', hrun, OwnM.of (by rw [List.map_append]; exact r1) (by omega) hbase, ?_⟩
  exact ⟨r2.os, r2.tape, r2.output, r2.size, fun q hq _ => r2.block q hq (by intro e; cases e)⟩
theorem run_append_own_stringM (w : World) (ty : TypeId) (base : Nat) (v : Value) (n : Nat) (l : List Int) (hown : OwnM w base v n l) (s : ByteArray) (hb : n + s.size ≤ 140737488355328) (hbase : base ≤ w.heap.size) (hn : 0 < n) :
  ∃ v' w', (Builtin.append_ #[61, 9] ty #[v, .string s]).run Tryz.prog w = .ok v' w' ∧ OwnM w' base v' (n + s.size) (l ++ wr.numsOf s) ∧ w.grownBy w' v.ownBlock := by
 obtain ⟨i, hi, hz, hsi, hby⟩ := info8.parts
 have es : Lib.strCells s = (wr.numsOf s).map (Value.int .u8) := by unfold Lib.strCells wr.numsOf; rw [List.map_map]; rfl
 have hml : ((wr.numsOf s).map (Value.int .u8)).length = s.size := by rw [List.length_map, numsOf_length]
 have hlen : (l ++ wr.numsOf s).length = n + s.size := by rw [List.length_append, hown.1, numsOf_length]
 have hown0 := hown
 obtain ⟨h1, g, cap, cur, fz, rfl, hbg, hg, hm, hnc, hcm, hcs, htake⟩ := hown
 by_cases hroom : n + s.size ≤ cap
 ·have hr := run_append_room_stringM (P := Tryz.prog) w 61 9 ty 5 i Tryz.underlying61 Tryz.underlying9 hi hsi g n cap cur fz hg hm s hroom (by omega)
  rw [es] at hr
  refine ⟨_, _, hr, ⟨hlen, g, cap, _, fz, rfl, hbg, setRow_heap w g cur _ _ _ hg, ?_, hroom, hcm, ?_, ?_⟩, ⟨rfl, rfl, rfl, by simp, fun q _ hq => setRow_other w g q _ (fun e => hq (by simp [Value.ownBlock, e]))⟩⟩
  ·have : ((cur.toList.take n ++ (wr.numsOf s).map (Value.int .u8) ++ cur.toList.drop (n + s.size)).toArray).size = cur.size := by
    simp only [List.size_toArray, List.length_append, List.length_take, List.length_drop, Array.length_toList, List.length_map, numsOf_length]; omega
   rw [this]; exact hm
  ·simp only [List.size_toArray, List.length_append, List.length_take, List.length_drop, Array.length_toList, List.length_map, numsOf_length]; omega
  ·rw [htake, List.map_append]
   have : (l.map (Value.int .u8) ++ (wr.numsOf s).map (Value.int .u8)).length = n + s.size := by rw [← List.map_append, List.length_map, hlen]
   rw [← this]
   exact List.take_left
 ·obtain ⟨g2, cap2, h2, _, _, _, _, hat⟩ := hown0.at
  injection h2 with e1 e2 e3
  injection e1 with e1
  injection e1 with e1
  subst e1
  have hr := Lib.run_append_grow_string (P := Tryz.prog) w 61 9 ty 5 i (.int .u8 0) Tryz.underlying61 Tryz.underlying9 hi hz ⟨g, 0, none⟩ n cap (l.map (Value.int .u8)) (by rw [hsi, List.length_map, h1, Nat.mul_one]) (fun j u hu => hat j u hu) s (by omega) (by omega) (by rw [hby]; exact growslice_fits (by omega) (by omega))
  have hge := grownCap_ge w (n + s.size) cap 5
  have hcm2 : grownCap w (n + s.size) cap 5 ≤ maxLen := grownCap_le_maxLen w (n + s.size) cap 5 (by unfold maxLen; omega)
  rw [es] at hr
  refine ⟨_, _, hr, ⟨hlen, w.heap.size, _, _, (0, 0), rfl, hbase, heap_alloc_new w.drew _, Or.inl rfl, hge, hcm2, ?_, ?_⟩, ⟨rfl, rfl, rfl, by simp, fun q hq _ => Below.heap_alloc w.drew _ q hq⟩⟩
  ·have hz1 : (Value.int IntKind.u8 0).cells.size = 1 := rfl
   simp only [Array.size_append, List.size_toArray, size_zeroCells, hz1, List.length_map, numsOf_length, h1]
   omega
  ·simp only [Array.toList_append, List.append_assoc]
   rw [← List.append_assoc, ← List.map_append]
   have : ((l ++ wr.numsOf s).map (Value.int .u8)).length = n + s.size := by rw [List.length_map, hlen]
   rw [← this]
   exact List.take_left
theorem wl_appendM {w : World} {ops : Array Oper} {rest : List Oper} {o : Oper} {a : Act} {Q : Exit → Act → World → Prop} (hgd : o.guard = none) (s x : Operand) (ho : o.op = .call { callee := .builtin .append, args := #[s, x], argTypes := #[61, 61] })
  (base : Nat) (v : Value) (n : Nat) (l : List Int) (hs : a.eval s = v) (hown : OwnM w base v n l) (ad : Addr) (m c : Nat) (hx : a.eval x = .slice (some ad) m c) (k : List Int) (hl : k.length = m) (hrow : At w ad (k.map (Value.int .u8))) (hb : n + m ≤ 140737488355328) (hbase : base ≤ w.heap.size) (N : Nat) (hN : N = n + m)
  (hK : ∀ g c w', OwnM w' base (.slice (some ⟨g, 0, none⟩) N c) N (l ++ k) → Below base w w' → wpList Tryz.prog ops Q rest (a.put o.dst (.slice (some ⟨g, 0, none⟩) N c)) w') : wpList Tryz.prog ops Q (o :: rest) a w := by
 subst hN
 refine wpList_plain hgd fun K hK' => ?_
 obtain ⟨v', w', hrun, r1, r2⟩ := run_append_ownM w o.type base v n l hown ad m c k hl hrow hb hbase
 obtain ⟨g, cap, rfl, _⟩ := r1.at
 unfold Oper.wp
 simp [execOp, ho, resolve, invoke, builtin, hs, hx, hrun, Result.andThen]
 exact hK' _ _ (hK _ _ w' r1 ((Below.refl _ _).grown r2 hbase (fun k hk => (hown.lt k hk).1)))
theorem wl_appendMT {w : World} {ops : Array Oper} {rest : List Oper} {o : Oper} {a : Act} {Q : Exit → Act → World → Prop} (hgd : o.guard = none) (s x : Operand) (ho : o.op = .call { callee := .builtin .append, args := #[s, x], argTypes := #[61, 9] })
  (base : Nat) (v : Value) (n : Nat) (l : List Int) (hs : a.eval s = v) (hown : OwnM w base v n l) (hn : 0 < n) (t : ByteArray) (hx : a.eval x = .string t) (m : Nat) (hm : t.size = m) (hb : n + m ≤ 140737488355328) (hbase : base ≤ w.heap.size) (N : Nat) (hN : N = n + m)
  (hK : ∀ g c w', OwnM w' base (.slice (some ⟨g, 0, none⟩) N c) N (l ++ wr.numsOf t) → Below base w w' → wpList Tryz.prog ops Q rest (a.put o.dst (.slice (some ⟨g, 0, none⟩) N c)) w') : wpList Tryz.prog ops Q (o :: rest) a w := by
 subst hm; subst hN
 refine wpList_plain hgd fun K hK' => ?_
 obtain ⟨v', w', hrun, r1, r2⟩ := run_append_own_stringM w o.type base v n l hown t hb hbase hn
 obtain ⟨g, cap, rfl, _⟩ := r1.at
 unfold Oper.wp
 simp [execOp, ho, resolve, invoke, builtin, hs, hx, hrun, Result.andThen]
 exact hK' _ _ (hK _ _ w' r1 ((Below.refl _ _).grown r2 hbase (fun k hk => (hown.lt k hk).1)))
theorem wl_convM {w : World} {ops : Array Oper} {rest : List Oper} {o : Oper} {a : Act} {Q : Exit → Act → World → Prop} (hgd : o.guard = none) (x : Operand) (ho : o.op = .convert 9 61 x) (s : ByteArray) (m : Nat) (hm : s.size = m) (hb : m ≤ 1099511627776)
  (hx : a.eval x = .string s) (N : Nat) (hN : w.heap.size = N)
  (hK : ∀ c w', OwnM w' N (.slice (some ⟨N, 0, none⟩) m c) m (wr.numsOf s) → Below N w w' → w'.heap.size = N + 1 → wpList Tryz.prog ops Q rest (a.put o.dst (.slice (some ⟨N, 0, none⟩) m c)) w') : wpList Tryz.prog ops Q (o :: rest) a w := by
 subst hN; subst hm
 have hrun := Lib.run_convert_string_bytes (P := Tryz.prog) w 9 61 5 s Tryz.underlying9 Tryz.underlying61 Tryz.underlying5
 have hsz : (Lib.bytesCells w 5 s).size = grownCap w s.size 0 5 := by
  have := grownCap_ge w s.size 0 5
  simp [Lib.bytesCells]
  omega
 refine wpList_plain hgd fun K hK' => ?_
 unfold Oper.wp
 simp only [execOp, ho, hx, hrun, Sem.run_bind, Result.andThen_ok, Sem.run_pure]
 refine hK' _ _ (hK _ _ ⟨numsOf_length s, w.heap.size, _, _, _, rfl, Nat.le_refl _, Lib.bytesWorld_at_new w _ s, Or.inr (Nat.le_refl _), grownCap_ge w s.size 0 5, grownCap_le_maxLen w s.size 0 5 (by unfold maxLen; omega), hsz, ?_⟩ (below_bytes w _ s) (Lib.bytesWorld_size ..))
 have e : wr.numsOf s = s.data.toList.map fun c => (c.toNat : Int) := rfl
 rw [e, List.map_map]
 unfold Lib.bytesCells
 simp
theorem fill_lit1 (z v : Value) (hz : z.cells = #[z]) (hv : v.cells = #[v]) : Instr.fill (fun i => some (i * 1, 1)) ((Array.range (1 * 1)).map (z.cells[· % z.cells.size]!)) [(0, v)] = some #[v] := by
 have key : ∀ base : Array Value, base.size = 1 → base.setIfInBounds 0 v = #[v] := fun base hb => by
  apply Array.ext (by simp [hb])
  intro i h1 h2
  have hi : i = 0 := by simp at h2; omega
  subst hi
  simp
 simp [Instr.fill, hz, hv]
 exact key _ (by simp)
section
variable {P : Program} {w : World} {ops : Array Oper} {rest : List Oper} {o : Oper} {a : Act} {Q : Exit → Act → World → Prop}
theorem wl_lit1 (hgd : o.guard = none) (t e : TypeId) (x : Operand) (ho : o.op = .buildSlice t 1 #[(0, x)])
  (hu : P.underlying t = some (.slice e)) (z : Value) (bytes : Nat) (hi : Info P e z 1 bytes) (hz : z.cells = #[z]) (v : Value) (hv : v.cells = #[v]) (hx : a.eval x = v) (N : Nat) (hN : w.heap.size = N)
  (h : ∀ w', BlkV e w' N [v] → Below N w w' → w'.heap.size = N + 1 → wpList P ops Q rest (a.put o.dst (.slice (some ⟨N, 0, none⟩) 1 1)) w') : wpList P ops Q (o :: rest) a w :=
 wl_lit hgd t e 1 _ ho hu z 1 bytes hi (by decide) (by decide) [v] (by simpa [hx] using fill_lit1 z v hz hv) N hN h
theorem step_lit1 {K : Act → World → Prop} {E : Prop} (hgd : o.guard = none) (t e : TypeId) (x : Operand) (ho : o.op = .buildSlice t 1 #[(0, x)])
  (hu : P.underlying t = some (.slice e)) (z : Value) (bytes : Nat) (hi : Info P e z 1 bytes) (hz : z.cells = #[z]) (v : Value) (hv : v.cells = #[v]) (hx : a.eval x = v) (N : Nat) (hN : w.heap.size = N)
  (h : ∀ w', BlkV e w' N [v] → Below N w w' → w'.heap.size = N + 1 → K (a.put o.dst (.slice (some ⟨N, 0, none⟩) 1 1)) w') : if Region.wanted o (yielded ops a.tmps) = true then Oper.wp P o a w K Q else E :=
 step_lit hgd t e 1 _ ho hu z 1 bytes hi (by decide) (by decide) [v] (by simpa [hx] using fill_lit1 z v hz hv) N hN h
end
end Go.Proofs.YtdhipjoplkpgmaaGreatDoor.hf
namespace Go.Proofs.YtdhipjoplkpgmaaGreatDoor.hf
open Go.RowKit st hs wr
theorem Len64_01 (n : Nat) (hn : n ≤ 1) (w : World) : Calls Tryz.prog 219 #[.int .u64 (n : Int)] w fun e w' => (∃ v : Int, e = .returned (.int .i64 v)) ∧ w = w' := by
 have h : n = 0 ∨ n = 1 := by omega
 rcases h with rfl | rfl
 all_goals (
  go_enter Tryz.func219, Tryz.ntmps219
  go_wp2
  go_ret
  exact ⟨⟨_, rfl⟩, rfl⟩)
theorem Len_01 (n : Nat) (hn : n ≤ 1) (w : World) : Calls Tryz.prog 130 #[.int .u64 (n : Int)] w fun e w' => (∃ v : Int, e = .returned (.int .i64 v)) ∧ w = w' := by
 have h6 := hid (Len64_01 n hn)
 go_enter Tryz.func130, Tryz.ntmps130
 go_wp2_with (go_at_call 219; refine (h6.out w).mono ?_; rintro e w1 ⟨⟨v, rfl⟩, rfl⟩)
 go_ret
 exact ⟨⟨_, rfl⟩, rfl⟩
theorem SortFuncI (ao : Option Addr) (n c : Nat) (cm : Value) (w : World) (hn : n ≤ 1) : Calls Tryz.prog 284 #[.slice ao n c, cm] w fun e w' => e = .returned (.tuple #[]) ∧ w = w' := by
 have hI := fun (w : World) => hid (show Calls Tryz.prog 430 #[.slice ao n c, .int .i64 0, .int .i64 (n : Int), cm] w (fun e w' => e = .returned (.tuple #[]) ∧ w = w') by
  have h1 : ¬ (1 : Int) < (n : Int) := by omega
  go_enter Tryz.func430, Tryz.ntmps430
  go_wp2
  go_loopw [8] (fun i wr => i = .int .i64 1 ∧ wr = w) (fun _ _ => 0)
  case atStart => exact ⟨rfl, rfl⟩
  case round =>
   obtain ⟨rfl, rfl⟩ := hrel
   go_wp2
   go_end0
   exact ⟨rfl, rfl⟩)
 have hP := fun (v : Int) (w : World) => hid (show Calls Tryz.prog 377 #[.slice ao n c, .int .i64 0, .int .i64 (n : Int), .int .i64 v, cm] w (fun e w' => e = .returned (.tuple #[]) ∧ w = w') by
  have h1 : (n : Int) ≤ 12 := by omega
  go_enter Tryz.func377, Tryz.ntmps377
  go_wp2
  go_loopw [1, 2] (fun x y wr => x = .int .i64 0 ∧ y = .int .i64 (n : Int) ∧ wr = w) (fun _ _ _ => 0)
  case atStart => exact ⟨rfl, rfl, rfl⟩
  case round =>
   obtain ⟨rfl, rfl, rfl⟩ := hrel
   go_wp2_with (first | (go_at_call 430; refine (hI _).out.mono ?_; rintro e w1 ⟨rfl, rfl⟩))
   (try simp only [Exit.inBlock, Exit.then]); refine bodyPost_ret (results_none rfl _ _ _) rfl ?_
   exact ⟨rfl, rfl⟩)
 have hL := hid (Len_01 n hn)
 go_enter Tryz.func284, Tryz.ntmps284
 go_wp2_with (first
  | (go_at_call 377; refine (hP v _).out.mono ?_; rintro e w1 ⟨rfl, rfl⟩)
  | (go_at_call 130; refine (hL.out _).mono ?_; rintro e w1 ⟨⟨v, rfl⟩, rfl⟩))
 go_end0
 exact ⟨rfl, rfl⟩
theorem SortFuncS (ao : Option Addr) (n c : Nat) (cm : Value) (w : World) (hn : n ≤ 1) : Calls Tryz.prog 198 #[.slice ao n c, cm] w fun e w' => e = .returned (.tuple #[]) ∧ w = w' := by
 have hI := fun (w : World) => hid (show Calls Tryz.prog 381 #[.slice ao n c, .int .i64 0, .int .i64 (n : Int), cm] w (fun e w' => e = .returned (.tuple #[]) ∧ w = w') by
  have h1 : ¬ (1 : Int) < (n : Int) := by omega
  go_enter Tryz.func381, Tryz.ntmps381
  go_wp2
  go_loopw [8] (fun i wr => i = .int .i64 1 ∧ wr = w) (fun _ _ => 0)
  case atStart => exact ⟨rfl, rfl⟩
  case round =>
   obtain ⟨rfl, rfl⟩ := hrel
   go_wp2
   go_end0
   exact ⟨rfl, rfl⟩)
 have hP := fun (v : Int) (w : World) => hid (show Calls Tryz.prog 305 #[.slice ao n c, .int .i64 0, .int .i64 (n : Int), .int .i64 v, cm] w (fun e w' => e = .returned (.tuple #[]) ∧ w = w') by
  have h1 : (n : Int) ≤ 12 := by omega
  go_enter Tryz.func305, Tryz.ntmps305
  go_wp2
  go_loopw [1, 2] (fun x y wr => x = .int .i64 0 ∧ y = .int .i64 (n : Int) ∧ wr = w) (fun _ _ _ => 0)
  case atStart => exact ⟨rfl, rfl, rfl⟩
  case round =>
   obtain ⟨rfl, rfl, rfl⟩ := hrel
   go_wp2_with (first | (go_at_call 381; refine (hI _).out.mono ?_; rintro e w1 ⟨rfl, rfl⟩))
   (try simp only [Exit.inBlock, Exit.then]); refine bodyPost_ret (results_none rfl _ _ _) rfl ?_
   exact ⟨rfl, rfl⟩)
 have hL := hid (Len_01 n hn)
 go_enter Tryz.func198, Tryz.ntmps198
 go_wp2_with (first
  | (go_at_call 305; refine (hP v _).out.mono ?_; rintro e w1 ⟨rfl, rfl⟩)
  | (go_at_call 130; refine (hL.out _).mono ?_; rintro e w1 ⟨⟨v, rfl⟩, rfl⟩))
 go_end0
 exact ⟨rfl, rfl⟩
theorem SortFuncM (ao : Option Addr) (n c : Nat) (cm : Value) (w : World) (hn : n ≤ 1) : Calls Tryz.prog 74 #[.slice ao n c, cm] w fun e w' => e = .returned (.tuple #[]) ∧ w = w' := by
 have hI := fun (w : World) => hid (show Calls Tryz.prog 230 #[.slice ao n c, .int .i64 0, .int .i64 (n : Int), cm] w (fun e w' => e = .returned (.tuple #[]) ∧ w = w') by
  have h1 : ¬ (1 : Int) < (n : Int) := by omega
  go_enter Tryz.func230, Tryz.ntmps230
  go_wp2
  go_loopw [8] (fun i wr => i = .int .i64 1 ∧ wr = w) (fun _ _ => 0)
  case atStart => exact ⟨rfl, rfl⟩
  case round =>
   obtain ⟨rfl, rfl⟩ := hrel
   go_wp2
   go_end0
   exact ⟨rfl, rfl⟩)
 have hP := fun (v : Int) (w : World) => hid (show Calls Tryz.prog 134 #[.slice ao n c, .int .i64 0, .int .i64 (n : Int), .int .i64 v, cm] w (fun e w' => e = .returned (.tuple #[]) ∧ w = w') by
  have h1 : (n : Int) ≤ 12 := by omega
  go_enter Tryz.func134, Tryz.ntmps134
  go_wp2
  go_loopw [1, 2] (fun x y wr => x = .int .i64 0 ∧ y = .int .i64 (n : Int) ∧ wr = w) (fun _ _ _ => 0)
  case atStart => exact ⟨rfl, rfl, rfl⟩
  case round =>
   obtain ⟨rfl, rfl, rfl⟩ := hrel
   go_wp2_with (first | (go_at_call 230; refine (hI _).out.mono ?_; rintro e w1 ⟨rfl, rfl⟩))
   (try simp only [Exit.inBlock, Exit.then]); refine bodyPost_ret (results_none rfl _ _ _) rfl ?_
   exact ⟨rfl, rfl⟩)
 have hL := hid (Len_01 n hn)
 go_enter Tryz.func74, Tryz.ntmps74
 go_wp2_with (first
  | (go_at_call 134; refine (hP v _).out.mono ?_; rintro e w1 ⟨rfl, rfl⟩)
  | (go_at_call 130; refine (hL.out _).mono ?_; rintro e w1 ⟨⟨v, rfl⟩, rfl⟩))
 go_end0
 exact ⟨rfl, rfl⟩
theorem SortFuncK (ao : Option Addr) (n c : Nat) (cm : Value) (w : World) (hn : n ≤ 1) : Calls Tryz.prog 68 #[.slice ao n c, cm] w fun e w' => e = .returned (.tuple #[]) ∧ w = w' := by
 have hI := fun (w : World) => hid (show Calls Tryz.prog 222 #[.slice ao n c, .int .i64 0, .int .i64 (n : Int), cm] w (fun e w' => e = .returned (.tuple #[]) ∧ w = w') by
  have h1 : ¬ (1 : Int) < (n : Int) := by omega
  go_enter Tryz.func222, Tryz.ntmps222
  go_wp2
  go_loopw [8] (fun i wr => i = .int .i64 1 ∧ wr = w) (fun _ _ => 0)
  case atStart => exact ⟨rfl, rfl⟩
  case round =>
   obtain ⟨rfl, rfl⟩ := hrel
   go_wp2
   go_end0
   exact ⟨rfl, rfl⟩)
 have hP := fun (v : Int) (w : World) => hid (show Calls Tryz.prog 133 #[.slice ao n c, .int .i64 0, .int .i64 (n : Int), .int .i64 v, cm] w (fun e w' => e = .returned (.tuple #[]) ∧ w = w') by
  have h1 : (n : Int) ≤ 12 := by omega
  go_enter Tryz.func133, Tryz.ntmps133
  go_wp2
  go_loopw [1, 2] (fun x y wr => x = .int .i64 0 ∧ y = .int .i64 (n : Int) ∧ wr = w) (fun _ _ _ => 0)
  case atStart => exact ⟨rfl, rfl, rfl⟩
  case round =>
   obtain ⟨rfl, rfl, rfl⟩ := hrel
   go_wp2_with (first | (go_at_call 222; refine (hI _).out.mono ?_; rintro e w1 ⟨rfl, rfl⟩))
   (try simp only [Exit.inBlock, Exit.then]); refine bodyPost_ret (results_none rfl _ _ _) rfl ?_
   exact ⟨rfl, rfl⟩)
 have hL := hid (Len_01 n hn)
 go_enter Tryz.func68, Tryz.ntmps68
 go_wp2_with (first
  | (go_at_call 133; refine (hP v _).out.mono ?_; rintro e w1 ⟨rfl, rfl⟩)
  | (go_at_call 130; refine (hL.out _).mono ?_; rintro e w1 ⟨⟨v, rfl⟩, rfl⟩))
 go_end0
 exact ⟨rfl, rfl⟩
theorem SortFuncW (ao : Option Addr) (n c : Nat) (cm : Value) (w : World) (hn : n ≤ 1) : Calls Tryz.prog 62 #[.slice ao n c, cm] w fun e w' => e = .returned (.tuple #[]) ∧ w = w' := by
 have hI := fun (w : World) => hid (show Calls Tryz.prog 210 #[.slice ao n c, .int .i64 0, .int .i64 (n : Int), cm] w (fun e w' => e = .returned (.tuple #[]) ∧ w = w') by
  have h1 : ¬ (1 : Int) < (n : Int) := by omega
  go_enter Tryz.func210, Tryz.ntmps210
  go_wp2
  go_loopw [8] (fun i wr => i = .int .i64 1 ∧ wr = w) (fun _ _ => 0)
  case atStart => exact ⟨rfl, rfl⟩
  case round =>
   obtain ⟨rfl, rfl⟩ := hrel
   go_wp2
   go_end0
   exact ⟨rfl, rfl⟩)
 have hP := fun (v : Int) (w : World) => hid (show Calls Tryz.prog 129 #[.slice ao n c, .int .i64 0, .int .i64 (n : Int), .int .i64 v, cm] w (fun e w' => e = .returned (.tuple #[]) ∧ w = w') by
  have h1 : (n : Int) ≤ 12 := by omega
  go_enter Tryz.func129, Tryz.ntmps129
  go_wp2
  go_loopw [1, 2] (fun x y wr => x = .int .i64 0 ∧ y = .int .i64 (n : Int) ∧ wr = w) (fun _ _ _ => 0)
  case atStart => exact ⟨rfl, rfl, rfl⟩
  case round =>
   obtain ⟨rfl, rfl, rfl⟩ := hrel
   go_wp2_with (first | (go_at_call 210; refine (hI _).out.mono ?_; rintro e w1 ⟨rfl, rfl⟩))
   (try simp only [Exit.inBlock, Exit.then]); refine bodyPost_ret (results_none rfl _ _ _) rfl ?_
   exact ⟨rfl, rfl⟩)
 have hL := hid (Len_01 n hn)
 go_enter Tryz.func62, Tryz.ntmps62
 go_wp2_with (first
  | (go_at_call 129; refine (hP v _).out.mono ?_; rintro e w1 ⟨rfl, rfl⟩)
  | (go_at_call 130; refine (hL.out _).mono ?_; rintro e w1 ⟨⟨v, rfl⟩, rfl⟩))
 go_end0
 exact ⟨rfl, rfl⟩
end Go.Proofs.YtdhipjoplkpgmaaGreatDoor.hf
