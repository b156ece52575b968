/-
  The walk of the law PacksMatch: it returns true. Conditions: a pack of at most 2^40 octets; parts that lie in memory. What a law's walk owes the row's form: a call that returns true and leaves all that was there as it was meets the law's 'post'. Conditions: none but the parameters' types being readable, which is asked as a closed fact. An envelope among a law's arguments; a slice of octets likewise. Conditions: the types' forms. Slices of octets, and slices of such slices, among a law's arguments. Conditions: the types' forms. Arguments that are arrays of octets, opened for the walks. No condition.
-/
import Derived.Test.YtbljihhelladbaaPWsU
import Derived.Test.YtbljihhelladbaaPWrP
import Derived.Test.YtbljihhelladbaaPMem
import Derived.Test.YtbljihhelladbaaPWrE
import Derived.Test.YtbljihhelladbaaPShBC
import Derived.ProofKit
import Derived.OpenShut
import Derived.JoinedCond
namespace Go.Proofs.Ytbljihhelladbaa.wr
open Go.RowKit Go.Proofs.Ytbljihhelladbaa.st Go.Proofs.Ytbljihhelladbaa.hs Go.Proofs.Ytbljihhelladbaa.shr Go.Proofs.Ytbljihhelladbaa.sh
set_option linter.unusedSimpArgs false
set_option linter.unusedVariables false
set_option pp.maxSteps 6000
theorem unGo_octs : ∀ (k : Nat) (r : List Int) (acc : List (List Int)), Octs r → (∀ l ∈ acc, Octs l) → ∀ ls r', unGo k r acc = some (ls, r') → ∀ l ∈ ls, Octs l
  | 0, r, acc, _, ha, ls, r', h => by
    simp only [unGo, Option.some.injEq, Prod.mk.injEq] at h
    rw [← h.1]; exact ha
  | k + 1, r, acc, hr, ha, ls, r', h => by
    unfold unGo at h
    split at h
    · cases h
    · split at h
      · cases h
      · refine unGo_octs k _ _ (fun c hc => hr c (List.mem_of_mem_drop hc)) (fun l hl => ?_) ls r' h
        rcases List.mem_append.1 hl with hl | hl
        · exact ha l hl
        · rw [List.mem_singleton] at hl; rw [hl]
          exact fun c hc => hr c (List.mem_of_mem_drop (List.mem_of_mem_take hc))
theorem unP_octs {b : List Int} (hb : Octs b) : ∀ l ∈ unP b, Octs l := by
  intro l hl
  unfold unP at hl
  split at hl
  · unfold unQ at hl
    split at hl
    · cases hl
    · rename_i hR
      exact unGo_octs _ _ _ (fun c hc => hb c (List.mem_of_mem_drop hc)) (fun l hl => by cases hl) _ _ hR l hl
  · cases hl
theorem unP_len (b : List Int) : (unP b).length ≤ 100 := by
  by_cases h : unE b = 0
  · exact (packE_zero (unE_parts h)).2.1
  · unfold unP; rw [if_neg h]; exact Nat.zero_le _
theorem openPack_any (k c b : List Int) (bo : Option Addr) (bc n : Nat) (ao : Option Addr) (cap mc : Nat) (w : World) (hk : k.length = 32) (ok : Octs k) (hn : n = b.length) (HL : Pt.Ok w ⟨bo, bc, b⟩) (hmc : mc = c.length) (HP : Pt.Ok w ⟨ao, cap, c⟩) (hno : ao = none → cap = 0) (hmx : n ≤ 9223372036854775807) :
    Calls Try.prog 84 #[.agg (k.map (Value.int .u8)).toArray, .slice bo n bc, .slice ao mc cap] w fun e w' => e = .returned (.bool true) ∧ Below w.heap.size w w' := by
  by_cases h1 : 4096 < c.length
  · exact openPack_L k b c bo bc n ao cap mc w hk ok hn HL hmc HP hno hmx h1
  · by_cases h2 : unE b = 0
    · cases h3 : findH k (unP b) 0 with
      | none => exact openPack_N k b c bo bc n ao cap mc w hk ok hn HL hmc HP hno hmx h1 h2 h3
      | some i =>
        by_cases h4 : unwrapE k ((unP b).getD i []) c = 0
        · exact openPack_G k b c bo bc n ao cap mc w hk ok hn HL hmc HP hno hmx (fun l hl => secretX_length (readX_ok (unP_octs HL.oct l hl) ((packE_zero (unE_parts h2)).2.2.1 l hl))) h1 h2 i h3 h4
        · exact openPack_U k b c bo bc n ao cap mc w hk ok hn HL hmc HP hno hmx h1 h2 i h3 h4
    · exact openPack_R k b c bo bc n ao cap mc w hk ok hn HL hmc HP hno hmx h1 h2
/-! what is written is read -/
theorem unGo_body : ∀ (ls acc : List (List Int)), (∀ l ∈ ls, l.length ≤ 4294967295) → unGo ls.length (bodyL ls) acc = some (acc ++ ls, [])
  | [], acc, _ => by rw [List.append_nil]; rfl
  | l :: r, acc, h => by
    have hl := h l (List.mem_cons_self ..)
    have e : bodyL (l :: r) = o4 (l.length : Int) ++ (l ++ bodyL r) := by unfold bodyL partL; rw [List.map_cons, List.flatten_cons, List.append_assoc]
    have h4 : (o4 (l.length : Int)).length = 4 := rfl
    have ht : (bodyL (l :: r)).take 4 = o4 (l.length : Int) := by rw [e]; exact List.take_left' h4
    have hq : numL ((bodyL (l :: r)).take 4) = ((l.length : Nat) : Int) := by rw [ht]; exact numL_o4 ⟨by omega, by omega⟩
    have hlen : (bodyL (l :: r)).length = 4 + (l.length + (bodyL r).length) := by rw [e, List.length_append, List.length_append, h4]
    show unGo (r.length + 1) _ _ = _
    rw [unGo_next (by omega) hq (by omega)]
    have hd : (bodyL (l :: r)).drop 4 = l ++ bodyL r := by rw [e]; exact List.drop_left' h4
    have hd2 : (bodyL (l :: r)).drop (4 + l.length) = bodyL r := by rw [← List.drop_drop, hd]; exact List.drop_left
    rw [hd, hd2, List.take_left, unGo_body r _ fun x hx => h x (List.mem_cons_of_mem _ hx), List.append_assoc]; rfl
theorem unR_pack {ls : List (List Int)} (h : packE ls = 0) : unR (packL ls) = some (ls, []) := by
  obtain ⟨_, h2, h3, _⟩ := packE_zero h
  have e1 : (packL ls).getD 4 0 = (ls.length : Int) := rfl
  have e2 : (packL ls).drop 5 = bodyL ls := rfl
  unfold unR
  rw [e1, e2, Int.toNat_natCast, unGo_body ls [] fun l hl => by have := readE_len (h3 l hl); omega]; rfl
theorem unE_pack {ls : List (List Int)} (h : packE ls = 0) : unE (packL ls) = 0 := by
  have hl : ¬ (packL ls).length < 5 := by
    have : (packL ls).length = 5 + (bodyL ls).length := by unfold packL; simp [kwp]; omega
    omega
  rw [unE_of hl rfl (unR_pack h)]
  unfold unF; dsimp only; rw [if_neg (fun g => g rfl)]; exact h
theorem unP_pack {ls : List (List Int)} (h : packE ls = 0) : unP (packL ls) = ls := by
  unfold unP; rw [if_pos (unE_pack h), unR_pack h]; rfl
theorem packL_octs {ls : List (List Int)} (h : packE ls = 0) (ho : ∀ l ∈ ls, Octs l) : Octs (packL ls) := by
  unfold packL
  refine octs_app (octs_app kwp_octs fun c hc => ?_) ?_
  · rw [List.mem_singleton] at hc
    have := (packE_zero h).2.1
    rw [hc]; exact ⟨by omega, by omega⟩
  · intro c hc
    unfold bodyL at hc
    obtain ⟨l, hl, hc⟩ := List.mem_flatten.1 hc
    obtain ⟨x, hx, rfl⟩ := List.mem_map.1 hl
    unfold partL at hc
    exact octs_app (o4_octs _) (ho x hx) c hc
theorem packL_len {ls : List (List Int)} (h : packE ls = 0) : (packL ls).length ≤ 14005 := by
  obtain ⟨_, h2, h3, _⟩ := packE_zero h
  have h4 := bodyL_le h3 ls.length
  rw [List.take_length] at h4
  have : (packL ls).length = 5 + (bodyL ls).length := by unfold packL; simp [kwp]; omega
  omega
theorem Own8.pt {B m c g : Nat} {w : World} {L : List Int} (h : Own8 B w g c m L) (hm : m = L.length) (ho : Octs L) (h0 : 0 < m) : Pt.Ok w ⟨some ⟨g, 0, none⟩, c, L⟩ := by
  obtain ⟨g', cur, e, _, hb, h1, h2, _⟩ := own_blk h h0
  cases e
  exact ⟨h.row, by show L.length ≤ c; omega, h2, ho, fun b e => by cases e; exact hb.lt⟩
set_option maxRecDepth 100000 in
set_option maxHeartbeats 8000000 in
theorem Pack_bad (po : Option Addr) (cap n : Nat) (ps : List Pt) (w : World) (hn : n = ps.length) (hrow : RowV w po (ps.map Pt.v)) (hps : ∀ x ∈ ps, 4 ≤ x.l.length → x.Ok w) (hE : packE (ps.map Pt.l) ≠ 0) :
    Calls Try.prog 79 #[.slice po n cap] w fun e w' => e = .returned (.tuple #[.slice none 0 0, .int .i64 (packE (ps.map Pt.l))]) ∧ Below w.heap.size w w' := by
  have hpf := hid (packFault_any po cap n ps w hn hrow hps)
  obtain ⟨E, HE⟩ : ∃ E, Hid (E = packE (ps.map Pt.l)) := ⟨_, rfl⟩
  rw [← HE.out] at hpf hE ⊢
  clear hn hrow hps
  go_enter Try.func79, Try.ntmps79
  go_wp2_with (go_at_call 146; refine hpf.out.mono ?_; rintro e w1 ⟨rfl, hb1⟩)
  go_ret2
  exact ⟨rfl, hb1⟩
set_option maxRecDepth 100000 in
set_option maxHeartbeats 8000000 in
theorem packs_bad (po : Option Addr) (cap n : Nat) (ps : List Pt) (k c b : List Int) (bo : Option Addr) (bc nb : Nat) (ao : Option Addr) (ac mc : Nat) (w : World) (hn : n = ps.length) (hn1 : n ≤ 9223372036854775807) (hrow : RowV w po (ps.map Pt.v)) (hps : ∀ x ∈ ps, 4 ≤ x.l.length → x.Ok w) (hk : k.length = 32) (ok : Octs k) (hnb : nb = b.length) (HL : Pt.Ok w ⟨bo, bc, b⟩) (hmc : mc = c.length) (HP : Pt.Ok w ⟨ao, ac, c⟩) (hno : ao = none → ac = 0) (hmx : nb ≤ 9223372036854775807) (hE : packE (ps.map Pt.l) ≠ 0) :
    Calls Try.prog 14 #[.slice po n cap, .agg (k.map (Value.int .u8)).toArray, .slice ao mc ac, .slice bo nb bc] w fun e w' => e = .returned (.bool true) ∧ Below w.heap.size w w' := by
  obtain ⟨B, HB⟩ : ∃ B, Hid (B = w.heap.size) := ⟨_, rfl⟩
  have hsz : w.heap.size = B := HB.out.symm
  have hpe := fun (y : World) (hb : Below B w y) => hid (PackError_any po cap n ps y hn (hrow.below (hsz ▸ hb)) (fun x hx h => (hps x hx h).below (hsz ▸ hb)))
  have hun := fun (y : World) (hb : Below B w y) => hid (Unpack_any bo bc nb b y hnb (HL.below (hsz ▸ hb)) hmx)
  have hur := fun (y : World) (hb : Below B w y) => hid (Unpacked_any bo bc nb b y hnb (HL.below (hsz ▸ hb)) hmx)
  unfold UnPost at hun hur
  have hol := fun (y : World) (hb : Below B w y) => hid (openPack_any k c b bo bc nb ao ac mc y hk ok hnb (HL.below (hsz ▸ hb)) hmc (HP.below (hsz ▸ hb)) hno hmx)
  have hwr := fun y => hid (wraps_any y)
  obtain ⟨U, HU⟩ : ∃ U, Hid (U = unE b) := ⟨_, rfl⟩
  simp only [← HU.out] at hun hur
  have hUL := hid (unP_len b)
  obtain ⟨K, HK⟩ : ∃ K, Hid (K = k.map (Value.int .u8)) := ⟨_, rfl⟩
  have hKl : K.length = 32 := by rw [HK.out, List.length_map, hk]
  have hpk := fun (y : World) (hb : Below B w y) => hid (Pack_bad po cap n ps y hn (hrow.below (hsz ▸ hb)) (fun x hx h => (hps x hx h).below (hsz ▸ hb)) hE)
  obtain ⟨E, HE⟩ : ∃ E, Hid (E = packE (ps.map Pt.l)) := ⟨_, rfl⟩
  simp only [← HE.out] at hpk hpe
  have hEb : (E != 0) = true := by rw [HE.out]; simpa using hE
  have hEq : (E == 0) = false := by rw [HE.out]; simpa using hE
  rw [← HK.out] at hol ⊢
  clear hn hrow hps hk hnb HL hmc HP hE
  go_enter Try.func14, Try.ntmps14
  go_wp2_with (first | (go_at_call 84; refine (hol w9 bb9).out.mono ?_; rintro e w10 ⟨rfl, hb10⟩; have bb10 := bb9.trans (hb10.mono (by have := hB9.lt; omega : B ≤ _))) | (refine wl_loadG (by rfl) 23 _ rfl ⟨B, 0, none⟩ rfl 32 K hKl aggKey hB9.at0 ?_) | (go_at_call 83; refine hEF.out.mono ?_; rintro e wn ⟨rfl, rfl⟩) | (go_at_call 85; refine (hur w8 bb8).out.mono ?_; rintro r w9 ⟨hb9, ps9, po9, n9, c9, rfl, HN9, HL9, hR9, hO9⟩; have hB9 := hB8.below hb9 hB8.lt; have bb9 := bb8.trans (hb9.mono (by have := hB8.lt; omega : B ≤ _)); have hEF := EqualFunc_any po8 po9 n8 n9 c8 c9 ps8 ps9 w9 HN8.out HN9.out (by have h1 := congrArg List.length HL8.out; rw [List.length_map] at h1; have := HN8.out; have := hUL.out; omega) (hR8.below hb9) hR9 (fun x hx => (hO8 x hx).below hb9) hO9; have hdd : decide (ps8.map Pt.l = ps9.map Pt.l) = true := decide_eq_true (by rw [HL8.out, HL9.out]); rw [hdd] at hEF; replace hEF := hid hEF; clear hdd) | (go_at_call 82; refine (hun w4 bb4).out.mono ?_; rintro r w8 ⟨hb8, ps8, po8, n8, c8, rfl, HN8, HL8, hR8, hO8⟩; have hB8 := hB4.below hb8 hB4.lt; have bb8 := bb4.trans (hb8.mono (by have := hB4.lt; omega : B ≤ _))) | (go_at_call 70; refine (hwr w3).out.mono ?_; rintro r w4 ⟨rfl, hb4⟩; have hB4 := hB3.below hb4 hB3.lt; have bb4 := bb3.trans (hb4.mono (by have := hB3.lt; omega : B ≤ _))) | (go_at_call 80; refine (hpe w2 bb2).out.mono ?_; rintro r w3 ⟨rfl, hb3⟩; have hB3 := hB2.below hb3 hB2.lt; have bb3 := bb2.trans (hb3.mono (by have := hB2.lt; omega : B ≤ _))) | (go_at_call 79; refine (hpk w1 hb1).out.mono ?_; rintro r w2 ⟨rfl, hb2⟩; have hB2 := hB1.below hb2 hB1.lt; have bb2 := hb1.trans (hb2.mono (by omega : B ≤ _))) | (refine wl_boxV rfl 23 _ rfl K rfl B hsz ?_; intro w1 hB1 hb1 hs1))
  go_ret
  exact ⟨rfl, by rw [← HB.out]; exact bb10⟩
set_option maxRecDepth 100000 in
set_option maxHeartbeats 8000000 in
theorem packs_ok (po : Option Addr) (cap n : Nat) (ps : List Pt) (k c b : List Int) (bo : Option Addr) (bc nb : Nat) (ao : Option Addr) (ac mc : Nat) (w : World) (hn : n = ps.length) (hn1 : n ≤ 9223372036854775807) (hrow : RowV w po (ps.map Pt.v)) (hps : ∀ x ∈ ps, 4 ≤ x.l.length → x.Ok w) (hk : k.length = 32) (ok : Octs k) (hnb : nb = b.length) (HL : Pt.Ok w ⟨bo, bc, b⟩) (hmc : mc = c.length) (HP : Pt.Ok w ⟨ao, ac, c⟩) (hno : ao = none → ac = 0) (hmx : nb ≤ 9223372036854775807) (hE : packE (ps.map Pt.l) = 0) :
    Calls Try.prog 14 #[.slice po n cap, .agg (k.map (Value.int .u8)).toArray, .slice ao mc ac, .slice bo nb bc] w fun e w' => e = .returned (.bool true) ∧ Below w.heap.size w w' := by
  obtain ⟨B, HB⟩ : ∃ B, Hid (B = w.heap.size) := ⟨_, rfl⟩
  have hsz : w.heap.size = B := HB.out.symm
  have hpe := fun (y : World) (hb : Below B w y) => hid (PackError_any po cap n ps y hn (hrow.below (hsz ▸ hb)) (fun x hx h => (hps x hx h).below (hsz ▸ hb)))
  have hun := fun (y : World) (hb : Below B w y) => hid (Unpack_any bo bc nb b y hnb (HL.below (hsz ▸ hb)) hmx)
  have hur := fun (y : World) (hb : Below B w y) => hid (Unpacked_any bo bc nb b y hnb (HL.below (hsz ▸ hb)) hmx)
  unfold UnPost at hun hur
  have hol := fun (y : World) (hb : Below B w y) => hid (openPack_any k c b bo bc nb ao ac mc y hk ok hnb (HL.below (hsz ▸ hb)) hmc (HP.below (hsz ▸ hb)) hno hmx)
  have hwr := fun y => hid (wraps_any y)
  obtain ⟨U, HU⟩ : ∃ U, Hid (U = unE b) := ⟨_, rfl⟩
  simp only [← HU.out] at hun hur
  have hUL := hid (unP_len b)
  obtain ⟨K, HK⟩ : ∃ K, Hid (K = k.map (Value.int .u8)) := ⟨_, rfl⟩
  have hKl : K.length = 32 := by rw [HK.out, List.length_map, hk]
  have hps' : ∀ x ∈ ps, x.Ok w := fun x hx => hps x hx (by have := readE_len ((packE_zero hE).2.2.1 x.l (List.mem_map.2 ⟨x, hx, rfl⟩)); omega)
  have hpk := fun (y : World) (hb : Below B w y) => hid (Pack_ok po cap n ps y hn (hrow.below (hsz ▸ hb)) (fun x hx => (hps' x hx).below (hsz ▸ hb)) hE)
  have hpd := fun (y : World) (hb : Below B w y) => hid (Packed_ok po cap n ps y hn (hrow.below (hsz ▸ hb)) (fun x hx => (hps' x hx).below (hsz ▸ hb)) hE)
  rw [hE] at hpe
  obtain ⟨LS, HLS⟩ : ∃ LS, Hid (LS = ps.map Pt.l) := ⟨_, rfl⟩
  have hLo : ∀ l ∈ ps.map Pt.l, Octs l := fun l hl => by
    obtain ⟨x, hx, rfl⟩ := List.mem_map.1 hl
    exact (hps' x hx).oct
  have HPO := hid (packL_octs hE hLo)
  have HPN := hid (packL_len hE)
  have HUE := hid (unE_pack hE)
  have HUP := hid (unP_pack hE)
  have HP0 : Hid (0 < (packL (ps.map Pt.l)).length) := hid (by unfold packL; simp [kwp])
  rw [← HLS.out] at hpk hpd HPO HPN HUE HUP HP0
  obtain ⟨PL, HPLL⟩ : ∃ PL, Hid (PL = packL LS) := ⟨_, rfl⟩
  simp only [← HPLL.out] at hpk hpd HPO HPN HUE HUP HP0
  have hup := fun (y : World) (g cg m : Nat) (h : Pt.Ok y ⟨some ⟨g, 0, none⟩, cg, PL⟩) (hm : m = PL.length) => hid (Unpack_any (some ⟨g, 0, none⟩) cg m PL y hm h (by rw [hm]; have := HPN.out; omega))
  unfold UnPost at hup
  simp only [HUE.out, HUP.out] at hup
  have hop := fun (y : World) (hb : Below B w y) (g cg m : Nat) (h : Pt.Ok y ⟨some ⟨g, 0, none⟩, cg, PL⟩) (hm : m = PL.length) => hid (openPack_any k c PL (some ⟨g, 0, none⟩) cg m ao ac mc y hk ok hm h hmc (HP.below (hsz ▸ hb)) hno (by rw [hm]; have := HPN.out; omega))
  have hRW := fun (y : World) (hb : Below B w y) => hid (hrow.below (hsz ▸ hb))
  have hOK := fun (y : World) (hb : Below B w y) => hid (fun x hx => (hps' x hx).below (hsz ▸ hb) : ∀ x ∈ ps, x.Ok y)
  have HNN := hid hn
  rw [← HK.out] at hol hop ⊢
  clear hn hrow hps hps' hk hnb HL hmc HP hE hLo
  go_enter Try.func14, Try.ntmps14
  go_wp2_with (first | (go_at_call 84; refine (hol w9 bb9).out.mono ?_; rintro e w10 ⟨rfl, hb10⟩; have bb10 := bb9.trans (hb10.mono (by have := hB9.lt; omega : B ≤ _))) | (refine wl_loadG (by rfl) 23 _ rfl ⟨B, 0, none⟩ rfl 32 K hKl aggKey hB9.at0 ?_) | (go_at_call 83; refine hEF.out.mono ?_; rintro e wn ⟨rfl, rfl⟩) | (go_at_call 85; refine (hur w8 bb8).out.mono ?_; rintro r w9 ⟨hb9, ps9, po9, n9, c9, rfl, HN9, HL9, hR9, hO9⟩; have hB9 := hB8.below hb9 hB8.lt; have bb9 := bb8.trans (hb9.mono (by have := hB8.lt; omega : B ≤ _)); have hEF := EqualFunc_any po8 po9 n8 n9 c8 c9 ps8 ps9 w9 HN8.out HN9.out (by have h1 := congrArg List.length HL8.out; rw [List.length_map] at h1; have := HN8.out; have := hUL.out; omega) (hR8.below hb9) hR9 (fun x hx => (hO8 x hx).below hb9) hO9; have hdd : decide (ps8.map Pt.l = ps9.map Pt.l) = true := decide_eq_true (by rw [HL8.out, HL9.out]); rw [hdd] at hEF; replace hEF := hid hEF; clear hdd) | (go_at_call 82; refine (hun w7 bb7).out.mono ?_; rintro r w8 ⟨hb8, ps8, po8, n8, c8, rfl, HN8, HL8, hR8, hO8⟩; have hB8 := hB7.below hb8 hB7.lt; have bb8 := bb7.trans (hb8.mono (by have := hB7.lt; omega : B ≤ _))) | (go_at_call 84; refine (hop w6 bb6 g2 c2 m2 hq6 HM2.out).out.mono ?_; rintro e w7 ⟨rfl, hb7⟩; have hB7 := hB6.below hb7 hB6.lt; have bb7 := bb6.trans (hb7.mono (by have := hB6.lt; omega : B ≤ _))) | (refine wl_loadG (by rfl) 23 _ rfl ⟨B, 0, none⟩ rfl 32 K hKl aggKey hB6.at0 ?_) | (go_at_call 83; refine hE6.out.mono ?_; rintro e wn ⟨rfl, rfl⟩) | (go_at_call 82; refine (hup w5 g2 c2 m2 hq5 HM2.out).out.mono ?_; rintro r w6 ⟨hb6, ps6, po6, n6, c6, rfl, HN6, HL6, hR6, hO6⟩; have hB6 := hB5.below hb6 hB5.lt; have bb6 := bb5.trans (hb6.mono (by have := hB5.lt; omega : B ≤ _)); have hq6 := hq5.below hb6; have hE6 := EqualFunc_any po po6 n n6 cap c6 ps ps6 w6 HNN.out HN6.out hn1 (hRW w6 bb6).out hR6 (hOK w6 bb6).out hO6; have hd6 : decide (ps.map Pt.l = ps6.map Pt.l) = true := decide_eq_true (by rw [HL6.out, HLS.out]); rw [hd6] at hE6; replace hE6 := hid hE6; clear hd6) | (go_at_call 44; refine hEQ.out.mono ?_; rintro e wn ⟨rfl, rfl⟩) | (go_at_call 81; refine (hpd w4 bb4).out.mono ?_; rintro r w5 ⟨g5, c5, m5, rfl, HM5, hO5, hb5⟩; have hB5 := hB4.below hb5 hB4.lt; have bb5 := bb4.trans (hb5.mono (by have := hB4.lt; omega : B ≤ _)); have hq5 := hq4.below hb5; have hr5 := Own8.pt hO5 HM5.out HPO.out (by rw [HM5.out]; exact HP0.out); have hEQ := Equal_any (some ⟨g2, 0, none⟩) (some ⟨g5, 0, none⟩) c2 c5 m2 m5 PL PL w5 HM2.out HM5.out hq5.row hr5.row HPO.out HPO.out; have hd5 : decide (PL = PL) = true := decide_eq_true rfl; rw [hd5] at hEQ; replace hEQ := hid hEQ; clear hd5) | (go_at_call 70; refine (hwr w3).out.mono ?_; rintro r w4 ⟨rfl, hb4⟩; have hB4 := hB3.below hb4 hB3.lt; have bb4 := bb3.trans (hb4.mono (by have := hB3.lt; omega : B ≤ _)); have hq4 := hq3.below hb4) | (go_at_call 80; refine (hpe w2 bb2).out.mono ?_; rintro r w3 ⟨rfl, hb3⟩; have hB3 := hB2.below hb3 hB2.lt; have bb3 := bb2.trans (hb3.mono (by have := hB2.lt; omega : B ≤ _)); have hq3 := hq2.below hb3) | (go_at_call 79; refine (hpk w1 hb1).out.mono ?_; rintro r w2 ⟨g2, c2, m2, rfl, HM2, hO2, hb2⟩; have hB2 := hB1.below hb2 hB1.lt; have bb2 := hb1.trans (hb2.mono (by omega : B ≤ _)); have hq2 := Own8.pt hO2 HM2.out HPO.out (by rw [HM2.out]; exact HP0.out)) | (refine wl_boxV rfl 23 _ rfl K rfl B hsz ?_; intro w1 hB1 hb1 hs1))
  go_ret
  exact ⟨rfl, by rw [← HB.out]; exact bb10⟩
theorem packs_law (po : Option Addr) (cap n : Nat) (ps : List Pt) (k c b : List Int) (bo : Option Addr) (bc nb : Nat) (ao : Option Addr) (ac mc : Nat) (w : World) (hn : n = ps.length) (hn1 : n ≤ 9223372036854775807) (hrow : RowV w po (ps.map Pt.v)) (hps : ∀ x ∈ ps, 4 ≤ x.l.length → x.Ok w) (hk : k.length = 32) (ok : Octs k) (hnb : nb = b.length) (HL : Pt.Ok w ⟨bo, bc, b⟩) (hmc : mc = c.length) (HP : Pt.Ok w ⟨ao, ac, c⟩) (hno : ao = none → ac = 0) (hmx : nb ≤ 9223372036854775807) :
    Calls Try.prog 14 #[.slice po n cap, .agg (k.map (Value.int .u8)).toArray, .slice ao mc ac, .slice bo nb bc] w fun e w' => e = .returned (.bool true) ∧ Below w.heap.size w w' := by
  by_cases hE : packE (ps.map Pt.l) = 0
  · exact packs_ok po cap n ps k c b bo bc nb ao ac mc w hn hn1 hrow hps hk ok hnb HL hmc HP hno hmx hE
  · exact packs_bad po cap n ps k c b bo bc nb ao ac mc w hn hn1 hrow hps hk ok hnb HL hmc HP hno hmx hE
end Go.Proofs.Ytbljihhelladbaa.wr
namespace Go.Proofs.Ytbljihhelladbaa.law
set_option linter.unusedSimpArgs false
set_option linter.unusedVariables false
open Go.ChangeShapes Go.WideShapes Go.ChangeAt Go.RowKit
/-- types that can be read, and whose rows there are -/
def Readable (P : Program) : List TypeId → Prop
  | [] => True
  | t :: ts => P.readableRec t = true ∧ t < P.types.size ∧ Readable P ts
theorem readable_nil {P : Program} : Readable P [] := trivial
theorem readable_cons {P : Program} {t : TypeId} {ts : List TypeId} (h : P.readableRec t = true) (k : t < P.types.size) (r : Readable P ts) : Readable P (t :: ts) := ⟨h, k, r⟩
theorem stays {H : Type} {enc : TypeId × Value → H} {P : Program} (hl : laidOutB P = true) {W W' : World} (hb : Below W.heap.size W W') :
    ∀ (ts : List TypeId) (vs : List Value) (ds : List (DataW H)) (ps : List MemPlace), Readable P ts → DataW.TrodAll enc P W 0 (fun _ => true) true ts vs ds ps → (∀ x ∈ ps, x.block < W.heap.size) →
      DataW.TrodAll enc P W' 0 (fun b => decide (b < W.heap.size)) true ts vs ds ps
  | [], vs, ds, ps, _, h, _ => by
    obtain ⟨rfl, rfl, rfl⟩ := trodAll_nil h
    exact trodAll_mk0
  | t :: ts, vs, ds, ps, hr, h, hlt => by
    obtain ⟨v, vs1, d, ds1, a, b, rfl, rfl, rfl, h1, h2⟩ := trodAll_cons h
    exact trodAll_cons_mk (Below.trod hl hr.1 hr.2.1 h1 hb (fun x hx => hlt x (List.mem_append_left _ hx))) (stays hl hb ts vs1 ds1 b hr.2.2 h2 (fun x hx => hlt x (List.mem_append_right _ hx)))
theorem post {H : Type} {enc : TypeId × Value → H} {P : Program} (hl : laidOutB P = true) {f : Func} {s : ChangeSpec} {W W' : World} {args : Array Value} {ds gs : List (DataW H)} {before : List MemPlace} {tb : TypeId}
    (hW : DataW.Whole enc P f.params.toList s.vars false W args.toList ds gs before) (hvars : s.vars = []) (hp : Readable P f.params.toList) (hr : f.resultTypes = #[tb]) (hu : P.underlying tb = some .bool)
    (hfn : (s.fn H ds) = { results := [.lit (.bool true)], args := ds }) (hb : Below W.heap.size W W') :
    s.post enc P f false true false false W args (.bool true) W' := by
  have hW' := hW
  obtain ⟨p, q, hA, hV, rfl, hfz, hnd⟩ := hW
  rw [hvars] at hV
  obtain ⟨rfl, rfl⟩ := trodVars_none hV
  refine ⟨ds, [], p ++ [], [], p, [], hW', ?_, ?_, ?_, hb.frame _, fun h => by cases h⟩
  · rw [hr, List.append_nil, hfn]
    exact trodAll_cons_mk (shut_bool hu true) trodAll_mk0
  · rw [List.append_nil, hfn]
    exact stays hl hb _ _ _ _ hp hA fun x hx => hA.lt x hx
  · rw [hvars, List.append_nil, hfn]
    exact rfl
theorem laidOut : laidOutB Try.prog = true := by kernel_rfl
theorem own : ownKnob Try.prog.godebug = none := by kernel_rfl
end Go.Proofs.Ytbljihhelladbaa.law
namespace Go.Proofs.Ytbljihhelladbaa.wr
open Go.ChangeShapes Go.WideShapes Go.ChangeAt Go.RowKit
open Go.Proofs.Ytbljihhelladbaa.st Go.Proofs.Ytbljihhelladbaa.hs Go.Proofs.Ytbljihhelladbaa.shr
set_option linter.unusedSimpArgs false
set_option linter.unusedVariables false
theorem intsCap {H : Type} {enc : TypeId × Value → H} {P : Program} {W : World} {base : Nat} {held : Bool} {t e : TypeId} {k : IntKind} {ao : Option Addr} {len cap : Nat} {d : DataW H} {ps : List MemPlace}
    (ht : P.underlying t = some (.slice e)) (he : P.underlying e = some (.int k)) (hc : P.cellsOf e = 1) (hd : DataW.Trod enc P W base (fun _ => true) held t (.slice ao len cap) d ps) : cap ≤ maxLen := by
  obtain ⟨fuel, hf⟩ := hd
  rcases open_ints ht he hc hf with ⟨h1, _⟩ | ⟨ad, ln, cp, zs, h1, h2, h3, h4, _⟩
  · simp [Value.cells] at h1
    rw [h1.2.2]; decide
  · simp [Value.cells] at h1
    obtain ⟨_, _, rfl⟩ := h1
    exact h4
end Go.Proofs.Ytbljihhelladbaa.wr
namespace Go.Proofs.Ytbljihhelladbaa.wr
open Go.ChangeShapes Go.WideShapes Go.ChangeAt Go.RowKit
open Go.Proofs.Ytbljihhelladbaa.st Go.Proofs.Ytbljihhelladbaa.hs Go.Proofs.Ytbljihhelladbaa.shr
set_option linter.unusedSimpArgs false
set_option linter.unusedVariables false
theorem shape_lt {w : World} {g : Nat} {x : TypeId × Nat} (h : w.shape? g = some x) : g < w.heap.size := by
  by_cases hb : g < w.heap.size
  · exact hb
  · unfold World.shape? at h
    rw [Array.getElem?_eq_none (by omega)] at h
    cases h
set_option maxRecDepth 100000 in
theorem ptTop {W : World} {r : Reach} {b0 n cap : Nat} {ao : Option Addr} {l : List Int} (hval : Value.okWide Try.prog W r b0 69 (.slice ao n cap)) (hr : RowI .u8 W ao l) (hle : l.length ≤ cap) (hc : cap ≤ maxLen) (ho : Octs l) : Pt.Ok W ⟨ao, cap, l⟩ := by
  refine ⟨hr, hle, hc, ho, fun b e => ?_⟩
  change ao = some b at e
  subst e
  have hh : ∃ row cells, W.shape? b.block = some (row, cells) := by
    simp only [Value.okWide, Cell.okWide, Cell.ok, Try.underlying69, World.has] at hval
    obtain ⟨_, _, _, _, row, cells, h, _⟩ := hval
    exact ⟨row, cells, h⟩
  obtain ⟨row, cells, h⟩ := hh
  exact shape_lt h
set_option maxRecDepth 100000 in
theorem partsArg {H : Type} {enc : TypeId × Value → H} {W : World} {base : Nat} {held : Bool} {r : Reach} {b0 : Nat} {v : Value} {d : DataW H} {q : List MemPlace}
    (hval : Value.okWide Try.prog W r b0 82 v) (hd : DataW.Trod enc Try.prog W base (fun _ => true) held 82 v d q) :
    ∃ (ps : List Pt) (po : Option Addr) (cap n : Nat), v = .slice po n cap ∧ n = ps.length ∧ n ≤ cap ∧ cap ≤ maxLen ∧ RowV W po (ps.map Pt.v) ∧ (∀ x ∈ ps, 4 ≤ x.l.length → x.Ok W) ∧ n ≤ Rows.uptoBulk d := by
  have hbulk := fun (a : Option Addr) (n c : Nat) (h : v = .slice a n c) => slice_bulk (P := Try.prog) (ao := a) (len := n) (cap := c) Try.underlying82 (h ▸ hd)
  obtain ⟨a, len, cap, rfl⟩ := okWide_slice Try.underlying82 hval
  have hb := hbulk _ _ _ rfl
  obtain ⟨fuel, hf⟩ := hd
  rcases Go.Deep.open_slice Try.underlying82 hf with ⟨h1, h2⟩ | ⟨ad, ln, cp, m, n, D, Pl, h1, h3, h4, h5, h6, h7, h8⟩
  · simp [Value.cells] at h1
    obtain ⟨rfl, rfl, rfl⟩ := h1
    exact ⟨[], none, 0, 0, rfl, rfl, Nat.le_refl _, by decide, Or.inl rfl, (fun s hs => by cases hs), Nat.zero_le _⟩
  · simp [Value.cells] at h1
    obtain ⟨rfl, rfl, rfl⟩ := h1
    simp only [if_true] at h6
    subst h6
    rw [show Try.prog.cellsOf 69 = 1 by kernel_rfl] at h8
    have hs : ∀ i, i < m → ∃ x : Pt, (4 ≤ x.l.length → x.Ok W) ∧ At W (ad.add (i * 1)) [x.v] := by
      intro i hi
      obtain ⟨cs', hc, ht⟩ := h8 i hi
      obtain ⟨_, hcl, hat⟩ := World.cells?_some hc
      rcases open_ints Try.underlying69 Try.underlying5 (by kernel_rfl) ht with ⟨rfl, _⟩ | ⟨a1, l1, c1, zs, rfl, g1, g2, g3, g4, g5, g6, g7⟩
      · refine ⟨⟨none, 0, []⟩, fun h => by simp at h, fun j u hu => ?_⟩
        have hj : j < 1 := by have := (List.getElem?_eq_some_iff.1 hu).1; simpa using this
        rw [hat j hj]; exact hu
      · simp only [if_true] at g4
        have hlen : (zs.take l1).length = l1 := by rw [List.length_take]; omega
        refine ⟨⟨some a1, c1, zs.take l1⟩, fun h4 => ?_, fun j u hu => ?_⟩
        · dsimp only at h4
          rw [hlen] at h4
          obtain ⟨b, off, rfl, hcl2⟩ := ints_at g6 (by omega)
          have hb2 := opn.lt_of_cell' (hcl2 0 (by omega))
          refine ⟨Or.inr ⟨b, off, rfl, hb2, fun k hk => ?_⟩, by show (zs.take l1).length ≤ c1; omega, g3, fun c hc => bounds_u8 (g7 c (List.mem_of_mem_take hc)), fun d e => by cases e; exact hb2⟩
          dsimp only at hk
          rw [hlen] at hk
          rw [hcl2 k (by omega)]
          simp [List.getD_eq_getElem?_getD, hk]
        · have hj : j < 1 := by have := (List.getElem?_eq_some_iff.1 hu).1; simpa using this
          rw [hat j hj]
          unfold Pt.v at hu
          rw [hlen] at hu
          exact hu
    have hs' : ∃ f : Nat → Pt, ∀ i, i < m → (4 ≤ (f i).l.length → (f i).Ok W) ∧ At W (ad.add (i * 1)) [(f i).v] := by
      refine ⟨fun i => if h : i < m then Classical.choose (hs i h) else ⟨none, 0, []⟩, fun i hi => ?_⟩
      simp only [dif_pos hi]
      exact Classical.choose_spec (hs i hi)
    obtain ⟨f, hf2⟩ := hs'
    have hlen : ((List.range len).map f).length = len := by simp
    refine ⟨(List.range len).map f, some ad, m, len, rfl, hlen.symm, h4, h5, ?_, fun s hs => ?_, hb⟩
    · by_cases hl : len = 0
      · exact Or.inl (by subst hl; rfl)
      · have c1 := (hf2 0 (by omega)).2 0 _ rfl
        obtain ⟨b, off, spot⟩ := ad
        have hspot : spot = none := by simpa [Addr.add] using World.cell?_spot c1
        subst hspot
        have c2 : W.cell? ⟨b, off, none⟩ = some (f 0).v := by simpa [Addr.add] using c1
        refine Or.inr ⟨b, off, rfl, opn.lt_of_cell' c2, fun i u hi => ?_⟩
        rw [List.map_map, List.getElem?_map] at hi
        have hil : i < len := by
          by_cases h : i < len
          · exact h
          · rw [List.getElem?_eq_none (by simp; omega)] at hi; cases hi
        rw [List.getElem?_range hil] at hi
        simp only [Option.map_some, Option.some.injEq, Function.comp] at hi
        have := (hf2 i (by omega)).2 0 _ rfl
        rw [← hi]
        have e : ((⟨b, off, none⟩ : Addr).add (i * 1)).add 0 = ⟨b, off + i, none⟩ := by
          rw [addr_add, addr_add]; simp
        rwa [e] at this
    · obtain ⟨i, hi, rfl⟩ := List.mem_map.1 hs
      exact (hf2 i (by have := List.mem_range.1 hi; omega)).1
end Go.Proofs.Ytbljihhelladbaa.wr
namespace Go.Proofs.Ytbljihhelladbaa.opn
set_option linter.unusedSimpArgs false
set_option linter.unusedVariables false
open Go.ChangeShapes Go.WideShapes Go.ChangeAt Go.RowKit
theorem octArr {H : Type} {enc : TypeId × Value → H} {P : Program} {W : World} {base : Nat} {spare : Nat → Bool} {held : Bool} {r : Reach} {b0 : Nat} {t e : TypeId} {n : Nat} {v : Value} {d : DataW H} {ps : List MemPlace}
    (ht : P.underlying t = some (.array n e)) (he : P.underlying e = some (.int .u8)) (hc : P.cellsOf e = 1) (hct : P.cellsOf t = n) (hval : Value.okWide P W r b0 t v) (hd : DataW.Trod enc P W base spare held t v d ps) :
    ∃ l : List Int, v = .agg (l.map (Value.int .u8)).toArray ∧ l.length = n ∧ ∀ c ∈ l, 0 ≤ c ∧ c ≤ 255 := by
  have hv : ∃ cs, v = .agg cs := by
    simp only [Value.okWide, ht] at hval
    obtain ⟨cs, h, _⟩ := hval
    exact ⟨cs, h⟩
  obtain ⟨cs, rfl⟩ := hv
  obtain ⟨fuel, hf⟩ := hd
  obtain ⟨xs, m, rfl, _, h1, h2, h3⟩ := DataW.trod_array ht hf
  simp only [Value.cells] at h1 h3
  rw [hct] at h1
  have h4 : ∀ i, i < n → ∃ c : Int, cs.toList[i]? = some (.int .u8 c) ∧ 0 ≤ c ∧ c ≤ 255 := by
    intro i hi
    have h5 := h3 i hi
    rw [hc, Nat.mul_one, List.getElem?_eq_getElem (by omega)] at h5
    have hcs : (cs.toList.drop i).take 1 = [cs.toList[i]'(by omega)] := by
      rw [List.drop_eq_getElem_cons (by omega)]
      rfl
    rw [hcs] at h5
    obtain ⟨c, hcc, _, hw⟩ := DataW.trod_int he h5
    have hb := bounds_u8 hw
    simp only [List.cons.injEq, and_true] at hcc
    exact ⟨c, by rw [List.getElem?_eq_getElem (by omega), hcc], hb⟩
  refine ⟨cs.toList.map fun u => match u with | .int _ c => c | _ => 0, ?_, by rw [List.length_map]; exact h1, ?_⟩
  · congr 1
    apply Array.ext'
    rw [List.map_map]
    symm
    apply List.ext_getElem
    · simp
    · intro i hi1 hi2
      obtain ⟨c, h6, _⟩ := h4 i (by omega)
      rw [List.getElem?_eq_getElem (by omega)] at h6
      simp only [Option.some.injEq] at h6
      simp [h6]
  · intro c hc'
    obtain ⟨u, hu, rfl⟩ := List.mem_map.1 hc'
    obtain ⟨i, hi, rfl⟩ := List.getElem_of_mem hu
    obtain ⟨c, h6, h7⟩ := h4 i (by omega)
    rw [List.getElem?_eq_getElem hi] at h6
    simp only [Option.some.injEq] at h6
    rw [h6]
    exact h7
end Go.Proofs.Ytbljihhelladbaa.opn
