/-
  Contracts of wrap.reach and keyref2.ReachOf. Conditions: at most 200 roots and envelopes that lie in memory. Contract of keyref2.ReachOf: the names that are reached, in order. Conditions: at most 200 roots and envelopes that lie in memory.
-/
import Derived.Test.YtbjmadcbhkeenaaGreatCSrt
import Derived.Test.YtbjmadcbhkeenaaGreatCLkF
set_option maxRecDepth 100000
set_option linter.unusedSimpArgs false
set_option linter.unusedVariables false
namespace Go.Proofs.YtbjmadcbhkeenaaGreat.lk
open Go.RowKit wr st hs shr sh
def bmap (S : Id → Bool) : Mp Value := fun k => if S k = true then some (.bool true) else none
def ins (S : Id → Bool) (k : Id) : Id → Bool := fun j => decide (j = k) || S j
theorem ins_iff (S : Id → Bool) (k j : Id) : ins S k j = true ↔ j = k ∨ S j = true := by unfold ins; rw [Bool.or_eq_true, decide_eq_true_eq]
theorem bmap_ins (S : Id → Bool) (k j : Id) : upd (bmap S) k (.bool true) j = bmap (ins S k) j := by
 by_cases h : j = k
 ·rw [h, upd_same]; unfold bmap; rw [if_pos ((ins_iff S k k).2 (Or.inl rfl))]
 ·rw [upd_other _ _ h]; unfold bmap ins; simp [h]
theorem bmap_some (S : Id → Bool) (k : Id) : (bmap S k).isSome = true ↔ S k = true := by
 unfold bmap
 by_cases h : S k = true <;> simp [h]
theorem zeroBool (w : World) : (zeroValue 4).run Tryz.prog w = .ok (.bool false) w := by kernel_rfl
theorem look_b (S : Id → Bool) (k : Id) : (if false = true then Value.tuple #[(bmap S k).getD (.bool false), .bool (bmap S k).isSome] else (bmap S k).getD (.bool false)) = .bool (S k) := by
 rw [if_neg (by decide)]
 unfold bmap
 cases S k <;> rfl
theorem roots_skip {gone l : List Id} {s : Id} (h : s ∈ gone) (k : Id) : k ∈ l ∧ k ∉ gone ↔ k ∈ l ++ [s] ∧ k ∉ gone := by
 constructor
 ·exact fun ⟨h1, h2⟩ => ⟨List.mem_append_left _ h1, h2⟩
 ·rintro ⟨h1, h2⟩
  rcases List.mem_append.1 h1 with h1 | h1
  ·exact ⟨h1, h2⟩
  ·rw [List.mem_singleton.1 h1] at h2; exact absurd h h2
theorem roots_add {gone l : List Id} {s : Id} (h : s ∉ gone) (k : Id) : k = s ∨ (k ∈ l ∧ k ∉ gone) ↔ k ∈ l ++ [s] ∧ k ∉ gone := by
 constructor
 ·rintro (rfl | ⟨h1, h2⟩)
  ·exact ⟨List.mem_append_right _ (List.mem_singleton_self _), h⟩
  ·exact ⟨List.mem_append_left _ h1, h2⟩
 ·rintro ⟨h1, h2⟩
  rcases List.mem_append.1 h1 with h1 | h1
  ·exact Or.inr ⟨h1, h2⟩
  ·exact Or.inl (List.mem_singleton.1 h1)
theorem grow_start {E : List Link} {roots gone : List Id} {S : Id → Bool} (h : ∀ k, S k = true ↔ k ∈ roots ∧ k ∉ gone) : Grow roots gone E (fun k => S k = true) :=
 ⟨fun r hr hw => (h r).2 ⟨hr, hw⟩, fun T hT _ k hk => hT k ((h k).1 hk).1 ((h k).1 hk).2⟩
theorem grow_next {E : List Link} {gone : List Id} {S : Id → Bool} {j : Nat} {x : Link} (h : ∀ q y, q < j → E[q]? = some y → S y.1 = true → y.2 ∉ gone → S y.2 = true) (hx : E[j]? = some x) (hc : S x.1 = true → x.2 ∉ gone → S x.2 = true) : ∀ q y, q < j + 1 → E[q]? = some y → S y.1 = true → y.2 ∉ gone → S y.2 = true := by
 intro q y hq hy h1 h2
 by_cases hqj : q = j
 ·subst hqj
  rw [hx] at hy
  cases hy
  exact hc h1 h2
 ·exact h q y (by omega) hy h1 h2
noncomputable def setOf (w : World) (b : Nat) : Id → Bool := fun k => @decide (∃ es c, w.heap[b]? = some (.map es c) ∧ ∃ e ∈ es.toList, e.key = idV k) (Classical.propDecidable _)
theorem setOf_eq {w : World} {b : Nat} {S : Id → Bool} (h : MapD w b (bmap S)) : setOf w b = S := by
 obtain ⟨es, c, hb, hE⟩ := h
 funext k
 have e : (∃ es c, w.heap[b]? = some (.map es c) ∧ ∃ e ∈ es.toList, e.key = idV k) ↔ S k = true := by
  constructor
  ·rintro ⟨es', c', hb', e, he, hk⟩
   rw [hb] at hb'
   cases hb'
   obtain ⟨j, _, h2, h3⟩ := hE.key e he
   rw [idV_inj (hk.symm.trans h2)]
   rw [← bmap_some, h3]; rfl
  ·intro hk
   obtain ⟨e, he, h1⟩ := hE.all k (.bool true) (by unfold bmap; rw [if_pos hk])
   exact ⟨es, c, hb, e, he, h1⟩
 unfold setOf
 cases hS : S k with
 | true => exact @decide_eq_true _ (Classical.propDecidable _) (e.2 hS)
 | false => exact @decide_eq_false _ (Classical.propDecidable _) (fun h => by rw [e.1 h] at hS; cases hS)
def boolN : Value → Nat
 | .bool true => 1
 | _ => 0
def ReachPost (roots gone : List Id) (E : List Link) (w : World) (e : Ending) (w' : World) : Prop := Below w.heap.size w w' ∧ ∃ (b : Nat) (S : Id → Bool), e = .returned (.map (some b)) ∧ w.heap.size ≤ b ∧ MapD w' b (bmap S) ∧ Grow roots gone E (fun k => S k = true) ∧ Shut1 E gone (fun k => S k = true)
set_option maxHeartbeats 8000000 in
theorem reach_any (ro lo go : Option Addr) (rcap lcap gcap m n gn : Nat) (roots gone : List Id) (es : List Env) (w : World) (hm : m = roots.length) (hn : n = es.length) (hg : gn = gone.length) (h1 : n ≤ 200) (h2 : m ≤ 200) (hgn : gn ≤ 9223372036854775807) (hroots : RowD w ro roots) (hgone : RowD w go gone) (hrow : RowE w lo es) (hok : ∀ x ∈ es, x.Ok) :
  Calls Tryz.prog 24 #[.slice ro m rcap, .slice lo n lcap, .slice go gn gcap] w (ReachPost roots gone (es.map lnk) w) := by
 obtain ⟨B, HB⟩ : ∃ B, Hid (B = w.heap.size) := ⟨_, rfl⟩
 have hsz : w.heap.size = B := HB.out.symm
 have HN := hid hn
 have HM := hid hm
 have hzE := hid zeroEnv
 obtain ⟨ZE, HZE⟩ : ∃ Z, Hid (Z = env0.cs) := ⟨_, rfl⟩
 rw [← HZE.out] at hzE
 have hZEl : ZE.length = 130 := by rw [HZE.out]; exact env0_ok.csl
 obtain ⟨ZI, HZI⟩ : ∃ Z, Hid (Z = (List.replicate 16 (0 : Int)).map (Value.int .u8)) := ⟨_, rfl⟩
 have hzI := hid zeroID
 rw [← HZI.out] at hzI
 have hZIl : ZI.length = 16 := by rw [HZI.out]; simp
 have hcon := fun (y : World) (s : Id) (hs : s.length = 16) (hb : Below B w y) (r : Bool) (Hr : Hid (r = decide (s ∈ gone))) => hid (Contains_id go gcap gn gone s y hg (hgone.below (hsz ▸ hb)) hs hgn r Hr)
 clear hn hm hg
 go_enter Tryz.func24, Tryz.ntmps24
 go_wp2_with (refine wl_makeMap rfl 60 rfl B hsz ?_; intro w0 hM0 hb0 hs0)
 go_loopw [16] (fun i wr => ∃ (j : Nat) (S : Id → Bool), j ≤ m ∧ i = .int .i64 j ∧ MapD wr B (bmap S) ∧ Below B w wr ∧ Hid (∀ k, S k = true ↔ k ∈ roots.take j ∧ k ∉ gone)) (fun i _ => m - (intOf i).toNat)
 case atStart => exact ⟨0, fun _ => false, by omega, rfl, (MapD.new hM0).iff (fun k => by simp [bmap]), hb0, hid (fun k => by simp)⟩
 case round =>
  clear hM0 hb0 hs0
  obtain ⟨j, S, hj, rfl, hMp, hb, HS⟩ := hrel
  by_cases hjm : j < m
  ·have hjI : (j : Int) < (m : Int) := by omega
   have hjr : j < roots.length := by have := HM.out; omega
   have hMpl := hMp.lt
   have hszr0 : B ≤ wr.heap.size := by omega
   obtain ⟨b, off, rfl, hbw, hat, hr16⟩ := (hroots.below (by rw [← HB.out]; exact hb)).at (k := j) hjr
   obtain ⟨s, Hs⟩ : ∃ s, Hid (s = roots.getD j []) := ⟨_, rfl⟩
   rw [← Hs.out] at hat hr16
   have HTK : Hid (roots.take (j + 1) = roots.take j ++ [s]) := hid (by rw [List.take_succ_eq_append_getElem hjr, Hs.out, getD_lt' roots [] hjr])
   obtain ⟨RS, HRS⟩ : ∃ T, Hid (T = s.map (Value.int .u8)) := ⟨_, rfl⟩
   have hRl : RS.length = 16 := by rw [HRS.out, List.length_map, hr16]
   have hR1 : ∀ u ∈ RS, u.oneCell' = true := by rw [HRS.out]; exact ints_one _ _
   have HID : Hid (Value.agg RS.toArray = idV s) := hid (by rw [HRS.out]; rfl)
   rw [← HRS.out] at hat
   obtain ⟨r, Hr⟩ : ∃ r, Hid (r = decide (s ∈ gone)) := ⟨_, rfl⟩
   have hcs := fun (y : World) (hb : Below B w y) => hcon y s hr16 hb r Hr
   rw [← HID.out] at hcs
   clear hjr hroots
   cases r with
   | true =>
    have HG : Hid (s ∈ gone) := hid (by have := Hr.out; simpa using this.symm)
    go_wp2_with (first | (go_at_call 17; refine (hcs w3 bt3).out.mono ?_; rintro e w5 ⟨rfl, hb5⟩; have hM5 := hM3.below hb5 hM3.lt; have hX5 := hX3.below hb5 hX3.lt; have bb5 : Below B w w5 := bt3.trans (hb5.mono (by have := bt3.size; have := hM3.lt; omega)); clear hb5) | (refine wl_load rfl 27 _ rfl ⟨M, 0, none⟩ rfl RS (by rw [hRl]; exact aggID) hX3.at0 ?_) | (refine wl_storeV rfl 27 _ _ rfl 27 M rfl RS rfl 16 aggID hRl ZI hG2 hZIl hR1 ?_; intro w3 hX3 hb3 hs3; have bb3 : Below wr.heap.size wr w3 := bb2.trans (hb3.mono (by rw [HMM.out]; exact Nat.le_refl _)); have hM3 := hMp.below bb3 hMpl; have bt3 : Below B w w3 := hb.trans (bb3.mono hszr0); clear hb3 hG2 bb2 hs3) | (refine wl_allocV rfl 27 rfl ZI hzI.out wr.heap.size rfl ?_; intro w2 hG2 bb2 hs2; obtain ⟨M, HMM⟩ : ∃ g, Hid (g = wr.heap.size) := ⟨_, rfl⟩; rw [← HMM.out] at hG2; rw [← HMM.out]; clear hs2) | (refine wl_load rfl 27 _ rfl ⟨b, off + j * 16, none⟩ rfl RS (by rw [hRl]; exact aggID) hat ?_))
    go_roundw
    case rel => exact ⟨j + 1, S, by omega, by go_num, hM5, bb5, hid (fun k => by rw [HS.out, HTK.out]; exact roots_skip HG.out k)⟩
    case measure => simp [intOf] <;> omega
   | false =>
    have HG : Hid (s ∉ gone) := hid (by have := Hr.out; simpa using this.symm)
    go_wp2_with (first | (refine wl_updD rfl 60 4 _ _ _ rfl Tryz.underlying60 B _ hM5 s hr16 rfl HID.out (.bool true) rfl ?_; intro w6 hM6 hb6 hs6 hg6; have bb6 : Below B w w6 := bb5.grown hg6 (by have := hM5.lt; omega) (fun k hk => by injection hk with hk; omega); clear hM5 hb6 hg6 hs6) | (refine wl_load rfl 27 _ rfl ⟨M, 0, none⟩ rfl RS (by rw [hRl]; exact aggID) hX5.at0 ?_) | (go_at_call 17; refine (hcs w3 bt3).out.mono ?_; rintro e w5 ⟨rfl, hb5⟩; have hM5 := hM3.below hb5 hM3.lt; have hX5 := hX3.below hb5 hX3.lt; have bb5 : Below B w w5 := bt3.trans (hb5.mono (by have := bt3.size; have := hM3.lt; omega)); clear hb5) | (refine wl_load rfl 27 _ rfl ⟨M, 0, none⟩ rfl RS (by rw [hRl]; exact aggID) hX3.at0 ?_) | (refine wl_storeV rfl 27 _ _ rfl 27 M rfl RS rfl 16 aggID hRl ZI hG2 hZIl hR1 ?_; intro w3 hX3 hb3 hs3; have bb3 : Below wr.heap.size wr w3 := bb2.trans (hb3.mono (by rw [HMM.out]; exact Nat.le_refl _)); have hM3 := hMp.below bb3 hMpl; have bt3 : Below B w w3 := hb.trans (bb3.mono hszr0); clear hb3 hG2 bb2 hs3) | (refine wl_allocV rfl 27 rfl ZI hzI.out wr.heap.size rfl ?_; intro w2 hG2 bb2 hs2; obtain ⟨M, HMM⟩ : ∃ g, Hid (g = wr.heap.size) := ⟨_, rfl⟩; rw [← HMM.out] at hG2; rw [← HMM.out]; clear hs2) | (refine wl_load rfl 27 _ rfl ⟨b, off + j * 16, none⟩ rfl RS (by rw [hRl]; exact aggID) hat ?_))
    go_roundw
    case rel => exact ⟨j + 1, _, by omega, by go_num, hM6.iff (fun k => bmap_ins S s k), bb6, hid (fun k => by rw [ins_iff, HS.out, HTK.out]; exact roots_add HG.out k)⟩
    case measure => simp [intOf] <;> omega
  ·obtain rfl : j = m := by omega
   have hfull : roots.take j = roots := List.take_of_length_le (by rw [← HM.out]; exact Nat.le_refl _)
   have HS2 : Hid (∀ k, S k = true ↔ k ∈ roots ∧ k ∉ gone) := hid (fun k => by have := HS.out k; rwa [hfull] at this)
   have HGR := hid (grow_start (E := es.map lnk) HS2.out)
   clear hjm hfull HS HS2
   go_wp2
   go_loopw [10] (fun t wr => ∃ (g : Bool) (S : Id → Bool), t = .bool g ∧ MapD wr B (bmap S) ∧ Below B w wr ∧ Hid (Grow roots gone (es.map lnk) (fun k => S k = true)) ∧ Hid (g = false → Shut1 (es.map lnk) gone (fun k => S k = true))) (fun t wr => 2 * (es.length - ends (es.map lnk) (setOf wr B)) + boolN t)
   case atStart => exact ⟨true, S, rfl, hMp, hb, HGR, hid (fun h => by cases h)⟩
   case round =>
    clear hMp hb HGR
    obtain ⟨g, S, rfl, hMp, hb, HGR, HSH⟩ := hrel
    have HSO := hid (setOf_eq hMp)
    cases g with
    | true =>
     clear HSH
     go_wp2
     go_loopw [10, 30] (fun t i wi => ∃ (j : Nat) (g' : Bool) (S' : Id → Bool), j ≤ n ∧ t = .bool g' ∧ i = .int .i64 j ∧ MapD wi B (bmap S') ∧ Below B w wi ∧ Hid (Grow roots gone (es.map lnk) (fun k => S' k = true)) ∧ Hid (g' = false → (∀ k, S' k = S k) ∧ ∀ q x, q < j → (es.map lnk)[q]? = some x → S x.1 = true → x.2 ∉ gone → S x.2 = true) ∧ Hid (g' = true → ends (es.map lnk) S < ends (es.map lnk) S')) (fun _ i _ => n - (intOf i).toNat)
     case atStart => exact ⟨0, false, S, by omega, rfl, rfl, hMp, hb, HGR, hid (fun _ => ⟨fun _ => rfl, fun q x hq => by omega⟩), hid (fun h => by cases h)⟩
     case round =>
      clear hMp hb
      rename World => wi
      obtain ⟨j, g, S', hj, rfl, rfl, hMi, hbi, HGI, HF, HT⟩ := hrel
      by_cases hjn : j < n
      ·have hjI : (j : Int) < (n : Int) := by omega
       have hje : j < es.length := by have := HN.out; omega
       have hMil := hMi.lt
       have hszi0 : B ≤ wi.heap.size := by omega
       obtain ⟨b, off, rfl, hbw, hat, hC130⟩ := (hrow.below (by rw [← HB.out]; exact hbi)).at (k := j) hje
       obtain ⟨x, Hx⟩ : ∃ x, Hid (x = es.getD j env0) := ⟨_, rfl⟩
       have hx : x.Ok := by rw [Hx.out]; exact hok _ (by rw [getD_lt' es _ hje]; exact List.getElem_mem hje)
       rw [← Hx.out] at hat hC130
       have HEJ : Hid ((es.map lnk)[j]'(by rw [List.length_map]; exact hje) = (x.b, x.o)) := hid (by rw [List.getElem_map, Hx.out, getD_lt' es _ hje]; rfl)
       obtain ⟨CS, HCS⟩ : ∃ C, Hid (C = x.cs) := ⟨_, rfl⟩
       have hCl : CS.length = 130 := by rw [HCS.out]; exact hC130
       have hC1 : ∀ u ∈ CS, u.oneCell' = true := by rw [HCS.out]; exact x.cs_one
       rw [← HCS.out] at hat
       obtain ⟨XB, HXB⟩ : ∃ V, Hid (V = x.b.map (Value.int .u8)) := ⟨_, rfl⟩
       have hXBl : XB.length = 16 := by rw [HXB.out, List.length_map, hx.bl]
       obtain ⟨XO, HXO⟩ : ∃ V, Hid (V = x.o.map (Value.int .u8)) := ⟨_, rfl⟩
       have hXOl : XO.length = 16 := by rw [HXO.out, List.length_map, hx.ol]
       have fB : Hid (∀ w G, BlkV 57 w G CS → At w ⟨G, 2, none⟩ XB) := hid (fun w G h => by rw [HXB.out]; rw [HCS.out] at h; exact env_b h)
       have fO : Hid (∀ w G, BlkV 57 w G CS → At w ⟨G, 18, none⟩ XO) := hid (fun w G h => by rw [HXO.out]; rw [HCS.out] at h; exact env_o hx h)
       have HIDB : Hid (Value.agg XB.toArray = idV x.b) := hid (by rw [HXB.out]; rfl)
       have HIDO : Hid (Value.agg XO.toArray = idV x.o) := hid (by rw [HXO.out]; rfl)
       have hxbl := hx.bl
       have hxol := hx.ol
       have HEI : Hid ((es.map lnk)[j]? = some (x.b, x.o)) := hid (by rw [List.getElem?_eq_getElem (by rw [List.length_map]; exact hje), HEJ.out])
       obtain ⟨r, Hr⟩ : ∃ r, Hid (r = decide (x.o ∈ gone)) := ⟨_, rfl⟩
       have hcs := fun (y : World) (hb : Below B w y) => hcon y x.o hxol hb r Hr
       rw [← HIDO.out] at hcs
       clear hx hC130 HEJ hje hrow
       cases hsb : S' x.b with
       | false =>
        have HV := hid (look_b S' x.b)
        rw [hsb] at HV
        have HF2 : Hid (g = false → (∀ k, S' k = S k) ∧ ∀ q y, q < j + 1 → (es.map lnk)[q]? = some y → S y.1 = true → y.2 ∉ gone → S y.2 = true) := hid (fun h => ⟨(HF.out h).1, grow_next (HF.out h).2 HEI.out (fun h1 _ => by rw [← (HF.out h).1, hsb] at h1; cases h1)⟩)
        clear hsb HF
        go_wp2_with (first | (refine wl_lookD (by kernel_rfl) 60 4 _ _ false rfl Tryz.underlying60 (.bool false) (zeroBool _) B _ hM3 x.b hxbl rfl HIDB.out _ HV.out ?_) | (refine wl_load rfl 27 _ rfl ⟨M, 2, none⟩ rfl XB (by rw [hXBl]; exact aggID) (fB.out _ _ hX3) ?_) | (refine wl_storeV rfl 57 _ _ rfl 57 M rfl CS rfl 130 aggEnv hCl ZE hG2 hZEl hC1 ?_; intro w3 hX3 hb3 hs3; have bb3 : Below wi.heap.size wi w3 := bb2.trans (hb3.mono (by rw [HMM.out]; exact Nat.le_refl _)); have hM3 := hMi.below bb3 hMil; have bt3 : Below B w w3 := hbi.trans (bb3.mono hszi0); clear hb3 hG2 bb2 hs3) | (refine wl_allocV rfl 57 rfl ZE hzE.out wi.heap.size rfl ?_; intro w2 hG2 bb2 hs2; obtain ⟨M, HMM⟩ : ∃ g, Hid (g = wi.heap.size) := ⟨_, rfl⟩; rw [← HMM.out] at hG2; rw [← HMM.out]; clear hs2) | (refine wl_load rfl 57 _ rfl ⟨b, off + j * 130, none⟩ rfl CS (by rw [hCl]; exact aggEnv) hat ?_))
        go_roundw
        case rel => exact ⟨j + 1, g, S', by omega, rfl, by go_num, hM3, bt3, HGI, HF2, HT⟩
        case measure => simp [intOf] <;> omega
       | true =>
        have HV := hid (look_b S' x.b)
        rw [hsb] at HV
        have HV2 := hid (look_b S' x.o)
        cases hso : S' x.o with
        | true =>
         rw [hso] at HV2
         have HF2 : Hid (g = false → (∀ k, S' k = S k) ∧ ∀ q y, q < j + 1 → (es.map lnk)[q]? = some y → S y.1 = true → y.2 ∉ gone → S y.2 = true) := hid (fun h => ⟨(HF.out h).1, grow_next (HF.out h).2 HEI.out (fun _ _ => by rw [← (HF.out h).1, hso])⟩)
         clear hsb hso HF
         go_wp2_with (first | (refine wl_lookD (by kernel_rfl) 60 4 _ _ false rfl Tryz.underlying60 (.bool false) (zeroBool _) B _ hM3 x.o hxol rfl HIDO.out _ HV2.out ?_) | (refine wl_lookD (by kernel_rfl) 60 4 _ _ false rfl Tryz.underlying60 (.bool false) (zeroBool _) B _ hM3 x.b hxbl rfl HIDB.out _ HV.out ?_) | (refine wl_loadD 41 rfl (by kernel_rfl) 27 _ rfl ⟨M, 18, none⟩ rfl 16 XO hXOl aggID (fO.out _ _ hX3) ?_) | (refine wl_load rfl 27 _ rfl ⟨M, 2, none⟩ rfl XB (by rw [hXBl]; exact aggID) (fB.out _ _ hX3) ?_) | (refine wl_storeV rfl 57 _ _ rfl 57 M rfl CS rfl 130 aggEnv hCl ZE hG2 hZEl hC1 ?_; intro w3 hX3 hb3 hs3; have bb3 : Below wi.heap.size wi w3 := bb2.trans (hb3.mono (by rw [HMM.out]; exact Nat.le_refl _)); have hM3 := hMi.below bb3 hMil; have bt3 : Below B w w3 := hbi.trans (bb3.mono hszi0); clear hb3 hG2 bb2 hs3) | (refine wl_allocV rfl 57 rfl ZE hzE.out wi.heap.size rfl ?_; intro w2 hG2 bb2 hs2; obtain ⟨M, HMM⟩ : ∃ g, Hid (g = wi.heap.size) := ⟨_, rfl⟩; rw [← HMM.out] at hG2; rw [← HMM.out]; clear hs2) | (refine wl_load rfl 57 _ rfl ⟨b, off + j * 130, none⟩ rfl CS (by rw [hCl]; exact aggEnv) hat ?_))
         go_roundw
         case rel => exact ⟨j + 1, g, S', by omega, rfl, by go_num, hM3, bt3, HGI, HF2, HT⟩
         case measure => simp [intOf] <;> omega
        | false =>
         rw [hso] at HV2
         cases r with
         | true =>
          have HG : Hid (x.o ∈ gone) := hid (by have := Hr.out; simpa using this.symm)
          have HF2 : Hid (g = false → (∀ k, S' k = S k) ∧ ∀ q y, q < j + 1 → (es.map lnk)[q]? = some y → S y.1 = true → y.2 ∉ gone → S y.2 = true) := hid (fun h => ⟨(HF.out h).1, grow_next (HF.out h).2 HEI.out (fun _ h2 => absurd HG.out h2)⟩)
          clear hsb hso HF
          go_wp2_with (first | (go_at_call 17; refine (hcs w3 bt3).out.mono ?_; rintro e w5 ⟨rfl, hb5⟩; have hM5 := hM3.below hb5 hM3.lt; have hX5 := hX3.below hb5 hX3.lt; have bb5 : Below B w w5 := bt3.trans (hb5.mono (by have := bt3.size; have := hM3.lt; omega)); clear hb5) | (refine wl_lookD (by kernel_rfl) 60 4 _ _ false rfl Tryz.underlying60 (.bool false) (zeroBool _) B _ hM3 x.o hxol rfl HIDO.out _ HV2.out ?_) | (refine wl_lookD (by kernel_rfl) 60 4 _ _ false rfl Tryz.underlying60 (.bool false) (zeroBool _) B _ hM3 x.b hxbl rfl HIDB.out _ HV.out ?_) | (refine wl_loadD 48 rfl (by kernel_rfl) 27 _ rfl ⟨M, 18, none⟩ rfl 16 XO hXOl aggID (fO.out _ _ hX3) ?_) | (refine wl_loadD 41 rfl (by kernel_rfl) 27 _ rfl ⟨M, 18, none⟩ rfl 16 XO hXOl aggID (fO.out _ _ hX3) ?_) | (refine wl_load rfl 27 _ rfl ⟨M, 2, none⟩ rfl XB (by rw [hXBl]; exact aggID) (fB.out _ _ hX3) ?_) | (refine wl_storeV rfl 57 _ _ rfl 57 M rfl CS rfl 130 aggEnv hCl ZE hG2 hZEl hC1 ?_; intro w3 hX3 hb3 hs3; have bb3 : Below wi.heap.size wi w3 := bb2.trans (hb3.mono (by rw [HMM.out]; exact Nat.le_refl _)); have hM3 := hMi.below bb3 hMil; have bt3 : Below B w w3 := hbi.trans (bb3.mono hszi0); clear hb3 hG2 bb2 hs3) | (refine wl_allocV rfl 57 rfl ZE hzE.out wi.heap.size rfl ?_; intro w2 hG2 bb2 hs2; obtain ⟨M, HMM⟩ : ∃ g, Hid (g = wi.heap.size) := ⟨_, rfl⟩; rw [← HMM.out] at hG2; rw [← HMM.out]; clear hs2) | (refine wl_load rfl 57 _ rfl ⟨b, off + j * 130, none⟩ rfl CS (by rw [hCl]; exact aggEnv) hat ?_))
          go_roundw
          case rel => exact ⟨j + 1, g, S', by omega, rfl, by go_num, hM5, bb5, HGI, HF2, HT⟩
          case measure => simp [intOf] <;> omega
         | false =>
          have HG : Hid (x.o ∉ gone) := hid (by have := Hr.out; simpa using this.symm)
          have HGA : Hid (Grow roots gone (es.map lnk) (fun k => ins S' x.o k = true)) := hid ((HGI.out.add (List.mem_of_getElem? HEI.out) hsb HG.out).iff (fun k => by rw [ins_iff]))
          have HLT : Hid (ends (es.map lnk) S < ends (es.map lnk) (ins S' x.o)) := hid (by
           have h1 : ends (es.map lnk) S' < ends (es.map lnk) (ins S' x.o) := ends_lt (fun k hk => by rw [ins_iff]; exact Or.inr hk) (List.mem_of_getElem? HEI.out) hso (by rw [ins_iff]; exact Or.inl rfl)
           cases g with
           | true => exact Nat.lt_trans (HT.out rfl) h1
           | false =>
            have e : ends (es.map lnk) S = ends (es.map lnk) S' := by unfold ends; congr 1; funext y; rw [(HF.out rfl).1]
            rw [e]; exact h1)
          clear hsb hso HF HT
          go_wp2_with (first | (refine wl_updD rfl 60 4 _ _ _ rfl Tryz.underlying60 B _ hM5 x.o hxol rfl HIDO.out (.bool true) rfl ?_; intro w6 hM6 hb6 hs6 hg6; have bb6 : Below B w w6 := bb5.grown hg6 (by have := hM5.lt; omega) (fun k hk => by injection hk with hk; omega); clear hM5 hb6 hg6 hs6) | (refine wl_load rfl 27 _ rfl ⟨M, 18, none⟩ rfl XO (by rw [hXOl]; exact aggID) (fO.out _ _ hX5) ?_) | (go_at_call 17; refine (hcs w3 bt3).out.mono ?_; rintro e w5 ⟨rfl, hb5⟩; have hM5 := hM3.below hb5 hM3.lt; have hX5 := hX3.below hb5 hX3.lt; have bb5 : Below B w w5 := bt3.trans (hb5.mono (by have := bt3.size; have := hM3.lt; omega)); clear hb5) | (refine wl_lookD (by kernel_rfl) 60 4 _ _ false rfl Tryz.underlying60 (.bool false) (zeroBool _) B _ hM3 x.o hxol rfl HIDO.out _ HV2.out ?_) | (refine wl_lookD (by kernel_rfl) 60 4 _ _ false rfl Tryz.underlying60 (.bool false) (zeroBool _) B _ hM3 x.b hxbl rfl HIDB.out _ HV.out ?_) | (refine wl_loadD 48 rfl (by kernel_rfl) 27 _ rfl ⟨M, 18, none⟩ rfl 16 XO hXOl aggID (fO.out _ _ hX3) ?_) | (refine wl_loadD 41 rfl (by kernel_rfl) 27 _ rfl ⟨M, 18, none⟩ rfl 16 XO hXOl aggID (fO.out _ _ hX3) ?_) | (refine wl_load rfl 27 _ rfl ⟨M, 2, none⟩ rfl XB (by rw [hXBl]; exact aggID) (fB.out _ _ hX3) ?_) | (refine wl_storeV rfl 57 _ _ rfl 57 M rfl CS rfl 130 aggEnv hCl ZE hG2 hZEl hC1 ?_; intro w3 hX3 hb3 hs3; have bb3 : Below wi.heap.size wi w3 := bb2.trans (hb3.mono (by rw [HMM.out]; exact Nat.le_refl _)); have hM3 := hMi.below bb3 hMil; have bt3 : Below B w w3 := hbi.trans (bb3.mono hszi0); clear hb3 hG2 bb2 hs3) | (refine wl_allocV rfl 57 rfl ZE hzE.out wi.heap.size rfl ?_; intro w2 hG2 bb2 hs2; obtain ⟨M, HMM⟩ : ∃ g, Hid (g = wi.heap.size) := ⟨_, rfl⟩; rw [← HMM.out] at hG2; rw [← HMM.out]; clear hs2) | (refine wl_load rfl 57 _ rfl ⟨b, off + j * 130, none⟩ rfl CS (by rw [hCl]; exact aggEnv) hat ?_))
          go_roundw
          case rel => exact ⟨j + 1, true, _, by omega, rfl, by go_num, hM6.iff (fun k => bmap_ins S' x.o k), bb6, HGA, hid (fun h => by cases h), hid (fun _ => HLT.out)⟩
          case measure => simp [intOf] <;> omega
      ·obtain rfl : j = n := by omega
       have HSH2 : Hid (g = false → Shut1 (es.map lnk) gone (fun k => S' k = true)) := hid (fun h => by
        obtain ⟨e1, e2⟩ := HF.out h
        intro x hx h1 h2
        obtain ⟨q, hq⟩ := List.getElem?_of_mem hx
        have hql : q < (es.map lnk).length := (List.getElem?_eq_some_iff.1 hq).1
        rw [List.length_map, ← HN.out] at hql
        show S' x.2 = true
        rw [e1]
        exact e2 q x hql hq (by rw [← e1]; exact h1) h2)
       have HSO2 := hid (setOf_eq hMi)
       have HLE := hid (ends_le (es.map lnk) S')
       have HME : Hid (g = true → ends (es.map lnk) S < ends (es.map lnk) S') := HT
       have HME2 : Hid (g = false → ends (es.map lnk) S' = ends (es.map lnk) S) := hid (fun h => by unfold ends; congr 1; funext y; rw [(HF.out h).1])
       clear HF HT hjn
       go_wp2
       go_roundw
       case rel => exact ⟨g, S', rfl, hMi, hbi, HGI, HSH2⟩
       case measure =>
        rw [HSO.out, HSO2.out]
        have h3 := HLE.out
        rw [List.length_map] at h3
        cases g with
        | true => have h4 := HME.out rfl; simp [boolN] <;> omega
        | false => have h4 := HME2.out rfl; rw [h4]; simp [boolN]
    | false =>
     have HSD := hid (HSH.out rfl)
     clear HSH
     go_wp2
     go_ret
     exact ⟨by rw [hsz]; exact hb, B, S, rfl, by rw [hsz]; exact Nat.le_refl _, hMp, HGR.out, HSD.out⟩
end Go.Proofs.YtbjmadcbhkeenaaGreat.lk
namespace Go.Proofs.YtbjmadcbhkeenaaGreat.lk
open Go.RowKit wr st hs shr sh srt
theorem infoId : Info Tryz.prog 27 (.agg ((List.replicate 16 (0 : Int)).map (Value.int .u8)).toArray) 16 16 := by unfold Info; kernel_rfl
theorem infoId2 : (Tryz.prog.info? 27).map (fun i => (i.zero, i.size)) = some (some (.agg ((List.replicate 16 (0 : Int)).map (Value.int .u8)).toArray), 16) := by kernel_rfl
theorem flatL_snoc (l : List (List Int)) (h : List Int) : flatL (l ++ [h]) = flatL l ++ h.map (Value.int .u8) := by unfold flatL; simp
theorem rowH_flat {w : World} {ao : Option Addr} {l : List (List Int)} (hok : ∀ s ∈ l, IdOk s) (h : RowV w ao (flatL l)) : RowH w ao l := by
 by_cases h0 : l = []
 ·exact Or.inl h0
 ·have hp : 0 < l.length := List.length_pos_iff.2 h0
  rcases h with h | ⟨b, off, h1, h2, h3⟩
  ·exfalso
   have := congrArg List.length h
   rw [flatL_length l hok, List.length_nil] at this
   omega
  ·refine Or.inr ⟨b, off, h1, h2, fun i hi j u hu => ?_⟩
   have hj : j < 16 := by
    have := (List.getElem?_eq_some_iff.1 hu).1
    rwa [List.length_map, (hok (l.getD i []) (by rw [getD_lt' l _ hi]; exact List.getElem_mem hi)).1] at this
   have := h3 (i * 16 + j) u (by rw [flatL_get l hok i j hi hj]; exact hu)
   rw [addr_add, Nat.add_assoc]; exact this
theorem Grow.of {R W : List Id} {E : List Link} {S : Id → Prop} (h : Grow R W E S) (P : Id → Prop) (hr : ∀ r ∈ R, P r) (he : ∀ x ∈ E, P x.2) : ∀ k, S k → P k :=
 h.least P (fun r hr' _ => hr r hr') (fun x hx _ _ => he x hx)
theorem Grow.few {R W : List Id} {E : List Link} {S : Id → Prop} (h : Grow R W E S) {l : List Id} (hn : l.Nodup) (hl : ∀ k ∈ l, S k) : l.length ≤ R.length + E.length := by
 have h1 := h.of (fun k => k ∈ R ++ E.map Prod.snd) (fun r hr => List.mem_append_left _ hr) (fun x hx => List.mem_append_right _ (List.mem_map.2 ⟨x, hx, rfl⟩))
 have h2 := List.Nodup.length_le_of_subset hn (fun k hk => h1 k (hl k hk))
 rw [List.length_append, List.length_map] at h2
 exact h2
def IdsPost (P : List Id → Prop) (w : World) (e : Ending) (w' : World) : Prop := Below w.heap.size w w' ∧ ∃ (ao : Option Addr) (m c : Nat) (ks : List Id), e = .returned (.slice ao m c) ∧ m = ks.length ∧ RowD w' ao ks ∧ ks.Nodup ∧ Ord ks ∧ P ks
def Reached (roots gone : List Id) (E : List Link) (ks : List Id) : Prop := Grow roots gone E (fun k => k ∈ ks) ∧ Shut1 E gone (fun k => k ∈ ks)
structure Coll (S : Id → Bool) (left : Id → Prop) (ks : List Id) : Prop where
 nodup : ks.Nodup
 all : ∀ k, S k = true ↔ k ∈ ks ∨ left k
 apart : ∀ k ∈ ks, ¬ left k
theorem Coll.start {S : Id → Bool} {left : Id → Prop} (h : ∀ k, left k ↔ S k = true) : Coll S left [] := ⟨List.nodup_nil, fun k => by rw [← h]; simp, fun k hk => by cases hk⟩
theorem Coll.step {S : Id → Bool} {left : Id → Prop} {ks : List Id} (h : Coll S left ks) {k : Id} (hk : left k) : Coll S (fun j => left j ∧ j ≠ k) (ks ++ [k]) := by
 refine ⟨?_, fun j => ?_, fun j hj => ?_⟩
 ·refine List.nodup_append.2 ⟨h.nodup, by simp, fun a ha b hb => ?_⟩
  rw [List.mem_singleton.1 hb]
  intro e
  exact h.apart a ha (e ▸ hk)
 ·rw [h.all j, List.mem_append, List.mem_singleton]
  by_cases hjk : j = k
  ·simp [hjk, hk]
  ·simp [hjk]
 ·rcases List.mem_append.1 hj with hj | hj
  ·exact fun hl => h.apart j hj hl.1
  ·exact fun hl => hl.2 (List.mem_singleton.1 hj)
theorem Coll.len {S : Id → Bool} {left : Id → Prop} {ks : List Id} (h : Coll S left ks) {R W : List Id} {E : List Link} (hg : Grow R W E (fun k => S k = true)) : ks.length ≤ R.length + E.length := hg.few h.nodup (fun k hk => (h.all k).2 (Or.inl hk))
theorem push_facts2 {w3 w5 : World} {ao ao5 : Option Addr} {k c n5 c5 B g : Nat} (hg5 : w3.grownBy w5 (Value.slice ao k c).ownBlock) (hl5 : (Value.slice ao5 n5 c5).ownBlock = (Value.slice ao k c).ownBlock ∨ (Value.slice ao5 n5 c5).ownBlock = some w3.heap.size)
  (hao : ∀ b, ao = some b → B ≤ b.block ∧ b.block ≠ g) (hg : g < w3.heap.size) (hB : B ≤ w3.heap.size) :
  (∀ j, j < w3.heap.size → (∀ b, ao = some b → b.block ≠ j) → w5.heap[j]? = w3.heap[j]?) ∧ (∀ b, ao5 = some b → B ≤ b.block ∧ b.block ≠ g) ∧ w3.heap.size ≤ w5.heap.size ∧ Below B w3 w5 := by
 have hsz := hg5.size
 have h1 : ∀ j, j < w3.heap.size → (∀ b, ao = some b → b.block ≠ j) → w5.heap[j]? = w3.heap[j]? := fun j hj hne => by
  rw [hg5.block j hj (fun e => ?_)]
  cases ao with
  | none => cases e
  | some b => exact hne b rfl (by injection e with e; exact e.symm)
 refine ⟨h1, fun b e => ?_, hsz, ⟨hg5.os, hg5.tape, hg5.output, hsz, fun j hj => h1 j (by omega) (fun b e g => by have := (hao b e).1; omega)⟩⟩
 subst e
 rcases hl5 with h | h
 ·cases ao with
  | none => cases h
  | some b' =>
   have e : b.block = b'.block := by injection h
   rw [e]; exact hao b' rfl
 ·have e : b.block = w3.heap.size := by injection h
  omega
set_option maxHeartbeats 8000000 in
theorem ReachOf_any (ro lo go : Option Addr) (rcap lcap gcap m n gn : Nat) (roots gone : List Id) (es : List Env) (w : World) (hm : m = roots.length) (hn : n = es.length) (hg : gn = gone.length) (h1 : n ≤ 200) (h2 : m ≤ 200) (hgn : gn ≤ 9223372036854775807) (hroots : RowD w ro roots) (hgone : RowD w go gone) (hrow : RowE w lo es) (hok : ∀ x ∈ es, x.Ok) (hro : ∀ s ∈ roots, IdOk s) :
  Calls Tryz.prog 16 #[.slice ro m rcap, .slice lo n lcap, .slice go gn gcap] w (IdsPost (Reached roots gone (es.map lnk)) w) := by
 have HOK : Hid (∀ S : Id → Prop, Grow roots gone (es.map lnk) S → ∀ k, S k → IdOk k) := hid (fun S h => h.of IdOk hro (fun x hx => by obtain ⟨y, hy, rfl⟩ := List.mem_map.1 hx; exact ⟨(hok y hy).ol, (hok y hy).oo⟩))
 have HFW : Hid (roots.length + (es.map lnk).length ≤ 400) := hid (by rw [List.length_map]; omega)
 clear hro
 obtain ⟨B, HB⟩ : ∃ B, Hid (B = w.heap.size) := ⟨_, rfl⟩
 have hsz : w.heap.size = B := HB.out.symm
 have HN := hid hn
 have HM := hid hm
 have hzE := hid zeroEnv
 obtain ⟨ZE, HZE⟩ : ∃ Z, Hid (Z = env0.cs) := ⟨_, rfl⟩
 rw [← HZE.out] at hzE
 have hZEl : ZE.length = 130 := by rw [HZE.out]; exact env0_ok.csl
 obtain ⟨ZI, HZI⟩ : ∃ Z, Hid (Z = (List.replicate 16 (0 : Int)).map (Value.int .u8)) := ⟨_, rfl⟩
 have hzI := hid zeroID
 rw [← HZI.out] at hzI
 have hZIl : ZI.length = 16 := by rw [HZI.out]; simp
 have hcon := fun (y : World) (s : Id) (hs : s.length = 16) (hb : Below B w y) (r : Bool) (Hr : Hid (r = decide (s ∈ gone))) => hid (Contains_id go gcap gn gone s y hg (hgone.below (hsz ▸ hb)) hs hgn r Hr)
 clear hn hm hg
 have HII := hid infoId
 have HI2 := hid infoId2
 rw [← HZI.out] at HII HI2
 have HZC : Hid ((Value.agg ZI.toArray).cells.size = 16) := hid (by show ZI.toArray.size = 16; simpa using hZIl)
 go_enter Tryz.func16, Tryz.ntmps16
 go_wp2_with (refine wl_makeMap rfl 60 rfl B hsz ?_; intro w0 hM0 hb0 hs0)
 go_loopw [17] (fun i wr => ∃ (j : Nat) (S : Id → Bool), j ≤ m ∧ i = .int .i64 j ∧ MapD wr B (bmap S) ∧ Below B w wr ∧ Hid (∀ k, S k = true ↔ k ∈ roots.take j ∧ k ∉ gone)) (fun i _ => m - (intOf i).toNat)
 case atStart => exact ⟨0, fun _ => false, by omega, rfl, (MapD.new hM0).iff (fun k => by simp [bmap]), hb0, hid (fun k => by simp)⟩
 case round =>
  clear hM0 hb0 hs0
  obtain ⟨j, S, hj, rfl, hMp, hb, HS⟩ := hrel
  by_cases hjm : j < m
  ·have hjI : (j : Int) < (m : Int) := by omega
   have hjr : j < roots.length := by have := HM.out; omega
   have hMpl := hMp.lt
   have hszr0 : B ≤ wr.heap.size := by omega
   obtain ⟨b, off, rfl, hbw, hat, hr16⟩ := (hroots.below (by rw [← HB.out]; exact hb)).at (k := j) hjr
   obtain ⟨s, Hs⟩ : ∃ s, Hid (s = roots.getD j []) := ⟨_, rfl⟩
   rw [← Hs.out] at hat hr16
   have HTK : Hid (roots.take (j + 1) = roots.take j ++ [s]) := hid (by rw [List.take_succ_eq_append_getElem hjr, Hs.out, getD_lt' roots [] hjr])
   obtain ⟨RS, HRS⟩ : ∃ T, Hid (T = s.map (Value.int .u8)) := ⟨_, rfl⟩
   have hRl : RS.length = 16 := by rw [HRS.out, List.length_map, hr16]
   have hR1 : ∀ u ∈ RS, u.oneCell' = true := by rw [HRS.out]; exact ints_one _ _
   have HID : Hid (Value.agg RS.toArray = idV s) := hid (by rw [HRS.out]; rfl)
   rw [← HRS.out] at hat
   obtain ⟨r, Hr⟩ : ∃ r, Hid (r = decide (s ∈ gone)) := ⟨_, rfl⟩
   have hcs := fun (y : World) (hb : Below B w y) => hcon y s hr16 hb r Hr
   rw [← HID.out] at hcs
   clear hjr hroots
   cases r with
   | true =>
    have HG : Hid (s ∈ gone) := hid (by have := Hr.out; simpa using this.symm)
    go_wp2_with (first | (go_at_call 17; refine (hcs w3 bt3).out.mono ?_; rintro e w5 ⟨rfl, hb5⟩; have hM5 := hM3.below hb5 hM3.lt; have hX5 := hX3.below hb5 hX3.lt; have bb5 : Below B w w5 := bt3.trans (hb5.mono (by have := bt3.size; have := hM3.lt; omega)); clear hb5) | (refine wl_load rfl 27 _ rfl ⟨M, 0, none⟩ rfl RS (by rw [hRl]; exact aggID) hX3.at0 ?_) | (refine wl_storeV rfl 27 _ _ rfl 27 M rfl RS rfl 16 aggID hRl ZI hG2 hZIl hR1 ?_; intro w3 hX3 hb3 hs3; have bb3 : Below wr.heap.size wr w3 := bb2.trans (hb3.mono (by rw [HMM.out]; exact Nat.le_refl _)); have hM3 := hMp.below bb3 hMpl; have bt3 : Below B w w3 := hb.trans (bb3.mono hszr0); clear hb3 hG2 bb2 hs3) | (refine wl_allocV rfl 27 rfl ZI hzI.out wr.heap.size rfl ?_; intro w2 hG2 bb2 hs2; obtain ⟨M, HMM⟩ : ∃ g, Hid (g = wr.heap.size) := ⟨_, rfl⟩; rw [← HMM.out] at hG2; rw [← HMM.out]; clear hs2) | (refine wl_load rfl 27 _ rfl ⟨b, off + j * 16, none⟩ rfl RS (by rw [hRl]; exact aggID) hat ?_))
    go_roundw
    case rel => exact ⟨j + 1, S, by omega, by go_num, hM5, bb5, hid (fun k => by rw [HS.out, HTK.out]; exact roots_skip HG.out k)⟩
    case measure => simp [intOf] <;> omega
   | false =>
    have HG : Hid (s ∉ gone) := hid (by have := Hr.out; simpa using this.symm)
    go_wp2_with (first | (refine wl_updD rfl 60 4 _ _ _ rfl Tryz.underlying60 B _ hM5 s hr16 rfl HID.out (.bool true) rfl ?_; intro w6 hM6 hb6 hs6 hg6; have bb6 : Below B w w6 := bb5.grown hg6 (by have := hM5.lt; omega) (fun k hk => by injection hk with hk; omega); clear hM5 hb6 hg6 hs6) | (refine wl_load rfl 27 _ rfl ⟨M, 0, none⟩ rfl RS (by rw [hRl]; exact aggID) hX5.at0 ?_) | (go_at_call 17; refine (hcs w3 bt3).out.mono ?_; rintro e w5 ⟨rfl, hb5⟩; have hM5 := hM3.below hb5 hM3.lt; have hX5 := hX3.below hb5 hX3.lt; have bb5 : Below B w w5 := bt3.trans (hb5.mono (by have := bt3.size; have := hM3.lt; omega)); clear hb5) | (refine wl_load rfl 27 _ rfl ⟨M, 0, none⟩ rfl RS (by rw [hRl]; exact aggID) hX3.at0 ?_) | (refine wl_storeV rfl 27 _ _ rfl 27 M rfl RS rfl 16 aggID hRl ZI hG2 hZIl hR1 ?_; intro w3 hX3 hb3 hs3; have bb3 : Below wr.heap.size wr w3 := bb2.trans (hb3.mono (by rw [HMM.out]; exact Nat.le_refl _)); have hM3 := hMp.below bb3 hMpl; have bt3 : Below B w w3 := hb.trans (bb3.mono hszr0); clear hb3 hG2 bb2 hs3) | (refine wl_allocV rfl 27 rfl ZI hzI.out wr.heap.size rfl ?_; intro w2 hG2 bb2 hs2; obtain ⟨M, HMM⟩ : ∃ g, Hid (g = wr.heap.size) := ⟨_, rfl⟩; rw [← HMM.out] at hG2; rw [← HMM.out]; clear hs2) | (refine wl_load rfl 27 _ rfl ⟨b, off + j * 16, none⟩ rfl RS (by rw [hRl]; exact aggID) hat ?_))
    go_roundw
    case rel => exact ⟨j + 1, _, by omega, by go_num, hM6.iff (fun k => bmap_ins S s k), bb6, hid (fun k => by rw [ins_iff, HS.out, HTK.out]; exact roots_add HG.out k)⟩
    case measure => simp [intOf] <;> omega
  ·obtain rfl : j = m := by omega
   have hfull : roots.take j = roots := List.take_of_length_le (by rw [← HM.out]; exact Nat.le_refl _)
   have HS2 : Hid (∀ k, S k = true ↔ k ∈ roots ∧ k ∉ gone) := hid (fun k => by have := HS.out k; rwa [hfull] at this)
   have HGR := hid (grow_start (E := es.map lnk) HS2.out)
   clear hjm hfull HS HS2
   go_wp2
   go_loopw [30] (fun i wr => ∃ (p : Nat) (S : Id → Bool), p ≤ n ∧ i = .int .i64 p ∧ MapD wr B (bmap S) ∧ Below B w wr ∧ Hid (Grow roots gone (es.map lnk) (fun k => S k = true)) ∧ Hid (Passed (es.map lnk) gone p S)) (fun i _ => n - (intOf i).toNat)
   case atStart => exact ⟨0, S, by omega, rfl, hMp, hb, HGR, hid (Or.inr (Nat.zero_le _))⟩
   case round =>
    clear hMp hb HGR
    obtain ⟨p, S, hp, rfl, hMp, hb, HGR, HPA⟩ := hrel
    by_cases hpn : p < n
    ·have hpI : (p : Int) < (n : Int) := by omega
     have HIP := hid (InPass.start (es.map lnk) gone p S)
     go_wp2
     go_loopw [34] (fun i wi => ∃ (j : Nat) (S' : Id → Bool), j ≤ n ∧ i = .int .i64 j ∧ MapD wi B (bmap S') ∧ Below B w wi ∧ Hid (Grow roots gone (es.map lnk) (fun k => S' k = true)) ∧ Hid (InPass (es.map lnk) gone p j S S')) (fun i _ => n - (intOf i).toNat)
     case atStart => exact ⟨0, S, by omega, rfl, hMp, hb, HGR, HIP⟩
     case round =>
      clear hMp hb HGR HIP
      rename World => wi
      obtain ⟨j, S', hj, rfl, hMi, hbi, HGI, HIP⟩ := hrel
      by_cases hjn : j < n
      ·have hjI : (j : Int) < (n : Int) := by omega
       have hje : j < es.length := by have := HN.out; omega
       have hMil := hMi.lt
       have hszi0 : B ≤ wi.heap.size := by omega
       obtain ⟨b, off, rfl, hbw, hat, hC130⟩ := (hrow.below (by rw [← HB.out]; exact hbi)).at (k := j) hje
       obtain ⟨x, Hx⟩ : ∃ x, Hid (x = es.getD j env0) := ⟨_, rfl⟩
       have hx : x.Ok := by rw [Hx.out]; exact hok _ (by rw [getD_lt' es _ hje]; exact List.getElem_mem hje)
       rw [← Hx.out] at hat hC130
       have HEJ : Hid ((es.map lnk)[j]'(by rw [List.length_map]; exact hje) = (x.b, x.o)) := hid (by rw [List.getElem_map, Hx.out, getD_lt' es _ hje]; rfl)
       obtain ⟨CS, HCS⟩ : ∃ C, Hid (C = x.cs) := ⟨_, rfl⟩
       have hCl : CS.length = 130 := by rw [HCS.out]; exact hC130
       have hC1 : ∀ u ∈ CS, u.oneCell' = true := by rw [HCS.out]; exact x.cs_one
       rw [← HCS.out] at hat
       obtain ⟨XB, HXB⟩ : ∃ V, Hid (V = x.b.map (Value.int .u8)) := ⟨_, rfl⟩
       have hXBl : XB.length = 16 := by rw [HXB.out, List.length_map, hx.bl]
       obtain ⟨XO, HXO⟩ : ∃ V, Hid (V = x.o.map (Value.int .u8)) := ⟨_, rfl⟩
       have hXOl : XO.length = 16 := by rw [HXO.out, List.length_map, hx.ol]
       have fB : Hid (∀ w G, BlkV 57 w G CS → At w ⟨G, 2, none⟩ XB) := hid (fun w G h => by rw [HXB.out]; rw [HCS.out] at h; exact env_b h)
       have fO : Hid (∀ w G, BlkV 57 w G CS → At w ⟨G, 18, none⟩ XO) := hid (fun w G h => by rw [HXO.out]; rw [HCS.out] at h; exact env_o hx h)
       have HIDB : Hid (Value.agg XB.toArray = idV x.b) := hid (by rw [HXB.out]; rfl)
       have HIDO : Hid (Value.agg XO.toArray = idV x.o) := hid (by rw [HXO.out]; rfl)
       have hxbl := hx.bl
       have hxol := hx.ol
       have HEI : Hid ((es.map lnk)[j]? = some (x.b, x.o)) := hid (by rw [List.getElem?_eq_getElem (by rw [List.length_map]; exact hje), HEJ.out])
       obtain ⟨r, Hr⟩ : ∃ r, Hid (r = decide (x.o ∈ gone)) := ⟨_, rfl⟩
       have hcs := fun (y : World) (hb : Below B w y) => hcon y x.o hxol hb r Hr
       rw [← HIDO.out] at hcs
       clear hx hC130 HEJ hje hrow
       have HV := hid (look_b S' x.b)
       have HV := HV.out
       cases hsb : S' x.b with
       | false =>
        rw [hsb] at HV
        have HV := hid HV
        have HIP2 := hid (HIP.out.skip HEI.out (Or.inl hsb))
        clear hsb HIP
        go_wp2_with (first | (refine wl_lookD (by kernel_rfl) 60 4 _ _ false rfl Tryz.underlying60 (.bool false) (zeroBool _) B _ hM3 x.b hxbl rfl HIDB.out _ HV.out ?_) | (refine wl_load rfl 27 _ rfl ⟨M, 2, none⟩ rfl XB (by rw [hXBl]; exact aggID) (fB.out _ _ hX3) ?_) | (refine wl_storeV rfl 57 _ _ rfl 57 M rfl CS rfl 130 aggEnv hCl ZE hG2 hZEl hC1 ?_; intro w3 hX3 hb3 hs3; have bb3 : Below wi.heap.size wi w3 := bb2.trans (hb3.mono (by rw [HMM.out]; exact Nat.le_refl _)); have hM3 := hMi.below bb3 hMil; have bt3 : Below B w w3 := hbi.trans (bb3.mono hszi0); clear hb3 hG2 bb2 hs3) | (refine wl_allocV rfl 57 rfl ZE hzE.out wi.heap.size rfl ?_; intro w2 hG2 bb2 hs2; obtain ⟨M, HMM⟩ : ∃ g, Hid (g = wi.heap.size) := ⟨_, rfl⟩; rw [← HMM.out] at hG2; rw [← HMM.out]; clear hs2) | (refine wl_load rfl 57 _ rfl ⟨b, off + j * 130, none⟩ rfl CS (by rw [hCl]; exact aggEnv) hat ?_))
        go_roundw
        case rel => exact ⟨j + 1, S', by omega, by go_num, hM3, bt3, HGI, HIP2⟩
        case measure => simp [intOf] <;> omega
       | true =>
        rw [hsb] at HV
        have HV := hid HV
        cases r with
        | true =>
         have HIP2 := hid (HIP.out.skip HEI.out (Or.inr (Or.inl (by have := Hr.out; simpa using this.symm))))
         clear hsb HIP
         go_wp2_with (first | (go_at_call 17; refine (hcs w3 bt3).out.mono ?_; rintro e w5 ⟨rfl, hb5⟩; have hM5 := hM3.below hb5 hM3.lt; have hX5 := hX3.below hb5 hX3.lt; have bb5 : Below B w w5 := bt3.trans (hb5.mono (by have := bt3.size; have := hM3.lt; omega)); clear hb5) | (refine wl_lookD (by kernel_rfl) 60 4 _ _ false rfl Tryz.underlying60 (.bool false) (zeroBool _) B _ hM3 x.b hxbl rfl HIDB.out _ HV.out ?_) | (refine wl_loadD 45 rfl (by kernel_rfl) 27 _ rfl ⟨M, 18, none⟩ rfl 16 XO hXOl aggID (fO.out _ _ hX3) ?_) | (refine wl_load rfl 27 _ rfl ⟨M, 2, none⟩ rfl XB (by rw [hXBl]; exact aggID) (fB.out _ _ hX3) ?_) | (refine wl_storeV rfl 57 _ _ rfl 57 M rfl CS rfl 130 aggEnv hCl ZE hG2 hZEl hC1 ?_; intro w3 hX3 hb3 hs3; have bb3 : Below wi.heap.size wi w3 := bb2.trans (hb3.mono (by rw [HMM.out]; exact Nat.le_refl _)); have hM3 := hMi.below bb3 hMil; have bt3 : Below B w w3 := hbi.trans (bb3.mono hszi0); clear hb3 hG2 bb2 hs3) | (refine wl_allocV rfl 57 rfl ZE hzE.out wi.heap.size rfl ?_; intro w2 hG2 bb2 hs2; obtain ⟨M, HMM⟩ : ∃ g, Hid (g = wi.heap.size) := ⟨_, rfl⟩; rw [← HMM.out] at hG2; rw [← HMM.out]; clear hs2) | (refine wl_load rfl 57 _ rfl ⟨b, off + j * 130, none⟩ rfl CS (by rw [hCl]; exact aggEnv) hat ?_))
         go_roundw
         case rel => exact ⟨j + 1, S', by omega, by go_num, hM5, bb5, HGI, HIP2⟩
         case measure => simp [intOf] <;> omega
        | false =>
         have HG : Hid (x.o ∉ gone) := hid (by have := Hr.out; simpa using this.symm)
         have HGA : Hid (Grow roots gone (es.map lnk) (fun k => ins S' x.o k = true)) := hid ((HGI.out.add (List.mem_of_getElem? HEI.out) hsb HG.out).iff (fun k => by rw [ins_iff]))
         have HIP2 := hid (HIP.out.add HPA.out HEI.out hsb HG.out (fun k => ins_iff S' x.o k))
         clear hsb HIP
         go_wp2_with (first | (refine wl_updD rfl 60 4 _ _ _ rfl Tryz.underlying60 B _ hM5 x.o hxol rfl HIDO.out (.bool true) rfl ?_; intro w6 hM6 hb6 hs6 hg6; have bb6 : Below B w w6 := bb5.grown hg6 (by have := hM5.lt; omega) (fun k hk => by injection hk with hk; omega); clear hM5 hb6 hg6 hs6) | (refine wl_load rfl 27 _ rfl ⟨M, 18, none⟩ rfl XO (by rw [hXOl]; exact aggID) (fO.out _ _ hX5) ?_) | (go_at_call 17; refine (hcs w3 bt3).out.mono ?_; rintro e w5 ⟨rfl, hb5⟩; have hM5 := hM3.below hb5 hM3.lt; have hX5 := hX3.below hb5 hX3.lt; have bb5 : Below B w w5 := bt3.trans (hb5.mono (by have := bt3.size; have := hM3.lt; omega)); clear hb5) | (refine wl_lookD (by kernel_rfl) 60 4 _ _ false rfl Tryz.underlying60 (.bool false) (zeroBool _) B _ hM3 x.b hxbl rfl HIDB.out _ HV.out ?_) | (refine wl_loadD 45 rfl (by kernel_rfl) 27 _ rfl ⟨M, 18, none⟩ rfl 16 XO hXOl aggID (fO.out _ _ hX3) ?_) | (refine wl_load rfl 27 _ rfl ⟨M, 2, none⟩ rfl XB (by rw [hXBl]; exact aggID) (fB.out _ _ hX3) ?_) | (refine wl_storeV rfl 57 _ _ rfl 57 M rfl CS rfl 130 aggEnv hCl ZE hG2 hZEl hC1 ?_; intro w3 hX3 hb3 hs3; have bb3 : Below wi.heap.size wi w3 := bb2.trans (hb3.mono (by rw [HMM.out]; exact Nat.le_refl _)); have hM3 := hMi.below bb3 hMil; have bt3 : Below B w w3 := hbi.trans (bb3.mono hszi0); clear hb3 hG2 bb2 hs3) | (refine wl_allocV rfl 57 rfl ZE hzE.out wi.heap.size rfl ?_; intro w2 hG2 bb2 hs2; obtain ⟨M, HMM⟩ : ∃ g, Hid (g = wi.heap.size) := ⟨_, rfl⟩; rw [← HMM.out] at hG2; rw [← HMM.out]; clear hs2) | (refine wl_load rfl 57 _ rfl ⟨b, off + j * 130, none⟩ rfl CS (by rw [hCl]; exact aggEnv) hat ?_))
         go_roundw
         case rel => exact ⟨j + 1, _, by omega, by go_num, hM6.iff (fun k => bmap_ins S' x.o k), bb6, HGA, HIP2⟩
         case measure => simp [intOf] <;> omega
      ·obtain rfl : j = n := by omega
       have HP2 : Hid (Passed (es.map lnk) gone (p + 1) S') := hid (by
        have h := HIP.out
        rw [show j = (es.map lnk).length by rw [List.length_map, ← HN.out]] at h
        exact h.finish HPA.out)
       clear HIP hjn
       go_wp2
       go_roundw
       case rel => exact ⟨p + 1, S', by omega, by go_num, hMi, hbi, HGI, HP2⟩
       case measure => simp [intOf] <;> omega
    ·obtain rfl : p = n := by omega
     have HSHT : Hid (Shut1 (es.map lnk) gone (fun k => S k = true)) := hid (by
      have h := HPA.out
      rw [show p = (es.map lnk).length by rw [List.length_map, ← HN.out]] at h
      exact h.end)
     clear HPA hpn
     go_wp2_with (first | (at_range; refine wl_rangeD rfl 60 4 _ rfl Tryz.underlying60 B _ hMp rfl wr.heap.size rfl ?_; intro w7 cnt7 hI7 hb7 hs7; obtain ⟨rr, HRR⟩ : ∃ g, Hid (g = wr.heap.size) := ⟨_, rfl⟩; rw [← HRR.out] at hI7 hs7; rw [← HRR.out]; have bb7 : Below B w w7 := hb.trans (hb7.mono (by have := hMp.lt; omega)); have hBr : B < rr := (by rw [HRR.out]; exact hMp.lt); clear hb7) | fail)
     go_frame
     go_loopw [12] (fun o wq => ∃ (left : Id → Prop) (cnt : Nat) (ks : List Id) (ao : Option Addr) (c : Nat), o = .slice ao ks.length c ∧ wq.ownsRow B 27 16 (.slice ao ks.length c) ks.length (flatL ks) ∧ IterD wq B rr (bmap S) left cnt ∧ Hid (Coll S left ks) ∧ (∀ b, ao = some b → B + 1 ≤ b.block ∧ b.block ≠ rr) ∧ Below B w wq) (fun _ wq => wq.rangeLeft B rr)
     case atStart => exact ⟨_, _, [], none, 0, rfl, World.ownsRow_nil _ _ _ _, hI7, hid (Coll.start (fun k => bmap_some S k)), (fun b e => by cases e), bb7⟩
     case round =>
      clear hI7 bb7 hs7 hMp hb
      rename World => wq
      obtain ⟨left, cnt, ks, oa, oc, rfl, hown, hIt, HC, hao, hbq⟩ := hrel
      have hkl : ks.length ≤ 400 := by have := HC.out.len HGR.out; have := HFW.out; omega
      go_wp2_with (first | (at_next; refine wl_nextD rfl _ rfl B rr (bmap S) left cnt rfl hIt ?_ ?_) | fail)
      ·intro hc0 hl0
       have HKS : Hid (∀ k, S k = true ↔ k ∈ ks) := hid (fun k => by rw [HC.out.all k]; exact ⟨fun h => h.elim id (fun h => absurd h (hl0 k)), Or.inl⟩)
       have HOKS : Hid (∀ s ∈ ks, IdOk s) := hid (fun s hs => HOK.out _ HGR.out s ((HKS.out s).2 hs))
       have HND := hid HC.out.nodup
       have hsr := hid (SortReach oa ks.length oc ks HOKS.out wq B hown rfl (by omega))
       have hBq := hIt.map.lt
       have HOB : Hid (∀ k, (Value.slice oa ks.length oc).ownBlock = some k → B ≤ k) := hid (fun k hk => (hown.lt k hk).1)
       clear hIt HC hown
       go_wp2_with (go_at_call 35; refine hsr.out.mono ?_; rintro e w9 ⟨rfl, l', hper, hord, hRV, hg9⟩)
       go_ret
       exact ⟨by rw [hsz]; exact hbq.grown hg9 (by omega) HOB.out, oa, ks.length, oc, l', rfl, hper.length_eq.symm, ⟨rowH_flat (fun s hs => HOKS.out s (hper.mem_iff.1 hs)) hRV, fun s hs => (HOKS.out s (hper.mem_iff.1 hs)).1⟩, hper.nodup_iff.2 HND.out, hord, HGR.out.iff (fun k => by rw [HKS.out, hper.mem_iff]), HSHT.out.iff (fun k => by rw [HKS.out, hper.mem_iff])⟩
      ·intro k v w8 cnt8 hk hkv hI8 hlt hg8 hs8 hen
       obtain ⟨KS, HKS⟩ : ∃ KS, Hid (KS = k.map (Value.int .u8)) := ⟨_, rfl⟩
       have HIDK : Hid (idV k = .agg KS.toArray) := hid (by rw [HKS.out]; rfl)
       have hk16 : k.length = 16 := hIt.map.len hkv
       have hKl : KS.length = 16 := by rw [HKS.out, List.length_map, hk16]
       have hK1 : ∀ u ∈ KS, u.oneCell' = true := by rw [HKS.out]; exact ints_one _ _
       rw [HIDK.out] at hen ⊢
       have hO8 := hown.kept hg8 (by
        cases oa with
        | none => exact Or.inl rfl
        | some b => exact Or.inr (fun e => (hao b rfl).2 (by injection e)))
       have bb8 : Below B w w8 := hbq.grown hg8 (by have := hIt.map.lt; omega) (fun k hk => by injection hk with hk; omega)
       have HC8 := hid (HC.out.step hk)
       have HFS := hid (flatL_snoc ks k)
       have hB8 := hI8.map.lt
       have hr8 := hI8.lt
       clear hown hg8 hbq hs8 HC hk
       go_wp2_with (first | (at_builtin; refine wl_push rfl _ _ 28 rfl 27 (.agg ZI.toArray) 16 16 Tryz.underlying28 HII.out HZC.out (by decide) B (.slice oa ks.length oc) ks.length (flatL ks) rfl hO11 ⟨w10.heap.size, 0, none⟩ 1 1 rfl KS (by rw [hKl]) hS11.at0 hK1 (by unfold maxLen; omega) (by omega) (by rw [hs11]; omega) (ks.length + 1) rfl ?_; intro ao12 cap12 w12 hcap12 hO12 hg12 hl12; obtain ⟨hk12, hao12, hsz12, bq12⟩ := push_facts2 hg12 hl12 hao (by rw [hs11]; exact Nat.lt_succ_of_lt hI10.lt) (by rw [hs11]; omega); rw [HKS.out, ← HFS.out] at hO12; have hI12 := hI11.keep (hk12 B hI11.map.lt (fun b hb => by have := (hao b hb).1; omega)) (hk12 rr hI11.lt (fun b hb => (hao b hb).2)); have bb12 : Below B w w12 := bb11.trans (bq12.mono (by omega)); clear hg12 hl12 hk12 hO11) | (refine wl_slice1 rfl 28 27 _ rfl Tryz.underlying28 16 ZI HI2.out hZIl (by decide) (by decide) KS rfl hKl w10.heap.size rfl ?_; intro w11 hS11 hb11 hs11; have hO11 := owns_up hO10 hb11; have hI11 := hI10.below hb11 hI10.map.lt hI10.lt; have bb11 : Below B w w11 := bb10.trans (hb11.mono (by omega)); clear hb11 hO10) | (refine wl_load rfl 27 _ rfl ⟨K, 0, none⟩ rfl KS (by rw [hKl]; exact aggID) hK10.at0 ?_) | (refine wl_storeV rfl 27 _ _ rfl 27 K rfl KS rfl 16 aggID hKl ZI hG9 hZIl hK1 ?_; intro w10 hK10 hb10 hs10; have b810 : Below w8.heap.size w8 w10 := bb9.trans (hb10.mono (by rw [HKK.out]; exact Nat.le_refl _)); have hI10 := hI8.below b810 hB8 hr8; have hO10 := owns_up hO8 b810; have bb10 : Below B w w10 := bb8.trans (b810.mono (by omega)); have hsz10 : B ≤ w10.heap.size := Nat.le_trans (by omega) b810.size; clear hb10 hG9 bb9 hs9 hs10) | (refine wl_allocV rfl 27 rfl ZI hzI.out w8.heap.size rfl ?_; intro w9 hG9 bb9 hs9; obtain ⟨K, HKK⟩ : ∃ g, Hid (g = w8.heap.size) := ⟨_, rfl⟩; rw [← HKK.out] at hG9; rw [← HKK.out]))
       (try simp only [Act.put])
       go_roundw
       case rel => exact ⟨_, cnt8, ks ++ [k], ao12, cap12, by rw [List.length_append]; rfl, by rw [List.length_append]; exact hO12, hI12, HC8, hao12, bb12⟩
       case measure => rw [hI12.left_eq, hIt.left_eq]; exact hlt
end Go.Proofs.YtbjmadcbhkeenaaGreat.lk
