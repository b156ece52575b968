/-
  Shares held against each other. Conditions: the type's form.
-/
import Derived.Test.YtbljihhelladbaaShG
import Derived.Test.YtbljihhelladbaaEqA
namespace Go.Proofs.Ytbljihhelladbaa.shr
open Go.RowKit
set_option linter.unusedSimpArgs false
set_option linter.unusedVariables false

def eqS (s t : Sh) : Bool := s.h == t.h && (s.x == t.x && s.y == t.y)
theorem eqS_iff (s t : Sh) : eqS s t = true ↔ s = t := by
  unfold eqS
  cases s; cases t
  simp
theorem eqS_refl (s : Sh) : eqS s s = true := (eqS_iff s s).2 rfl

theorem part_h (w : World) (s : Sh) (hs : s.Ok) : (part 57 s.cs.toArray 0).run Try.prog w = .ok (.agg (s.h.map (Value.int .u8)).toArray) w := by
  obtain ⟨i, hi, hsz⟩ := Option.map_eq_some_iff.1 aggID.2
  simp [part, isAgg, run_underlying Try.underlying57, sizeOf, typeInfo, hi, hsz, Result.andThen]
  exact cs_h s hs
theorem part_x (w : World) (s : Sh) (hs : s.Ok) : (part 3 s.cs.toArray 16).run Try.prog w = .ok (.int .i64 s.x) w := by
  simp [part, isAgg, run_underlying Try.underlying3, cs_x s hs]
theorem part_y (w : World) (s : Sh) (hs : s.Ok) : (part 59 s.cs.toArray 17).run Try.prog w = .ok (.agg (s.y.map (Value.int .u16)).toArray) w := by
  obtain ⟨i, hi, hsz⟩ := Option.map_eq_some_iff.1 aggY.2
  simp [part, isAgg, run_underlying Try.underlying59, sizeOf, typeInfo, hi, hsz, Result.andThen]
  exact cs_y s hs

theorem eqFields_cons {P : Program} (w : World) (d : Nat) (xs ys : Array Value) (f : Field) (fs : List Field) (a b : Value) (r : Bool) (hn : f.name ≠ "_") (ha : (part f.type xs f.offset).run P w = .ok a w) (hb : (part f.type ys f.offset).run P w = .ok b w) (hr : (Op.equalIn d f.type a b).run P w = .ok r w) :
    (Op.eqFields d xs ys (f :: fs)).run P w = if r = true then (Op.eqFields d xs ys fs).run P w else .ok false w := by
  rw [Op.eqFields, if_pos hn]
  simp only [Sem.run_bind, ha, hb, Result.andThen_ok, hr]
  cases r <;> simp
theorem run_eq_share (w : World) (s t : Sh) (hs : s.Ok) (ht : t.Ok) : (Op.equalIn 10000 61 (.agg s.cs.toArray) (.agg t.cs.toArray)).run Try.prog w = .ok (eqS s t) w := by
  have hu : Try.prog.underlying 61 = some (.struct (Try.prog.fieldsOf 61)) := by
    unfold Program.fieldsOf; rw [Try.underlying61]
  rw [run_equalIn_agg w 9999 61 _ _ hu (by kernel_rfl)]
  have hh : (Op.equalIn 9999 57 (.agg (s.h.map (Value.int .u8)).toArray) (.agg (t.h.map (Value.int .u8)).toArray)).run Try.prog w = .ok (s.h == t.h) w := run_equalIn_ints (P := Try.prog) w 9997 57 5 16 .u8 Try.underlying57 Try.underlying5 (fun w => by kernel_rfl) s.h t.h hs.hl ht.hl
  have hx : (Op.equalIn 9999 3 (.int .i64 s.x) (.int .i64 t.x)).run Try.prog w = .ok (s.x == t.x) w := run_equalIn_int w 9998 3 .i64 .i64 _ _ Try.underlying3
  have hy : (Op.equalIn 9999 59 (.agg (s.y.map (Value.int .u16)).toArray) (.agg (t.y.map (Value.int .u16)).toArray)).run Try.prog w = .ok (s.y == t.y) w := run_equalIn_ints (P := Try.prog) w 9997 59 58 32 .u16 Try.underlying59 Try.underlying58 (fun w => by kernel_rfl) s.y t.y hs.yl ht.yl
  have hl : ∃ f0 f1 f2 : Field, (Try.prog.fieldsOf 61).toList = [f0, f1, f2] ∧ (f0.name ≠ "_" ∧ f0.type = 57 ∧ f0.offset = 0) ∧ (f1.name ≠ "_" ∧ f1.type = 3 ∧ f1.offset = 16) ∧ (f2.name ≠ "_" ∧ f2.type = 59 ∧ f2.offset = 17) := by
    unfold Program.fieldsOf
    rw [Try.underlying61]
    exact ⟨_, _, _, rfl, ⟨by decide, rfl, rfl⟩, ⟨by decide, rfl, rfl⟩, ⟨by decide, rfl, rfl⟩⟩
  obtain ⟨f0, f1, f2, hl, ⟨n0, t0, o0⟩, ⟨n1, t1, o1⟩, ⟨n2, t2, o2⟩⟩ := hl
  rw [hl]
  rw [eqFields_cons w 9999 _ _ f0 _ _ _ _ n0 (by rw [t0, o0]; exact part_h w s hs) (by rw [t0, o0]; exact part_h w t ht) (by rw [t0]; exact hh)]
  rw [eqFields_cons w 9999 _ _ f1 _ _ _ _ n1 (by rw [t1, o1]; exact part_x w s hs) (by rw [t1, o1]; exact part_x w t ht) (by rw [t1]; exact hx)]
  rw [eqFields_cons w 9999 _ _ f2 _ _ _ _ n2 (by rw [t2, o2]; exact part_y w s hs) (by rw [t2, o2]; exact part_y w t ht) (by rw [t2]; exact hy)]
  unfold eqS
  cases (s.h == t.h) <;> cases (s.x == t.x) <;> cases (s.y == t.y) <;> rfl
end Go.Proofs.Ytbljihhelladbaa.shr
