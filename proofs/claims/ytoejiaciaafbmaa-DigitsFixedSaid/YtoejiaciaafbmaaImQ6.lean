/- The paths through the awake of law02. -/
import Derived.Test.YtoejiaciaafbmaaImQ5
set_option linter.unusedVariables false
namespace Go.IM
open Go Go.Proofs


noncomputable def b13 : Code := (.seq (.region 0 (regOf Try.f13 0) false) (.seq (.region 1 (regOf Try.f13 1) false) (.seq (.region 2 (regOf Try.f13 2) false) .ret)))
theorem body13 : Try.f13.body = some b13 := by kernel_rfl
noncomputable def p13_x (x : Sl) (m1 m2 : M) (u r v2 : Value) (s : ByteArray) : Sl := (upd (upd (upd (upd (upd (upd (upd (upd (upd (upd (upd (upd (upd (upd (upd (upd (upd (upd (upd x 0 (.bool true)) 1 (.int .u64 0)) 2 r) 3 (.int .i64 4)) 4 (.tuple #[(.int .u64 0), r, (.int .i64 4)])) 5 u) 6 (.tuple #[(.int .u64 0), r, (.int .i64 4)])) 7 (.int .u64 0)) 8 r) 9 (.int .i64 4)) 10 v2) 11 (.string s)) 12 (.bool true)) 13 (.bool true)) 14 (.int .i64 4)) 15 (.bool true)) 16 (.bool true)) 17 (.bool true)) 18 (.bool true))
theorem p13 {m : M} (x : Sl) (m1 m2 : M) (u r v2 : Value) (s : ByteArray) (h0 : rPair (ibuildSlice Try.prog 22 2 [(0, .int .u8 128), (1, .int .u8 0)] m) = some (.val u m1)) (h1 : Cal Try.prog 17 #[u] m1 (.ret (.tuple #[(.int .u64 0), r, (.int .i64 4)])) m1) (h2 : Cal Try.prog 16 #[(.slice none 0 0), (.int .u64 300)] m1 (.ret v2) m2) (h3 : rVal (istringOf v2 m2) m2 = some (.val (.string s) m2)) (h4 : ((s : ByteArray).toList == (⟨#[172, 2]⟩ : ByteArray).toList) = true) (h5 : ((4 : Int) == 4) = true) : Ev.To Try.prog b13 (st 19 x) m .ret (st 19 (p13_x x m1 m2 u r v2 s)) m2 :=
  G_sound (gd := [(1, 0, .op u m1), (1, 1, .call (.tuple #[(.int .u64 0), r, (.int .i64 4)]) m1), (2, 0, .call v2 m2), (2, 1, .op (.string s) m2), (2, 2, .norm (.bool true)), (2, 5, .norm (.bool true))]) (gl := []) 60 (o := (True ∧ (((rPair (ibuildSlice Try.prog 22 2 [(0, .int .u8 128), (1, .int .u8 0)] m) = some (.val u m1)) ∧ ((Cal Try.prog 17 #[u] m1 (.ret (.tuple #[(.int .u64 0), r, (.int .i64 4)])) m1) ∧ True)) ∧ (((Cal Try.prog 16 #[(.slice none 0 0), (.int .u64 300)] m1 (.ret v2) m2) ∧ ((rVal (istringOf v2 m2) m2 = some (.val (.string s) m2)) ∧ ((Value.bool ((s : ByteArray).toList == (⟨#[172, 2]⟩ : ByteArray).toList) = .bool true) ∧ ((Value.bool ((4 : Int) == 4) = .bool true) ∧ True)))) ∧ True)))) (by kernel_rfl) ⟨trivial, ⟨⟨h0, ⟨h1, trivial⟩⟩, ⟨⟨h2, ⟨h3, ⟨(vb h4), ⟨(vb h5), trivial⟩⟩⟩⟩, trivial⟩⟩⟩
end Go.IM
