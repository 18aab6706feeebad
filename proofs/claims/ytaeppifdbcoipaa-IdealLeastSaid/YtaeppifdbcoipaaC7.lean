/- The resolved code of functions of this seat, by program (gen.py). -/
import Derived.Test.YtaeppifdbcoipaaProg
import Derived.Test.YtaeppifdbcoipaaES
namespace Go.Proofs.Ytaeppifdbcoipaa
open Go E
set_option maxRecDepth 1000000
/-! rivulet/rivuletref17.Check -/
def c21 : ACode := (.seq (.reg [⟨some 1, .boxF (.t 0), none⟩, ⟨some 2, .mv (.c (.int .i64 0)), none⟩]) (.seq (.seq (.reg [⟨some 3, .fieldAddr 0 (.t 1), none⟩, ⟨some 4, .load false 1 (.t 3), none⟩, ⟨some 5, .bin .neq (.t 4) (.c (.int .i64 0)), none⟩, ⟨some 6, .mv (.t 5), none⟩, ⟨some 7, .fieldAddr 0 (.t 1), some (6, true)⟩, ⟨some 8, .load false 1 (.t 7), some (6, true)⟩, ⟨some 9, .bin .neq (.t 8) (.c (.int .i64 1)), some (6, true)⟩, ⟨some 10, .pick (.t 6) (.t 9) (.c (.bool false)), none⟩]) (.cond (.t 10) (.seq (.reg [⟨some 2, .mv (.c (.int .i64 6)), none⟩]) .ret) .skip)) (.seq (.seq (.reg [⟨some 11, .fieldAddr 0 (.t 1), none⟩, ⟨some 12, .load false 1 (.t 11), none⟩, ⟨some 13, .bin .eql (.t 12) (.c (.int .i64 0)), none⟩, ⟨some 14, .mv (.t 13), none⟩, ⟨some 15, .fieldAddr 3 (.t 1), some (14, true)⟩, ⟨some 16, .load true 2 (.t 15), some (14, true)⟩, ⟨some 17, .call (.c (.fn 46 [])) [.t 16], some (14, true)⟩, ⟨some 18, .un .not (.t 17), some (14, true)⟩, ⟨some 19, .pick (.t 14) (.t 18) (.c (.bool false)), none⟩, ⟨some 20, .mv (.t 19), none⟩, ⟨some 21, .fieldAddr 0 (.t 1), some (20, false)⟩, ⟨some 22, .load false 1 (.t 21), some (20, false)⟩, ⟨some 23, .bin .eql (.t 22) (.c (.int .i64 1)), some (20, false)⟩, ⟨some 24, .mv (.t 23), some (20, false)⟩, ⟨some 25, .fieldAddr 5 (.t 1), some (24, true)⟩, ⟨some 26, .load true 4 (.t 25), some (24, true)⟩, ⟨some 27, .call (.c (.fn 33 [])) [.t 26], some (24, true)⟩, ⟨some 28, .un .not (.t 27), some (24, true)⟩, ⟨some 29, .pick (.t 24) (.t 28) (.c (.bool false)), some (20, false)⟩, ⟨some 30, .pick (.t 20) (.c (.bool true)) (.t 29), none⟩, ⟨some 31, .mv (.t 30), none⟩, ⟨some 32, .fieldAddr 1 (.t 1), some (31, false)⟩, ⟨some 33, .load false 1 (.t 32), some (31, false)⟩, ⟨some 34, .call (.c (.fn 41 [])) [.t 33], some (31, false)⟩, ⟨some 35, .un .not (.t 34), some (31, false)⟩, ⟨some 36, .pick (.t 31) (.c (.bool true)) (.t 35), none⟩, ⟨some 37, .mv (.t 36), none⟩, ⟨some 38, .fieldAddr 2 (.t 1), some (37, false)⟩, ⟨some 39, .load false 1 (.t 38), some (37, false)⟩, ⟨some 40, .call (.c (.fn 80 [])) [.t 39], some (37, false)⟩, ⟨some 41, .un .not (.t 40), some (37, false)⟩, ⟨some 42, .pick (.t 37) (.c (.bool true)) (.t 41), none⟩]) (.cond (.t 42) (.seq (.reg [⟨some 2, .mv (.c (.int .i64 1)), none⟩]) .ret) .skip)) (.seq (.reg [⟨some 2, .mv (.c (.int .i64 0)), none⟩]) .ret))))
def r21 : List RV := [.t 2]
theorem c21_ok : cCode Try.prog [1] (Try.f21.body.getD .skip) = some c21 := by kernel_rfl
theorem r21_ok : cRes Try.prog Try.f21.results.toList = some r21 := by kernel_rfl

/-! rivulet/rivuletref12.Valid -/
def c80 : ACode := (.seq (.reg [⟨some 2, .mv (.c (.bool false)), none⟩]) (.seq (.reg [⟨some 3, .mv (.t 0), none⟩, ⟨some 4, .bin .geq (.t 3) (.c (.int .i64 0)), none⟩, ⟨some 5, .mv (.t 4), none⟩, ⟨some 6, .mv (.t 0), some (5, true)⟩, ⟨some 7, .bin .leq (.t 6) (.c (.int .i64 65535)), some (5, true)⟩, ⟨some 8, .pick (.t 5) (.t 7) (.c (.bool false)), none⟩, ⟨some 2, .mv (.t 8), none⟩]) .ret))
def r80 : List RV := [.t 2]
theorem c80_ok : cCode Try.prog [] (Try.f80.body.getD .skip) = some c80 := by kernel_rfl
theorem r80_ok : cRes Try.prog Try.f80.results.toList = some r80 := by kernel_rfl

end Go.Proofs.Ytaeppifdbcoipaa
