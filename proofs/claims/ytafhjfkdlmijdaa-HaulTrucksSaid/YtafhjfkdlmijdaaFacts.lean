/- Closed facts on the types' sizes. -/
import Derived.Test.YtafhjfkdlmijdaaLib
import Derived.Test.YtafhjfkdlmijdaaProg
namespace Go.Proofs.Ytafhjfkdlmijdaa
theorem sz_int : ∀ w, (sizeOf 3).run Try.prog w = .ok 1 w := fun w => by kernel_rfl
theorem sz_i64 : ∀ w, (sizeOf 2).run Try.prog w = .ok 1 w := fun w => by kernel_rfl
theorem sz_u8 : ∀ w, (sizeOf 5).run Try.prog w = .ok 1 w := fun w => by kernel_rfl
theorem sz_row : ∀ w, (sizeOf 34).run Try.prog w = .ok 1 w := fun w => by kernel_rfl
theorem sz_sat : ∀ w, (sizeOf 38).run Try.prog w = .ok 2 w := fun w => by kernel_rfl
theorem sz_cust : ∀ w, (sizeOf 112).run Try.prog w = .ok 4 w := fun w => by kernel_rfl
theorem sz_stop : ∀ w, (sizeOf 105).run Try.prog w = .ok 2 w := fun w => by kernel_rfl
theorem sz_truck : ∀ w, (sizeOf 108).run Try.prog w = .ok 1 w := fun w => by kernel_rfl
theorem sz_bike : ∀ w, (sizeOf 128).run Try.prog w = .ok 2 w := fun w => by kernel_rfl
theorem sz_lsat : ∀ w, (sizeOf 103).run Try.prog w = .ok 2 w := fun w => by kernel_rfl
theorem sz_lwho : ∀ w, (sizeOf 110).run Try.prog w = .ok 4 w := fun w => by kernel_rfl
end Go.Proofs.Ytafhjfkdlmijdaa
