/- A closed run: parse of string 3. Printed by runs.py. No condition. -/
import Derived.Test.YtbdnfkmcfencdaaGreatDoorRund
namespace Go.Proofs.YtbdnfkmcfencdaaGreatDoor
namespace Am
open Go
def parse3 : Out × Heap := (.ret (.tup [.agg [.v (.int .i64 1), .v (.slice none 0 0), .v (.slice none 0 0), .imm 15 [[.v (.int .u8 3), .v (.int .i64 24), .v (.string ⟨#[105]⟩), .v (.slice none 0 0), .v (.int .u8 0), .v (.int .i64 0), .v (.bool false), .v (.int .i32 0), .v (.int .u64 0), .v (.string ⟨#[]⟩), .v (.slice none 0 0), .v (.int .i32 0), .v (.int .i32 16), .v (.slice none 0 0), .v (.slice none 0 0)]]], .v (.int .i64 0), .v (.int .i64 0)]), [])
theorem parse3_run (m : Int) : (closedMd (kn7 m) 100000 100).call 38 [.v (.string str3)] [] (fun o H => (o, H) = parse3) = (parse3 = parse3) := by kernel_rfl
noncomputable def kn8 (m : Int) := memoS (kn7 m) 38 str3 parse3 (run_closed _ (parse3_run m))
end Am
end Go.Proofs.YtbdnfkmcfencdaaGreatDoor
/- A closed run: of of string 3. Printed by runs.py. No condition. -/
namespace Go.Proofs.YtbdnfkmcfencdaaGreatDoor
namespace Am
open Go
def of3 : Out × Heap := (.ret (.tup [.v (.int .i64 123), .v (.int .i64 24)]), [])
theorem of3_run (m : Int) : (closedMd (kn8 m) 100000 100).call 19 [.v (.string str3)] [] (fun o H => (o, H) = of3) = (of3 = of3) := by kernel_rfl
noncomputable def kn9 (m : Int) := memoS (kn8 m) 19 str3 of3 (run_closed _ (of3_run m))
end Am
end Go.Proofs.YtbdnfkmcfencdaaGreatDoor
