/- A closed run: parse of string 2. Printed by runs.py. No condition. -/
import Derived.Test.YtbdnfkmcfencdaaGreatDoorRunb
namespace Go.Proofs.YtbdnfkmcfencdaaGreatDoor
namespace Am
open Go
def parse2 : Out × Heap := (.ret (.tup [.agg [.v (.int .i64 1), .imm 20 [[.v (.int .i64 9), .v (.bool true), .v (.string ⟨#[117]⟩), .v (.int .u8 3), .v (.int .i64 0), .v (.bool true), .v (.int .u8 2), .v (.int .i64 28), .v (.bool false), .v (.int .i32 0), .v (.int .u64 0), .v (.string ⟨#[]⟩), .v (.slice none 0 0), .v (.int .u8 2), .v (.int .i64 31), .v (.bool false), .v (.int .i32 1), .v (.int .u64 0), .v (.string ⟨#[]⟩), .v (.slice none 0 0)]], .v (.slice none 0 0), .imm 15 [[.v (.int .u8 1), .v (.int .i64 50), .v (.string ⟨#[117]⟩), .v (.slice none 0 0), .v (.int .u8 3), .v (.int .i64 54), .v (.bool false), .v (.int .i32 0), .v (.int .u64 4607182418800017408), .v (.string ⟨#[]⟩), .v (.slice none 0 0), .v (.int .i32 0), .v (.int .i32 0), .v (.slice none 0 0), .v (.slice none 0 0)]]], .v (.int .i64 0), .v (.int .i64 0)]), [])
theorem parse2_run (m : Int) : (closedMd (kn4 m) 100000 100).call 38 [.v (.string str2)] [] (fun o H => (o, H) = parse2) = (parse2 = parse2) := by kernel_rfl
noncomputable def kn5 (m : Int) := memoS (kn4 m) 38 str2 parse2 (run_closed _ (parse2_run m))
end Am
end Go.Proofs.YtbdnfkmcfencdaaGreatDoor
/- A closed run: of of string 2. Printed by runs.py. No condition. -/
namespace Go.Proofs.YtbdnfkmcfencdaaGreatDoor
namespace Am
open Go
def of2 : Out × Heap := (.ret (.tup [.v (.int .i64 124), .v (.int .i64 50)]), [])
theorem of2_run (m : Int) : (closedMd (kn5 m) 100000 100).call 19 [.v (.string str2)] [] (fun o H => (o, H) = of2) = (of2 = of2) := by kernel_rfl
noncomputable def kn6 (m : Int) := memoS (kn5 m) 19 str2 of2 (run_closed _ (of2_run m))
end Am
end Go.Proofs.YtbdnfkmcfencdaaGreatDoor
