import Derived.Test.YthbkkpahoolhbaaGreatDoorEv20
set_option linter.unusedSimpArgs false
set_option linter.unusedVariables false
set_option linter.unusedSectionVars false
namespace Go.E.FF
open Go.Proofs

/-- what small functions return at the arguments that 'known' hands them -/
def tabK : Tab := [
  (15, [(.string ⟨⟨[52]⟩⟩)], (.agg #[(.int .i64 1), (.int .i64 4), (.string ⟨⟨[]⟩⟩)])),
  (18, [(.string ⟨⟨[115,101,116,32,97,32,50]⟩⟩)], (.tuple #[(.agg #[(.int .i64 2), (.string ⟨⟨[97]⟩⟩), (.int .i64 1), (.int .i64 2), (.string ⟨⟨[]⟩⟩), (.slice none 0 0), (.int .i64 0), (.int .i64 0), (.int .i64 0), (.int .i64 0)]), (.int .i64 0)])),
  (34, [(.agg #[(.int .i64 1), (.int .i64 2), (.string ⟨⟨[]⟩⟩), (.slice none 0 0)])], (.slice none 0 0)),
  (109, [(.agg #[(.int .i64 1), (.int .i64 2), (.string ⟨⟨[]⟩⟩), (.slice none 0 0)]), (.slice none 0 0)], (.tuple #[(.agg #[(.int .i64 1), (.int .i64 2), (.string ⟨⟨[]⟩⟩)]), (.int .i64 0)])),
  (53, [(.string ⟨⟨[115,101,116,32,98,32,97,32,42,32,51]⟩⟩)], (.bool true)),
  (186, [(.string ⟨⟨[115,101,116,32,98,32,97,32,42,32,51]⟩⟩), (.string ⟨⟨[32]⟩⟩)], (.int .i64 3)),
  (186, [(.string ⟨⟨[98,32,97,32,42,32,51]⟩⟩), (.string ⟨⟨[32]⟩⟩)], (.int .i64 1)),
  (186, [(.string ⟨⟨[97,32,42,32,51]⟩⟩), (.string ⟨⟨[32]⟩⟩)], (.int .i64 1)),
  (186, [(.string ⟨⟨[42,32,51]⟩⟩), (.string ⟨⟨[32]⟩⟩)], (.int .i64 1)),
  (55, [(.string ⟨⟨[115,101,116]⟩⟩), (.string ⟨⟨[61]⟩⟩)], (.bool false)),
  (19, [(.string ⟨⟨[98]⟩⟩)], (.bool true)),
  (133, [(.string ⟨⟨[115,101,116,32,98,32,97,32,42,32,51]⟩⟩), (.int .i64 2)], (.string ⟨⟨[32,97,32,42,32,51]⟩⟩)),
  (58, [(.string ⟨⟨[32,97,32,42,32,51]⟩⟩)], (.int .i64 (-1))),
  (103, [(.string ⟨⟨[32,97,32,42,32,51]⟩⟩), (.int .i64 0)], (.agg #[(.string ⟨⟨[105]⟩⟩), (.string ⟨⟨[97]⟩⟩), (.int .i64 1)])),
  (103, [(.string ⟨⟨[32,97,32,42,32,51]⟩⟩), (.int .i64 2)], (.agg #[(.string ⟨⟨[42]⟩⟩), (.string ⟨⟨[42]⟩⟩), (.int .i64 3)])),
  (103, [(.string ⟨⟨[32,97,32,42,32,51]⟩⟩), (.int .i64 4)], (.agg #[(.string ⟨⟨[110]⟩⟩), (.string ⟨⟨[51]⟩⟩), (.int .i64 5)])),
  (116, [(.string ⟨⟨[51]⟩⟩)], (.tuple #[(.int .i64 3), .nilIface])),
  (103, [(.string ⟨⟨[32,97,32,42,32,51]⟩⟩), (.int .i64 6)], (.agg #[(.string ⟨⟨[46]⟩⟩), (.string ⟨⟨[]⟩⟩), (.int .i64 6)])),
  (101, [(.agg #[(.int .i64 4), (.int .i64 0), (.string ⟨⟨[97]⟩⟩), (.slice none 0 0)])], (.int .i64 0)),
  (101, [(.agg #[(.int .i64 1), (.int .i64 3), (.string ⟨⟨[]⟩⟩), (.slice none 0 0)])], (.int .i64 0)),
  (53, [(.string ⟨⟨[61,32,98,32,43,32,120]⟩⟩)], (.bool true)),
  (186, [(.string ⟨⟨[61,32,98,32,43,32,120]⟩⟩), (.string ⟨⟨[32]⟩⟩)], (.int .i64 1)),
  (186, [(.string ⟨⟨[98,32,43,32,120]⟩⟩), (.string ⟨⟨[32]⟩⟩)], (.int .i64 1)),
  (186, [(.string ⟨⟨[43,32,120]⟩⟩), (.string ⟨⟨[32]⟩⟩)], (.int .i64 1)),
  (55, [(.string ⟨⟨[61]⟩⟩), (.string ⟨⟨[61]⟩⟩)], (.bool true)),
  (133, [(.string ⟨⟨[61,32,98,32,43,32,120]⟩⟩), (.int .i64 1)], (.string ⟨⟨[32,98,32,43,32,120]⟩⟩)),
  (58, [(.string ⟨⟨[32,98,32,43,32,120]⟩⟩)], (.int .i64 (-1))),
  (103, [(.string ⟨⟨[32,98,32,43,32,120]⟩⟩), (.int .i64 0)], (.agg #[(.string ⟨⟨[105]⟩⟩), (.string ⟨⟨[98]⟩⟩), (.int .i64 1)])),
  (103, [(.string ⟨⟨[32,98,32,43,32,120]⟩⟩), (.int .i64 2)], (.agg #[(.string ⟨⟨[43]⟩⟩), (.string ⟨⟨[43]⟩⟩), (.int .i64 3)])),
  (103, [(.string ⟨⟨[32,98,32,43,32,120]⟩⟩), (.int .i64 4)], (.agg #[(.string ⟨⟨[105]⟩⟩), (.string ⟨⟨[120]⟩⟩), (.int .i64 5)])),
  (103, [(.string ⟨⟨[32,98,32,43,32,120]⟩⟩), (.int .i64 6)], (.agg #[(.string ⟨⟨[46]⟩⟩), (.string ⟨⟨[]⟩⟩), (.int .i64 6)])),
  (101, [(.agg #[(.int .i64 4), (.int .i64 0), (.string ⟨⟨[98]⟩⟩), (.slice none 0 0)])], (.int .i64 0)),
  (101, [(.agg #[(.int .i64 4), (.int .i64 0), (.string ⟨⟨[120]⟩⟩), (.slice none 0 0)])], (.int .i64 0)),
  (47, [(.agg #[(.int .i64 1), (.int .i64 10), (.string ⟨⟨[]⟩⟩)])], (.string ⟨⟨[49,48]⟩⟩)),
  (15, [(.string ⟨⟨[]⟩⟩)], (.agg #[(.int .i64 2), (.int .i64 0), (.string ⟨⟨[]⟩⟩)])),
  (49, [(.int .i64 2)], (.string ⟨⟨[50]⟩⟩)),
  (18, [(.string ⟨⟨[115,101,113,32,116,97,98]⟩⟩)], (.tuple #[(.agg #[(.int .i64 3), (.string ⟨⟨[116,97,98]⟩⟩), (.int .i64 0), (.int .i64 0), (.string ⟨⟨[]⟩⟩), (.slice none 0 0), (.int .i64 (-1)), (.int .i64 0), (.int .i64 0), (.int .i64 0)]), (.int .i64 0)])),
  (49, [(.int .i64 1)], (.string ⟨⟨[49]⟩⟩)),
  (18, [(.string ⟨⟨[115,101,113,32,102,105,103,32,55]⟩⟩)], (.tuple #[(.agg #[(.int .i64 3), (.string ⟨⟨[102,105,103]⟩⟩), (.int .i64 0), (.int .i64 0), (.string ⟨⟨[]⟩⟩), (.slice none 0 0), (.int .i64 7), (.int .i64 0), (.int .i64 0), (.int .i64 0)]), (.int .i64 0)])),
  (49, [(.int .i64 7)], (.string ⟨⟨[55]⟩⟩)),
  (18, [(.string ⟨⟨[115,101,113,32,102,105,103]⟩⟩)], (.tuple #[(.agg #[(.int .i64 3), (.string ⟨⟨[102,105,103]⟩⟩), (.int .i64 0), (.int .i64 0), (.string ⟨⟨[]⟩⟩), (.slice none 0 0), (.int .i64 (-1)), (.int .i64 0), (.int .i64 0), (.int .i64 0)]), (.int .i64 0)])),
  (121, [(.string ⟨⟨[115,101,113,32,116,97,98]⟩⟩)], (.tuple #[(.string ⟨⟨[116,97,98]⟩⟩), (.int .i64 (-1)), (.bool true)])),
  (121, [(.string ⟨⟨[115,101,113,32,102,105,103,32,55]⟩⟩)], (.tuple #[(.string ⟨⟨[102,105,103]⟩⟩), (.int .i64 7), (.bool true)])),
  (165, [(.string ⟨⟨[116]⟩⟩)], (.tuple #[(.int .i64 1), (.int .i64 0)])),
  (121, [(.string ⟨⟨[115,101,113,32,102,105,103]⟩⟩)], (.tuple #[(.string ⟨⟨[102,105,103]⟩⟩), (.int .i64 (-1)), (.bool true)])),
  (49, [(.int .i64 8)], (.string ⟨⟨[56]⟩⟩)),
  (18, [(.string ⟨⟨[116,111,99,32,49,32,51]⟩⟩)], (.tuple #[(.agg #[(.int .i64 8), (.string ⟨⟨[]⟩⟩), (.int .i64 0), (.int .i64 0), (.string ⟨⟨[]⟩⟩), (.slice none 0 0), (.int .i64 0), (.int .i64 0), (.int .i64 1), (.int .i64 3)]), (.int .i64 0)])),
  (18, [(.string ⟨⟨[116,111,99,32,51,32,50]⟩⟩)], (.tuple #[(.agg #[(.int .i64 0), (.string ⟨⟨[]⟩⟩), (.int .i64 0), (.int .i64 0), (.string ⟨⟨[]⟩⟩), (.slice none 0 0), (.int .i64 0), (.int .i64 0), (.int .i64 0), (.int .i64 0)]), (.int .i64 27)]))]
theorem tabK_ok : TabOk Tryz.prog tabK := tab_of_ev x0 s0_ok (n := 100000) (by kernel_rfl)
def kf1 : List (Nat × Nat) := kf ++ [(15, 8), (18, 8), (19, 8), (34, 8), (47, 8), (49, 8), (53, 8), (55, 8), (58, 8), (101, 8), (103, 8), (109, 8), (116, 8), (121, 8), (133, 8), (165, 8), (186, 8)]
noncomputable def X1 : Ctx := ⟨xk kf1, fun f args => look f args tabK, kh⟩
theorem x1 : CtxOk Tryz.prog X1 := ctx_ok (by kernel_rfl)
theorem s1_ok : SumOk Tryz.prog X1 := sum_ok (by kernel_rfl) (fun f args v h _ _ => look_ok tabK_ok h) kh_ok
end Go.E.FF

