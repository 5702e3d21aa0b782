import Derived.Test.YthbkkpahoolhbaaGreatDoorEv29
import Derived.Test.YthbkkpahoolhbaaGreatDoorEv20
set_option linter.unusedSimpArgs false
set_option linter.unusedVariables false
set_option linter.unusedSectionVars false
namespace Go.E.FF
open Go.Proofs
/-- closed runs -/
def tabA : Tab := [
  (20, [(.string ⟨⟨[49]⟩⟩)], (.tuple #[(.agg #[(.int .i64 1), (.int .i64 1), (.string ⟨⟨[]⟩⟩), (.slice none 0 0)]), (.int .i64 0), (.int .i64 0)])),
  (20, [(.string ⟨⟨[50]⟩⟩)], (.tuple #[(.agg #[(.int .i64 1), (.int .i64 2), (.string ⟨⟨[]⟩⟩), (.slice none 0 0)]), (.int .i64 0), (.int .i64 0)])),
  (34, [(.agg #[(.int .i64 1), (.int .i64 1), (.string ⟨⟨[]⟩⟩), (.slice none 0 0)])], (.slice none 0 0)),
  (34, [(.agg #[(.int .i64 1), (.int .i64 2), (.string ⟨⟨[]⟩⟩), (.slice none 0 0)])], (.slice none 0 0)),
  (109, [(.agg #[(.int .i64 1), (.int .i64 1), (.string ⟨⟨[]⟩⟩), (.slice none 0 0)]), (.slice none 0 0)], (.tuple #[(.agg #[(.int .i64 1), (.int .i64 1), (.string ⟨⟨[]⟩⟩)]), (.int .i64 0)])),
  (109, [(.agg #[(.int .i64 1), (.int .i64 2), (.string ⟨⟨[]⟩⟩), (.slice none 0 0)]), (.slice none 0 0)], (.tuple #[(.agg #[(.int .i64 1), (.int .i64 2), (.string ⟨⟨[]⟩⟩)]), (.int .i64 0)]))]
theorem tabA_ok : TabOk Tryz.prog tabA := tab_of_ev x0 s0_ok (n := 100000) (by kernel_rfl)
/-- decimals -/
def dec (j : Nat) : ByteArray := ⟨⟨bif j.blt 10 then [UInt8.ofNat (48 + j)] else bif j.blt 100 then [UInt8.ofNat (48 + j / 10), UInt8.ofNat (48 + j % 10)] else [UInt8.ofNat (48 + j / 100), UInt8.ofNat (48 + j / 10 % 10), UInt8.ofNat (48 + j % 10)]⟩⟩
def decTab : Nat → Nat → Tab
  | 0, _ => []
  | k + 1, j => (7, [.int .i64 (Int.ofNat j)], .string (dec j)) :: decTab k (j + 1)
theorem dec_ok1 : TabOk Tryz.prog (decTab 128 0) := tab_of_ev x0 s0_ok (n := 100000) (by kernel_rfl)
theorem dec_ok2 : TabOk Tryz.prog (decTab 128 128) := tab_of_ev x0 s0_ok (n := 100000) (by kernel_rfl)
theorem decTab_mem : ∀ (k j i : Nat), j ≤ i → i < j + k → (7, [.int .i64 (Int.ofNat i)], .string (dec i)) ∈ decTab k j
  | 0, j, i, h1, h2 => by omega
  | k + 1, j, i, h1, h2 => by
    by_cases e : i = j
    · subst e; exact List.mem_cons_self ..
    · exact List.mem_cons_of_mem _ (decTab_mem k (j + 1) i (by omega) (by omega))
theorem dec_sum {j : Nat} (h : j < 256) : Sum Tryz.prog 7 [.int .i64 (Int.ofNat j)] (.string (dec j)) := by
  by_cases h2 : j < 128
  · exact dec_ok1 _ (decTab_mem 128 0 j (by omega) (by omega))
  · exact dec_ok2 _ (decTab_mem 128 128 j (by omega) (by omega))
/-- good names -/
def goodL : List UInt8 → Bool
  | [] => false
  | c :: l => letB c && l.all fun c => letB c || digB c
def goodB (nm : ByteArray) : Bool := goodL (bytes nm) && (bytes nm).length.ble 40 && !seq nm ⟨⟨[97, 110, 100]⟩⟩ && !seq nm ⟨⟨[111, 114]⟩⟩ && !seq nm ⟨⟨[110, 111, 116]⟩⟩ && !seq nm ⟨⟨[116, 114, 117, 101]⟩⟩ && !seq nm ⟨⟨[102, 97, 108, 115, 101]⟩⟩
theorem good_of {nm : ByteArray} (h : goodB nm = true) : GoodId nm := by
  unfold goodB at h
  simp only [Bool.and_eq_true, Bool.not_eq_true'] at h
  obtain ⟨⟨⟨⟨⟨⟨h0, h1⟩, h2⟩, h3⟩, h4⟩, h5⟩, h6⟩ := h
  refine ⟨Nat.le_of_ble_eq_true h1, ?_, ?_, h2, h3, h4, h5, h6⟩
  · intro j c hc
    cases hl : bytes nm with
    | nil => rw [hl] at hc; cases hc
    | cons b l =>
      rw [hl] at hc h0
      simp only [goodL, Bool.and_eq_true] at h0
      cases j with
      | zero =>
        simp only [List.getElem?_cons_zero, Option.some.injEq] at hc
        subst hc; exact .inl h0.1
      | succ j =>
        simp only [List.getElem?_cons_succ] at hc
        have := List.all_eq_true.1 h0.2 c (List.mem_of_getElem? hc)
        simp only [Bool.or_eq_true] at this
        rcases this with h | h
        · exact .inl h
        · exact .inr ⟨by omega, h⟩
  · cases hl : bytes nm with
    | nil => rw [hl] at h0; cases h0
    | cons b l =>
      unfold seq
      rw [hl]
      rfl
theorem sum_of_exq {P : Program} {X : Ctx} (hX : CtxOk P X) (hS : SumOk P X) {f : FuncId} {args : List Value} {v : Value} (ha : plainL args = true) (hv : plain v = true)
    (h : Exq P X (.call f args .no) s0 fun o => ∃ pk s', o = .ret v pk s') : Sum P f args v := by
  obtain ⟨o, h1, pk, s', rfl⟩ := h
  obtain ⟨n, h1⟩ := h1.eval
  exact sum_of_ret hX hS ha hv h1
theorem ident_sum {nm : ByteArray} (h : goodB nm = true) : Sum Tryz.prog 19 [.string nm] (.bool true) :=
  sum_of_exq x0 s0_ok rfl rfl ((isIdent (X := X0) rfl rfl rfl rfl rfl rfl (good_of h)).mono fun o h => by
    obtain ⟨st', n', lg', rfl, _⟩ := h
    exact ⟨_, _, rfl⟩)
end Go.E.FF

