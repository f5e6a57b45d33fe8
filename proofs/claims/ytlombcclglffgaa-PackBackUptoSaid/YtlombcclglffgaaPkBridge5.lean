/- The bridge: Read: what a part's reading gives, of the program's reader and of the reference's. -/
import Derived.Test.YtlombcclglffgaaPkBridge4
set_option linter.unusedVariables false
set_option linter.unusedSimpArgs false
namespace Go.Proofs.Ytlombcclglffgaa
open Go.RowKit PPackReads Go.Proofs.YtlombcclglffgaaW.PrintWords

/-- A part. -/
structure PartD where
  k : Int
  n : Int
  most : Int
  s : ByteArray
  is : Bool
def PartD.out (p : PartD) : List Value := [.int .i64 p.k, .int .i64 p.n, .int .i64 p.most, .string p.s, .bool p.is]

/-- What is read of a part, how many bytes, the error. -/
def partE (e : Int) (l : List Nat) (p : PartD) : PartD × Nat × Int :=
  if p.k = 0 then (⟨p.k, (numE e p.most l).1, p.most, bS [], false⟩, (numE e p.most l).2)
  else if p.k = 1 then (⟨p.k, 0, p.most, bS (textE e p.most l).1, false⟩, (textE e p.most l).2)
  else if p.k = 2 then (⟨p.k, 0, p.most, bS [], (boolE e l).1⟩, (boolE e l).2)
  else (⟨p.k, 0, p.most, bS [], false⟩, 0, e)

/-- The reference's Read of a reader without an error. -/
theorem read_ok (l : List Nat) (hb : ∀ b ∈ l, b < 256) (p : PartD) : ∃ K, ∀ k, K ≤ k → carabinerref02_Read.f k (bS l) 0 p.k p.n p.most p.s p.is =
    some (bS (l.drop (partE 0 l p).2.1), (partE 0 l p).2.2, (partE 0 l p).1.k, (partE 0 l p).1.n, (partE 0 l p).1.most, (partE 0 l p).1.s, (partE 0 l p).1.is) := by
  obtain ⟨K1, h1⟩ := readnum_ok l hb p.most
  obtain ⟨K2, h2⟩ := readtext_ok l hb p.most
  refine ⟨K1 + K2, fun k hk => ?_⟩
  have hnum : numE 0 p.most l = numF p.most l := by unfold numE; rw [if_pos rfl]
  unfold carabinerref02_Read.f partE
  by_cases k0 : p.k = 0
  · rw [if_pos k0, if_pos k0, h1 k (by omega), hnum]
    rfl
  · rw [if_neg k0, if_neg k0]
    by_cases k1 : p.k = 1
    · rw [if_pos k1, if_pos k1, h2 k (by omega)]
      rfl
    · rw [if_neg k1, if_neg k1]
      by_cases k2 : p.k = 2
      · rw [if_pos k2, if_pos k2, readbool_ok l hb]
        rfl
      · rw [if_neg k2, if_neg k2]
        rfl
/-- Of one with an error: all stays. -/
theorem read_err (B : ByteArray) (l : List Nat) (e : Int) (he : e ≠ 0) (p : PartD) : ∀ k, carabinerref02_Read.f k B e p.k p.n p.most p.s p.is =
    some (B, e, (partE e l p).1.k, (partE e l p).1.n, (partE e l p).1.most, (partE e l p).1.s, (partE e l p).1.is) ∧ (partE e l p).2 = (0, e) := by
  intro k
  have a1 : numE e p.most l = (0, 0, e) := by unfold numE; rw [if_neg he]
  have a2 : textE e p.most l = ([], 0, e) := by unfold textE; rw [a1]; simp [he]
  have a3 : boolE e l = (false, 0, e) := by unfold boolE; rw [if_neg he]
  have b1 : carabinerref02_ReadNum.f k B e p.most = some (B, e, 0) := by unfold carabinerref02_ReadNum.f; rw [if_neg he]
  have b2 : carabinerref02_ReadText.f k B e p.most = some (B, e, ⟨#[]⟩) := by unfold carabinerref02_ReadText.f; rw [b1, Option.bind_some]; simp [he]
  have b3 : carabinerref02_ReadBool.f B e = some (B, e, false) := by unfold carabinerref02_ReadBool.f; rw [if_neg he]
  unfold carabinerref02_Read.f partE
  by_cases k0 : p.k = 0
  · rw [if_pos k0, if_pos k0, a1, b1]
    exact ⟨rfl, rfl⟩
  · rw [if_neg k0, if_neg k0]
    by_cases k1 : p.k = 1
    · rw [if_pos k1, if_pos k1, a2, b2]
      exact ⟨rfl, rfl⟩
    · rw [if_neg k1, if_neg k1]
      by_cases k2 : p.k = 2
      · rw [if_pos k2, if_pos k2, a3, b3]
        exact ⟨rfl, rfl⟩
      · rw [if_neg k2, if_neg k2]
        exact ⟨rfl, rfl⟩
end Go.Proofs.Ytlombcclglffgaa
