/- The contract of 'does' of the session laws: a call on a row of sessions. -/
import Derived.Test.YtjilfmphdncapaaSesAlive
set_option linter.unusedVariables false
set_option linter.unusedSimpArgs false
namespace Go.Proofs.Ytjilfmphdncapaa
open Go.RowKit

/-- A session's state: its client, how many ids it told, what it saw. -/
structure Sn where
  c : Int
  m : Int
  t : Int
  n : Int

/-- A call: kind, who, a number, a token. -/
structure OpD where
  k : Int
  who : Int
  x : Int
  a1 : Int
  a2 : Int

def OpD.cells (o : OpD) : Array Value := #[.int .i64 o.k, .int .i64 o.who, .int .i64 o.x, .int .i64 o.a1, .int .i64 o.a2]

/-- What a call tells: an error, an id. -/
structure AnsD where
  e : Int
  c : Int
  n : Int
def AnsD.cells (a : AnsD) : Array Value := #[.int .i64 a.e, .int .i64 a.c, .int .i64 a.n]

/-- What a call on session number i (it is s) does and tells. -/
def doOn (l : List Sn) (i : Nat) (s : Sn) (o : OpD) : List Sn × AnsD :=
  if o.k = 0 then (l.set i ⟨s.c, s.m, readT s.t s.n o.a1 o.a2, readN s.t s.n o.a1 o.a2⟩, ⟨readE s.t s.n o.a1 o.a2, 0, 0⟩)
  else if o.k = 1 then (l.set i ⟨s.c, s.m, wroteT s.t s.n o.a1 o.a2, wroteN s.t s.n o.a1 o.a2⟩, ⟨wroteE o.a1 o.a2, 0, 0⟩)
  else if o.k = 2 then (l.set i ⟨s.c, s.m + 1, s.t, s.n⟩, ⟨0, s.c, s.m⟩)
  else if o.k = 3 then (if (decide (0 ≤ o.x) && decide (o.x ≤ 1099511627776)) = true then (l ++ [⟨o.x, 0, s.t, s.n⟩], ⟨0, 0, 0⟩) else (l, ⟨1, 0, 0⟩))
  else if o.k = 4 then
    (if 0 ≤ o.x then match l[o.x.toNat]? with
      | some s2 => (l.set i ⟨s.c, s.m, maxT s.t s.n s2.t s2.n, maxN s.t s.n s2.t s2.n⟩, ⟨0, 0, 0⟩)
      | none => (l, ⟨0, 0, 0⟩)
     else (l, ⟨0, 0, 0⟩))
  else (l, ⟨0, 0, 0⟩)
/-- What a call does and tells. -/
def doF (l : List Sn) (o : OpD) : List Sn × AnsD :=
  if 0 ≤ o.who then match l[o.who.toNat]? with
    | some s => doOn l o.who.toNat s o
    | none => (l, ⟨0, 0, 0⟩)
  else (l, ⟨0, 0, 0⟩)

theorem nodup_at {α : Type} {l : List α} (h : l.Nodup) {i j : Nat} {x : α} (hi : l[i]? = some x) (hj : l[j]? = some x) : i = j := by
  obtain ⟨l1, e1⟩ := List.getElem?_eq_some_iff.1 hi
  obtain ⟨l2, e2⟩ := List.getElem?_eq_some_iff.1 hj
  have hp := List.pairwise_iff_getElem.1 h
  rcases Nat.lt_trichotomy i j with h1 | h1 | h1
  · exact absurd (e1.trans e2.symm) (hp i j l1 l2 h1)
  · exact h1
  · exact absurd (e2.trans e1.symm) (hp j i l2 l1 h1)

def ptrV (b : Nat) : Value := .pointer (some ⟨b, 0, none⟩)

/-- The sessions of a row: their blocks, none twice. -/
structure SesRow (w : World) (base : Nat) (v : Value) (bs : List Nat) (sts : List Sn) : Prop where
  own : w.ownsRow base 30 1 v bs.length (bs.map ptrV)
  len : bs.length = sts.length
  nodup : bs.Nodup
  ses : ∀ (i : Nat) (b : Nat) (s : Sn), bs[i]? = some b → sts[i]? = some s → Ses w b s.c s.m s.t s.n
  ge : ∀ b ∈ bs, base ≤ b

/-- What the walk reads of the row. -/
theorem SesRow.at {w : World} {base : Nat} {v : Value} {bs : List Nat} {sts : List Sn} (h : SesRow w base v bs sts) {i : Nat} {s : Sn} (hi : sts[i]? = some s) :
    ∃ g cap b, v = .slice (some ⟨g, 0, none⟩) bs.length cap ∧ g < w.heap.size ∧ base ≤ g ∧ bs[i]? = some b ∧ w.cell? ⟨g, i, none⟩ = some (.pointer (some ⟨b, 0, none⟩)) ∧ Ses w b s.c s.m s.t s.n ∧ v.ownBlock = some g ∧ b ≠ g := by
  have hlt : i < bs.length := by rw [h.len]; exact (List.getElem?_eq_some_iff.1 hi).1
  obtain ⟨b, hb⟩ : ∃ b, bs[i]? = some b := ⟨_, List.getElem?_eq_getElem hlt⟩
  have hs := h.ses i b s hb hi
  rcases h.own.2 with ⟨_, h0⟩ | ⟨g, cap, cur, hv, hg, hh, hn, hc, hsz, htake⟩
  · omega
  · have hcell := h.own.cells (g := g) (by rw [hv]; rfl) i (ptrV b) (by simp [hb])
    have hadd : (⟨g, 0, none⟩ : Addr).add i = ⟨g, i, none⟩ := by unfold Addr.add; split <;> simp_all
    rw [hadd] at hcell
    refine ⟨g, cap, b, hv, lt_of_block hh, hg, hb, hcell, hs, by rw [hv]; rfl, ?_⟩
    rintro rfl
    have h2 : w.heap[b]? = _ := hs
    rw [hh] at h2
    simp at h2

/-- The row and the sessions stay, where what changes is none of theirs. -/
theorem SesRow.ch {w w1 : World} {base : Nat} {v : Value} {bs : List Nat} {sts : List Sn} {S : Nat → Prop} (h : SesRow w base v bs sts) (hc : Ch S w w1) (hb : ∀ b ∈ bs, ¬ S b) (hv : ∀ g, v.ownBlock = some g → ¬ S g) : SesRow w1 base v bs sts :=
  ⟨by
    refine ⟨h.own.1, ?_⟩
    rcases h.own.2 with h2 | ⟨g, cap, cur, e, hg, hh, r⟩
    · exact .inl h2
    · exact .inr ⟨g, cap, cur, e, hg, (hc.block g (lt_of_block hh) (hv g (by rw [e]; rfl))).trans hh, r⟩,
   h.len, h.nodup, fun i b s h1 h2 => (h.ses i b s h1 h2).ch hc (hb b (List.mem_of_getElem? h1)), h.ge⟩
theorem SesRow.below {w w1 : World} {base : Nat} {v : Value} {bs : List Nat} {sts : List Sn} (h : SesRow w base v bs sts) (hb : Below w.heap.size w w1) : SesRow w1 base v bs sts :=
  h.ch (Ch.of_below (fun _ => False) hb) (fun _ _ => id) (fun _ _ => id)

/-- One session has changed. -/
theorem SesRow.set {w w1 : World} {base : Nat} {v : Value} {bs : List Nat} {sts : List Sn} (h : SesRow w base v bs sts) {i b : Nat} {s : Sn} (hi : bs[i]? = some b) (hs : Ses w1 b s.c s.m s.t s.n) (hc : Ch (· = b) w w1) (hv : v.ownBlock ≠ some b) :
    SesRow w1 base v bs (sts.set i s) := by
  refine ⟨?_, by simpa using h.len, h.nodup, ?_, h.ge⟩
  · refine ⟨h.own.1, ?_⟩
    rcases h.own.2 with h2 | ⟨g, cap, cur, e, hg, hh, r⟩
    · exact .inl h2
    · exact .inr ⟨g, cap, cur, e, hg, (hc.block g (lt_of_block hh) (by rintro rfl; exact hv (by rw [e]; rfl))).trans hh, r⟩
  · intro j b' s' h1 h2
    by_cases hj : j = i
    · subst hj
      rw [hi] at h1
      cases h1
      have hlt := (List.getElem?_eq_some_iff.1 h2).1
      rw [List.getElem?_set_self (by simpa using hlt)] at h2
      cases h2
      exact hs
    · rw [List.getElem?_set_ne (by omega)] at h2
      refine (h.ses j b' s' h1 h2).ch hc ?_
      rintro rfl
      exact hj (nodup_at h.nodup h1 hi)
end Go.Proofs.Ytjilfmphdncapaa
