/- PackWrites: the walk. -/
import Derived.Test.YtlombcclglffgaaPkRefW
set_option linter.unusedVariables false
set_option linter.unusedSimpArgs false
namespace Go.Proofs.Ytlombcclglffgaa
open Go.RowKit

theorem count_room : ∀ ps : List PartD, count ps ≤ room ps
  | [] => by simp [count]
  | p :: ps => by
    have h2 := count_room ps
    have h3 : room (p :: ps) = p.s.size + 10 + room ps := by simp [room]
    have h4 : count (p :: ps) = count ps + p.s.size + 1 := by simp [count]; omega
    omega
theorem size_count : ∀ {ps : List PartD} {p : PartD}, p ∈ ps → p.s.size ≤ count ps
  | q :: ps, p, h => by
    have h4 : count (q :: ps) = count ps + q.s.size + 1 := by simp [count]; omega
    rcases List.mem_cons.1 h with h | h
    · subst h
      omega
    · have := size_count h
      omega

/-- The loop of 'good'. -/
def GoodIn (w : World) (ps : List PartD) (v5 v19 : Value) (wi : World) : Prop :=
  ∃ j, j ≤ ps.length ∧ v19 = .int .i64 (j : Nat) ∧ v5 = .bool (allW (ps.take j)) ∧ Ch (fun _ => False) w wi

set_option maxRecDepth 100000 in
set_option maxHeartbeats 8000000 in
theorem writes_any (a : Option Addr) (cap : Nat) (ps : List PartD) (w : World) (ro : RowAt w a 5 PartD.out ps) (hc : room ps ≤ 70368744177664) :
    Calls Try.prog 6 #[.slice a ps.length cap] w fun e w' => e = .returned (.bool true) ∧ Below w.heap.size w w' := by
  have hcr : count ps ≤ room ps := count_room ps
  have HF := Lib.hid (few_any a cap ps w ro (by omega))
  have HRO := Lib.hid ro
  have HC := Lib.hid hc
  have hpl : ps.length ≤ 70368744177664 := Nat.le_trans (length_room ps) hc
  by_cases hfew : count ps ≤ 20000
  · have hf : decide (count ps ≤ 20000) = true := by simpa using hfew
    rw [hf] at HF
    have hsz : ∀ p ∈ ps, p.s.size ≤ 65536 := fun p hp => by have := size_count hp; omega
    have HS := Lib.hid hsz
    clear ro hc hcr hfew hf hsz
    go_enter Try.func6, Try.ntmps6
    go_wp2_with fail
    refine HF.out.mono ?_
    rintro e w1 ⟨rfl, hb1⟩
    have HC1 := Lib.hid (Ch.of_below (fun _ => False) hb1)
    have HR1 := Lib.hid (HRO.out.below hb1)
    have HW := Lib.hid (write_any a cap ps w1 HR1.out HC.out)
    clear HF hb1
    go_wp2_with fail
    refine HW.out.mono ?_
    rintro e w2 ⟨v, rfl, R2, hb2⟩
    have HC2 := Lib.hid (HC1.out.call hb2)
    have HRO2 := Lib.hid (HR1.out.below hb2)
    have HR2 := Lib.hid R2
    obtain ⟨a1, cap1, rfl, _⟩ := R2.at
    clear HW R2 hb2 HC1 HR1
    go_wp2_with fail
    go_loopw [5, 19] (fun v5 v19 wi => GoodIn w2 ps v5 v19 wi) (fun _ i _ => ps.length - (intOf i).toNat)
    case atStart => exact ⟨0, Nat.zero_le _, rfl, rfl, Ch.refl _ _⟩
    case round =>
      obtain ⟨j, hj, rfl, rfl, C5⟩ := hrel
      have KC := Lib.hid C5
      clear C5
      by_cases hlt : j < ps.length
      · have ht : decide ((j : Int) < (ps.length : Int)) = true := by simpa using hlt
        have ht2 : decide (ps.length ≤ j) = false := by simpa using hlt
        obtain ⟨p, hp⟩ : ∃ p, ps[j]? = some p := ⟨_, List.getElem?_eq_getElem hlt⟩
        obtain ⟨b0, off, rfl, hb0, hcells⟩ := HRO2.out j p hp
        have q0 : wr.cell? ⟨b0, off + j * 5, none⟩ = some (.int .i64 p.k) := (KC.out.below.cell (p := ⟨b0, _, none⟩) hb0).trans (hcells 0 _ rfl)
        have q1 : wr.cell? ⟨b0, off + j * 5 + 1, none⟩ = some (.int .i64 p.n) := (KC.out.below.cell (p := ⟨b0, _, none⟩) hb0).trans (hcells 1 _ rfl)
        have q2 : wr.cell? ⟨b0, off + j * 5 + 2, none⟩ = some (.int .i64 p.most) := (KC.out.below.cell (p := ⟨b0, _, none⟩) hb0).trans (hcells 2 _ rfl)
        have q3 : wr.cell? ⟨b0, off + j * 5 + 3, none⟩ = some (.string p.s) := (KC.out.below.cell (p := ⟨b0, _, none⟩) hb0).trans (hcells 3 _ rfl)
        have q4 : wr.cell? ⟨b0, off + j * 5 + 4, none⟩ = some (.bool p.is) := (KC.out.below.cell (p := ⟨b0, _, none⟩) hb0).trans (hcells 4 _ rfl)
        have hps := HS.out p (List.mem_of_getElem? hp)
        have HA := Lib.hid (allW_snoc (ps.take j) p)
        rw [← take_snoc hp] at HA
        have HKC := Lib.hid (KC.out.alloc (.cells #[.int .i64 p.k, .int .i64 p.n, .int .i64 p.most, .string p.s, .bool p.is] 38))
        obtain ⟨al, hal⟩ : ∃ al, al = allW (ps.take j) := ⟨_, rfl⟩
        rw [← hal] at HA ⊢
        clear hal hcells
        by_cases h0 : p.k = 0
        · have t0 : (p.k != 0) = false := by simp [h0]
          have t0' : (p.k == 0) = true := by simp [h0]
          by_cases hn0 : 0 ≤ p.n
          · have t1 : decide (0 ≤ p.n) = true := by simpa using hn0
            by_cases hn1 : p.n ≤ 4611686018427387904
            · have t2 : decide (p.n ≤ 4611686018427387904) = true := by simpa using hn1
              have HPW := Lib.hid (show (partW p).2 = true by unfold partW; rw [if_pos h0, if_pos ⟨hn0, hn1⟩])
              clear h0 hn0 hn1
              cases al with
              | true =>
                go_wp2_with fail
                go_roundw
                case rel => exact ⟨j + 1, hlt, by simp, by rw [HA.out, HPW.out]; rfl, HKC.out⟩
                case measure => simp only [intOf]; omega
              | false =>
                go_wp2_with fail
                go_roundw
                case rel => exact ⟨j + 1, hlt, by simp, by rw [HA.out, HPW.out]; rfl, HKC.out⟩
                case measure => simp only [intOf]; omega
            · have t2 : decide (p.n ≤ 4611686018427387904) = false := by simpa using hn1
              have HPW := Lib.hid (show (partW p).2 = false by unfold partW; rw [if_pos h0, if_neg (fun h => hn1 h.2)])
              clear h0 hn0 hn1
              cases al with
              | true =>
                go_wp2_with fail
                go_roundw
                case rel => exact ⟨j + 1, hlt, by simp, by rw [HA.out, HPW.out]; rfl, HKC.out⟩
                case measure => simp only [intOf]; omega
              | false =>
                go_wp2_with fail
                go_roundw
                case rel => exact ⟨j + 1, hlt, by simp, by rw [HA.out, HPW.out]; rfl, HKC.out⟩
                case measure => simp only [intOf]; omega
          · have t1 : decide (0 ≤ p.n) = false := by simpa using hn0
            have HPW := Lib.hid (show (partW p).2 = false by unfold partW; rw [if_pos h0, if_neg (fun h => hn0 h.1)])
            clear h0 hn0
            cases al with
            | true =>
              go_wp2_with fail
              go_roundw
              case rel => exact ⟨j + 1, hlt, by simp, by rw [HA.out, HPW.out]; rfl, HKC.out⟩
              case measure => simp only [intOf]; omega
            | false =>
              go_wp2_with fail
              go_roundw
              case rel => exact ⟨j + 1, hlt, by simp, by rw [HA.out, HPW.out]; rfl, HKC.out⟩
              case measure => simp only [intOf]; omega
        · have t0 : (p.k != 0) = true := by simp [h0]
          have t0' : (p.k == 0) = false := by simp [h0]
          have HPW := Lib.hid (show (partW p).2 = true by unfold partW; rw [if_neg h0, if_pos hps]; split; rfl; split <;> rfl)
          clear h0
          cases al with
          | true =>
            go_wp2_with fail
            go_roundw
            case rel => exact ⟨j + 1, hlt, by simp, by rw [HA.out, HPW.out]; rfl, HKC.out⟩
            case measure => simp only [intOf]; omega
          | false =>
            go_wp2_with fail
            go_roundw
            case rel => exact ⟨j + 1, hlt, by simp, by rw [HA.out, HPW.out]; rfl, HKC.out⟩
            case measure => simp only [intOf]; omega
      · have ht : decide ((j : Int) < (ps.length : Int)) = false := by simpa using hlt
        have ht2 : decide (ps.length ≤ j) = true := by simp; omega
        have hj2 : j = ps.length := by omega
        rw [hj2, List.take_length]
        have HR3 := Lib.hid (HR2.out.below KC.out.below)
        have HRO3 := Lib.hid (HRO2.out.below KC.out.below)
        have HC3 := Lib.hid (HC2.out.call KC.out.below)
        have s1 : ∀ x : Later wr, (convert 22 9 (.slice a1 (writeF ps).length cap1)).run Try.prog x.w = .ok (.string (bS (writeF ps))) x.w := fun x => brow_string (HR3.out.below x.h) (writeF_lt ps)
        have AL := Lib.hid (fun x : Later wr => alive_any x.w)
        have RW := Lib.hid (fun x : Later wr => refwrite_any a cap ps x.w (HRO3.out.below x.h) HC.out HS.out)
        go_wp2_with fail
        refine wp_region_later (by kernel_rfl) (by kernel_rfl) ?_
        repeat (go_big_quiet_step (first | (go_at_call 12; exact Calls.later (AL.out _)) | (go_at_call 19; exact Calls.later (RW.out _))))
        refine wpQuiet_nil ?_
        rintro _ ⟨x, rfl⟩
        go_wp2_with fail
        go_ret
        exact ⟨rfl, (HC3.out.call x.h).below⟩
  · have hf : decide (count ps ≤ 20000) = false := by simpa using hfew
    rw [hf] at HF
    clear ro hc hcr hfew hf
    go_enter Try.func6, Try.ntmps6
    go_wp2_with fail
    refine HF.out.mono ?_
    rintro e w1 ⟨rfl, hb1⟩
    go_wp2_with fail
    refine (alive_any _).mono ?_
    rintro e w2 ⟨rfl, hb2⟩
    go_wp2_with fail
    go_ret
    exact ⟨rfl, ((Ch.of_below (fun _ => False) hb1).call hb2).below⟩
end Go.Proofs.Ytlombcclglffgaa
