/- The assembler's functions. -/
import Derived.Test.YtgglclmilocgcaaGreatDoorBk
set_option linter.unusedVariables false
set_option linter.unusedSimpArgs false
namespace Go.Proofs.YtgglclmilocgcaaGreatDoor.Md
open Go.RowKit Go.Proofs.YtgglclmilocgcaaGreatDoor.Ae Go.Proofs.YtgglclmilocgcaaGreatDoor.Bv Go.Proofs.YtgglclmilocgcaaGreatDoor
set_option maxHeartbeats 40000000 in
theorem back_e (tv : V) (b0 : Blk) (ht : tapeOk tv b0) (lv : V) (hv : lv = .nilS ∨ lv = .sl 1 0 0 0 1) : AC Tryz.prog 3 [.v tv, .v lv] [b0, .dead] (fun v _ => v = bo true) := by
  have hta : tapeAt [b0, .dead] tv := by
    rcases ht with ⟨rfl, rfl⟩ | ⟨rfl, rfl⟩ | ⟨m, l, rfl, rfl, hm⟩
    · exact .inl rfl
    · exact .inr ⟨0, Nat.le_of_ble_eq_true rfl, .inl rfl⟩
    · exact .inr ⟨0, Nat.le_of_ble_eq_true rfl, .inr ⟨m, l, rfl, rfl, hm⟩⟩
  refine AC.of_body dok Tryz.func3 rfl rfl (Nat.le_of_ble_eq_true rfl) ?_
  rcases hv with rfl | rfl
  · conv => whnf
    refine DR.mk ⟨.take 0 (.take 2 (.take 3 (.alt 1 (.alt 4 (.alt 5 (.take 6 (.alt 7 (.take 8 .done) .nil)) .nil) .nil) (.alt 4 (.alt 1 (.alt 5 (.take 6 (.alt 7 (.take 8 .done) .nil)) .nil) (.alt 5 (.take 6 (.alt 1 (.alt 7 (.take 8 .done) .nil) .nil)) .nil)) .nil)))), by decide +kernel, [2], ?_⟩
    rcases ht with ⟨rfl, rfl⟩ | ⟨rfl, rfl⟩ | ⟨m, l, rfl, rfl, hm⟩
    · conv => whnf
      refine And.intro ?_ ?_
      · conv => whnf
        refine (rawG hta 40 (by decide)).mono ?_
        rintro v H' ⟨Lr, hr1, hr2, rfl, rfl⟩
        conv => whnf
        rw [show (if (40 : Int) < 0 then (40 : Int) else 0) = ((0 : Nat) : Int) from rfl]
        refine ⟨by omega, trivial, by omega, by omega, ?_⟩
        rcases Lr with _ | ⟨w, r⟩
        · conv => whnf
          refine (list2 _).mono ?_
          rintro v H' ⟨rfl, rfl⟩
          conv => whnf
          refine (backP (LL := []) (by simp) (by decide) _).mono ?_
          rintro v H' ⟨rfl, rfl⟩
          conv => whnf
          refine aw_rounds dok 1 ?_
          conv => whnf
          refine (known1 _).mono ?_
          rintro v H' ⟨rfl, rfl⟩
          conv => whnf
        · conv => whnf
          have hr : r.length + 1 ≤ 40 := hr1
          refine ⟨len_ints _ _ _, room_small (by omega) (by decide), ?_⟩
          conv => whnf
          rw [List.append_nil]
          have hLL : ∀ x ∈ w :: r, uR x := hr2
          refine (list1 (w :: r) (r.length + 1 + 0) hLL (by omega) (by omega) (p := 3) rfl rfl).mono ?_
          rintro v H' ⟨rfl, rfl⟩
          conv => whnf
          refine (backP (LL := w :: r) hLL (by simp; omega) _).mono ?_
          rintro v H' ⟨rfl, rfl⟩
          conv => whnf
          rw [show (((r.length + 1 : Nat) : Int) != ((r.length + 1 + 0 : Nat) : Int)) = false by simp; try omega]
          conv => whnf
          refine aw_loop dok (fun i : Nat => [(5, .v (.sl 3 0 0 (r.length + 1 + 0) 1)), (6, .v (.sl 4 0 0 (r.length + 1) 1)), (33, i64 ((r.length + 1 : Nat) : Int)), (34, i64 i)]) (fun _ => _) (fun i => i ≤ r.length + 1) (fun i => r.length + 1 - i) 0 ⟨rfl, rfl, rfl, rfl, trivial⟩ rfl (Nat.zero_le _) ?_
          intro i hi
          by_cases c : i < r.length + 1
          · conv => whnf
            rw [decide_eq_true (show (i : Int) < ((r.length + 1 : Nat) : Int) by omega)]; conv => whnf
            refine DR.std (by decide +kernel) ⟨[], ?_⟩
            conv => whnf
            rw [blt_of (show i < r.length + 1 by omega)]; conv => whnf
            rw [show (0 + i) * 1 = i by omega, blt_of (show i < r.length + 1 by omega)]; conv => whnf
            rw [blt_of (show i < r.length + 1 + 0 by omega)]; conv => whnf
            rw [show (0 + i) * 1 = i by omega, blt_of (show i < r.length + 1 + 0 by omega)]; conv => whnf
            rw [same_get]; conv => whnf
            exact ⟨i + 1, c, by show r.length + 1 - (i + 1) < r.length + 1 - i; omega, ⟨rfl, rfl, rfl, gK i (by omega), trivial⟩, rfl⟩
          · conv => whnf
            rw [decide_eq_false (show ¬ (i : Int) < ((r.length + 1 : Nat) : Int) by omega)]; conv => whnf
            refine (known1 _).mono ?_
            rintro v H' ⟨rfl, rfl⟩
            conv => whnf
      · conv => whnf
        refine And.intro ?_ ?_
        · conv => whnf
          refine (rawG hta 40 (by decide)).mono ?_
          rintro v H' ⟨Lr, hr1, hr2, rfl, rfl⟩
          conv => whnf
          rw [show (if (40 : Int) < 0 then (40 : Int) else 0) = ((0 : Nat) : Int) from rfl]
          refine ⟨by omega, trivial, by omega, by omega, ?_⟩
          rcases Lr with _ | ⟨w, r⟩
          · conv => whnf
            refine (list2 _).mono ?_
            rintro v H' ⟨rfl, rfl⟩
            conv => whnf
            refine (backP (LL := []) (by simp) (by decide) _).mono ?_
            rintro v H' ⟨rfl, rfl⟩
            conv => whnf
            refine aw_rounds dok 1 ?_
            conv => whnf
            refine (known1 _).mono ?_
            rintro v H' ⟨rfl, rfl⟩
            conv => whnf
          · conv => whnf
            have hr : r.length + 1 ≤ 40 := hr1
            refine ⟨len_ints _ _ _, room_small (by omega) (by decide), ?_⟩
            conv => whnf
            rw [List.append_nil]
            have hLL : ∀ x ∈ w :: r, uR x := hr2
            refine (list1 (w :: r) (r.length + 1 + 0) hLL (by omega) (by omega) (p := 3) rfl rfl).mono ?_
            rintro v H' ⟨rfl, rfl⟩
            conv => whnf
            refine (backP (LL := w :: r) hLL (by simp; omega) _).mono ?_
            rintro v H' ⟨rfl, rfl⟩
            conv => whnf
            rw [show (((r.length + 1 : Nat) : Int) != ((r.length + 1 + 0 : Nat) : Int)) = false by simp; try omega]
            conv => whnf
            refine aw_loop dok (fun i : Nat => [(5, .v (.sl 3 0 0 (r.length + 1 + 0) 1)), (6, .v (.sl 4 0 0 (r.length + 1) 1)), (33, i64 ((r.length + 1 : Nat) : Int)), (34, i64 i)]) (fun _ => _) (fun i => i ≤ r.length + 1) (fun i => r.length + 1 - i) 0 ⟨rfl, rfl, rfl, rfl, trivial⟩ rfl (Nat.zero_le _) ?_
            intro i hi
            by_cases c : i < r.length + 1
            · conv => whnf
              rw [decide_eq_true (show (i : Int) < ((r.length + 1 : Nat) : Int) by omega)]; conv => whnf
              refine DR.std (by decide +kernel) ⟨[], ?_⟩
              conv => whnf
              rw [blt_of (show i < r.length + 1 by omega)]; conv => whnf
              rw [show (0 + i) * 1 = i by omega, blt_of (show i < r.length + 1 by omega)]; conv => whnf
              rw [blt_of (show i < r.length + 1 + 0 by omega)]; conv => whnf
              rw [show (0 + i) * 1 = i by omega, blt_of (show i < r.length + 1 + 0 by omega)]; conv => whnf
              rw [same_get]; conv => whnf
              exact ⟨i + 1, c, by show r.length + 1 - (i + 1) < r.length + 1 - i; omega, ⟨rfl, rfl, rfl, gK i (by omega), trivial⟩, rfl⟩
            · conv => whnf
              rw [decide_eq_false (show ¬ (i : Int) < ((r.length + 1 : Nat) : Int) by omega)]; conv => whnf
              refine (known1 _).mono ?_
              rintro v H' ⟨rfl, rfl⟩
              conv => whnf
        · conv => whnf
          rw [show (if (40 : Int) < 0 then (40 : Int) else 0) = ((0 : Nat) : Int) from rfl]
          refine ⟨by omega, trivial, by omega, by omega, ?_⟩
          conv => whnf
          refine (rawG hta 40 (by decide)).mono ?_
          rintro v H' ⟨Lr, hr1, hr2, rfl, rfl⟩
          rcases Lr with _ | ⟨w, r⟩
          · conv => whnf
            refine (list2 _).mono ?_
            rintro v H' ⟨rfl, rfl⟩
            conv => whnf
            refine (backP (LL := []) (by simp) (by decide) _).mono ?_
            rintro v H' ⟨rfl, rfl⟩
            conv => whnf
            refine aw_rounds dok 1 ?_
            conv => whnf
            refine (known1 _).mono ?_
            rintro v H' ⟨rfl, rfl⟩
            conv => whnf
          · conv => whnf
            have hr : r.length + 1 ≤ 40 := hr1
            refine ⟨len_ints _ _ _, room_small (by omega) (by decide), ?_⟩
            conv => whnf
            rw [List.append_nil]
            have hLL : ∀ x ∈ w :: r, uR x := hr2
            refine (list1 (w :: r) (r.length + 1 + 0) hLL (by omega) (by omega) (p := 3) rfl rfl).mono ?_
            rintro v H' ⟨rfl, rfl⟩
            conv => whnf
            refine (backP (LL := w :: r) hLL (by simp; omega) _).mono ?_
            rintro v H' ⟨rfl, rfl⟩
            conv => whnf
            rw [show (((r.length + 1 : Nat) : Int) != ((r.length + 1 + 0 : Nat) : Int)) = false by simp; try omega]
            conv => whnf
            refine aw_loop dok (fun i : Nat => [(5, .v (.sl 3 0 0 (r.length + 1 + 0) 1)), (6, .v (.sl 4 0 0 (r.length + 1) 1)), (33, i64 ((r.length + 1 : Nat) : Int)), (34, i64 i)]) (fun _ => _) (fun i => i ≤ r.length + 1) (fun i => r.length + 1 - i) 0 ⟨rfl, rfl, rfl, rfl, trivial⟩ rfl (Nat.zero_le _) ?_
            intro i hi
            by_cases c : i < r.length + 1
            · conv => whnf
              rw [decide_eq_true (show (i : Int) < ((r.length + 1 : Nat) : Int) by omega)]; conv => whnf
              refine DR.std (by decide +kernel) ⟨[], ?_⟩
              conv => whnf
              rw [blt_of (show i < r.length + 1 by omega)]; conv => whnf
              rw [show (0 + i) * 1 = i by omega, blt_of (show i < r.length + 1 by omega)]; conv => whnf
              rw [blt_of (show i < r.length + 1 + 0 by omega)]; conv => whnf
              rw [show (0 + i) * 1 = i by omega, blt_of (show i < r.length + 1 + 0 by omega)]; conv => whnf
              rw [same_get]; conv => whnf
              exact ⟨i + 1, c, by show r.length + 1 - (i + 1) < r.length + 1 - i; omega, ⟨rfl, rfl, rfl, gK i (by omega), trivial⟩, rfl⟩
            · conv => whnf
              rw [decide_eq_false (show ¬ (i : Int) < ((r.length + 1 : Nat) : Int) by omega)]; conv => whnf
              refine (known1 _).mono ?_
              rintro v H' ⟨rfl, rfl⟩
              conv => whnf
    · conv => whnf
      refine And.intro ?_ ?_
      · conv => whnf
        refine (rawG hta 40 (by decide)).mono ?_
        rintro v H' ⟨Lr, hr1, hr2, rfl, rfl⟩
        conv => whnf
        rw [show (if (40 : Int) < 0 then (40 : Int) else 0) = ((0 : Nat) : Int) from rfl]
        refine ⟨by omega, trivial, by omega, by omega, ?_⟩
        rcases Lr with _ | ⟨w, r⟩
        · conv => whnf
          refine (list2 _).mono ?_
          rintro v H' ⟨rfl, rfl⟩
          conv => whnf
          refine (backP (LL := []) (by simp) (by decide) _).mono ?_
          rintro v H' ⟨rfl, rfl⟩
          conv => whnf
          refine aw_rounds dok 1 ?_
          conv => whnf
          refine (known1 _).mono ?_
          rintro v H' ⟨rfl, rfl⟩
          conv => whnf
        · conv => whnf
          have hr : r.length + 1 ≤ 40 := hr1
          refine ⟨len_ints _ _ _, room_small (by omega) (by decide), ?_⟩
          conv => whnf
          rw [List.append_nil]
          have hLL : ∀ x ∈ w :: r, uR x := hr2
          refine (list1 (w :: r) (r.length + 1 + 0) hLL (by omega) (by omega) (p := 3) rfl rfl).mono ?_
          rintro v H' ⟨rfl, rfl⟩
          conv => whnf
          refine (backP (LL := w :: r) hLL (by simp; omega) _).mono ?_
          rintro v H' ⟨rfl, rfl⟩
          conv => whnf
          rw [show (((r.length + 1 : Nat) : Int) != ((r.length + 1 + 0 : Nat) : Int)) = false by simp; try omega]
          conv => whnf
          refine aw_loop dok (fun i : Nat => [(5, .v (.sl 3 0 0 (r.length + 1 + 0) 1)), (6, .v (.sl 4 0 0 (r.length + 1) 1)), (33, i64 ((r.length + 1 : Nat) : Int)), (34, i64 i)]) (fun _ => _) (fun i => i ≤ r.length + 1) (fun i => r.length + 1 - i) 0 ⟨rfl, rfl, rfl, rfl, trivial⟩ rfl (Nat.zero_le _) ?_
          intro i hi
          by_cases c : i < r.length + 1
          · conv => whnf
            rw [decide_eq_true (show (i : Int) < ((r.length + 1 : Nat) : Int) by omega)]; conv => whnf
            refine DR.std (by decide +kernel) ⟨[], ?_⟩
            conv => whnf
            rw [blt_of (show i < r.length + 1 by omega)]; conv => whnf
            rw [show (0 + i) * 1 = i by omega, blt_of (show i < r.length + 1 by omega)]; conv => whnf
            rw [blt_of (show i < r.length + 1 + 0 by omega)]; conv => whnf
            rw [show (0 + i) * 1 = i by omega, blt_of (show i < r.length + 1 + 0 by omega)]; conv => whnf
            rw [same_get]; conv => whnf
            exact ⟨i + 1, c, by show r.length + 1 - (i + 1) < r.length + 1 - i; omega, ⟨rfl, rfl, rfl, gK i (by omega), trivial⟩, rfl⟩
          · conv => whnf
            rw [decide_eq_false (show ¬ (i : Int) < ((r.length + 1 : Nat) : Int) by omega)]; conv => whnf
            refine (known1 _).mono ?_
            rintro v H' ⟨rfl, rfl⟩
            conv => whnf
      · conv => whnf
        refine And.intro ?_ ?_
        · conv => whnf
          refine (rawG hta 40 (by decide)).mono ?_
          rintro v H' ⟨Lr, hr1, hr2, rfl, rfl⟩
          conv => whnf
          rw [show (if (40 : Int) < 0 then (40 : Int) else 0) = ((0 : Nat) : Int) from rfl]
          refine ⟨by omega, trivial, by omega, by omega, ?_⟩
          rcases Lr with _ | ⟨w, r⟩
          · conv => whnf
            refine (list2 _).mono ?_
            rintro v H' ⟨rfl, rfl⟩
            conv => whnf
            refine (backP (LL := []) (by simp) (by decide) _).mono ?_
            rintro v H' ⟨rfl, rfl⟩
            conv => whnf
            refine aw_rounds dok 1 ?_
            conv => whnf
            refine (known1 _).mono ?_
            rintro v H' ⟨rfl, rfl⟩
            conv => whnf
          · conv => whnf
            have hr : r.length + 1 ≤ 40 := hr1
            refine ⟨len_ints _ _ _, room_small (by omega) (by decide), ?_⟩
            conv => whnf
            rw [List.append_nil]
            have hLL : ∀ x ∈ w :: r, uR x := hr2
            refine (list1 (w :: r) (r.length + 1 + 0) hLL (by omega) (by omega) (p := 3) rfl rfl).mono ?_
            rintro v H' ⟨rfl, rfl⟩
            conv => whnf
            refine (backP (LL := w :: r) hLL (by simp; omega) _).mono ?_
            rintro v H' ⟨rfl, rfl⟩
            conv => whnf
            rw [show (((r.length + 1 : Nat) : Int) != ((r.length + 1 + 0 : Nat) : Int)) = false by simp; try omega]
            conv => whnf
            refine aw_loop dok (fun i : Nat => [(5, .v (.sl 3 0 0 (r.length + 1 + 0) 1)), (6, .v (.sl 4 0 0 (r.length + 1) 1)), (33, i64 ((r.length + 1 : Nat) : Int)), (34, i64 i)]) (fun _ => _) (fun i => i ≤ r.length + 1) (fun i => r.length + 1 - i) 0 ⟨rfl, rfl, rfl, rfl, trivial⟩ rfl (Nat.zero_le _) ?_
            intro i hi
            by_cases c : i < r.length + 1
            · conv => whnf
              rw [decide_eq_true (show (i : Int) < ((r.length + 1 : Nat) : Int) by omega)]; conv => whnf
              refine DR.std (by decide +kernel) ⟨[], ?_⟩
              conv => whnf
              rw [blt_of (show i < r.length + 1 by omega)]; conv => whnf
              rw [show (0 + i) * 1 = i by omega, blt_of (show i < r.length + 1 by omega)]; conv => whnf
              rw [blt_of (show i < r.length + 1 + 0 by omega)]; conv => whnf
              rw [show (0 + i) * 1 = i by omega, blt_of (show i < r.length + 1 + 0 by omega)]; conv => whnf
              rw [same_get]; conv => whnf
              exact ⟨i + 1, c, by show r.length + 1 - (i + 1) < r.length + 1 - i; omega, ⟨rfl, rfl, rfl, gK i (by omega), trivial⟩, rfl⟩
            · conv => whnf
              rw [decide_eq_false (show ¬ (i : Int) < ((r.length + 1 : Nat) : Int) by omega)]; conv => whnf
              refine (known1 _).mono ?_
              rintro v H' ⟨rfl, rfl⟩
              conv => whnf
        · conv => whnf
          rw [show (if (40 : Int) < 0 then (40 : Int) else 0) = ((0 : Nat) : Int) from rfl]
          refine ⟨by omega, trivial, by omega, by omega, ?_⟩
          conv => whnf
          refine (rawG hta 40 (by decide)).mono ?_
          rintro v H' ⟨Lr, hr1, hr2, rfl, rfl⟩
          rcases Lr with _ | ⟨w, r⟩
          · conv => whnf
            refine (list2 _).mono ?_
            rintro v H' ⟨rfl, rfl⟩
            conv => whnf
            refine (backP (LL := []) (by simp) (by decide) _).mono ?_
            rintro v H' ⟨rfl, rfl⟩
            conv => whnf
            refine aw_rounds dok 1 ?_
            conv => whnf
            refine (known1 _).mono ?_
            rintro v H' ⟨rfl, rfl⟩
            conv => whnf
          · conv => whnf
            have hr : r.length + 1 ≤ 40 := hr1
            refine ⟨len_ints _ _ _, room_small (by omega) (by decide), ?_⟩
            conv => whnf
            rw [List.append_nil]
            have hLL : ∀ x ∈ w :: r, uR x := hr2
            refine (list1 (w :: r) (r.length + 1 + 0) hLL (by omega) (by omega) (p := 3) rfl rfl).mono ?_
            rintro v H' ⟨rfl, rfl⟩
            conv => whnf
            refine (backP (LL := w :: r) hLL (by simp; omega) _).mono ?_
            rintro v H' ⟨rfl, rfl⟩
            conv => whnf
            rw [show (((r.length + 1 : Nat) : Int) != ((r.length + 1 + 0 : Nat) : Int)) = false by simp; try omega]
            conv => whnf
            refine aw_loop dok (fun i : Nat => [(5, .v (.sl 3 0 0 (r.length + 1 + 0) 1)), (6, .v (.sl 4 0 0 (r.length + 1) 1)), (33, i64 ((r.length + 1 : Nat) : Int)), (34, i64 i)]) (fun _ => _) (fun i => i ≤ r.length + 1) (fun i => r.length + 1 - i) 0 ⟨rfl, rfl, rfl, rfl, trivial⟩ rfl (Nat.zero_le _) ?_
            intro i hi
            by_cases c : i < r.length + 1
            · conv => whnf
              rw [decide_eq_true (show (i : Int) < ((r.length + 1 : Nat) : Int) by omega)]; conv => whnf
              refine DR.std (by decide +kernel) ⟨[], ?_⟩
              conv => whnf
              rw [blt_of (show i < r.length + 1 by omega)]; conv => whnf
              rw [show (0 + i) * 1 = i by omega, blt_of (show i < r.length + 1 by omega)]; conv => whnf
              rw [blt_of (show i < r.length + 1 + 0 by omega)]; conv => whnf
              rw [show (0 + i) * 1 = i by omega, blt_of (show i < r.length + 1 + 0 by omega)]; conv => whnf
              rw [same_get]; conv => whnf
              exact ⟨i + 1, c, by show r.length + 1 - (i + 1) < r.length + 1 - i; omega, ⟨rfl, rfl, rfl, gK i (by omega), trivial⟩, rfl⟩
            · conv => whnf
              rw [decide_eq_false (show ¬ (i : Int) < ((r.length + 1 : Nat) : Int) by omega)]; conv => whnf
              refine (known1 _).mono ?_
              rintro v H' ⟨rfl, rfl⟩
              conv => whnf
    · conv => whnf
      refine And.intro ?_ ?_
      · conv => whnf
        refine (rawG hta 40 (by decide)).mono ?_
        rintro v H' ⟨Lr, hr1, hr2, rfl, rfl⟩
        conv => whnf
        rw [show (if (40 : Int) < 0 then (40 : Int) else 0) = ((0 : Nat) : Int) from rfl]
        refine ⟨by omega, trivial, by omega, by omega, ?_⟩
        rcases Lr with _ | ⟨w, r⟩
        · conv => whnf
          refine (list2 _).mono ?_
          rintro v H' ⟨rfl, rfl⟩
          conv => whnf
          refine (backP (LL := []) (by simp) (by decide) _).mono ?_
          rintro v H' ⟨rfl, rfl⟩
          conv => whnf
          refine aw_rounds dok 1 ?_
          conv => whnf
          refine (known1 _).mono ?_
          rintro v H' ⟨rfl, rfl⟩
          conv => whnf
        · conv => whnf
          have hr : r.length + 1 ≤ 40 := hr1
          refine ⟨len_ints _ _ _, room_small (by omega) (by decide), ?_⟩
          conv => whnf
          rw [List.append_nil]
          have hLL : ∀ x ∈ w :: r, uR x := hr2
          refine (list1 (w :: r) (r.length + 1 + 0) hLL (by omega) (by omega) (p := 3) rfl rfl).mono ?_
          rintro v H' ⟨rfl, rfl⟩
          conv => whnf
          refine (backP (LL := w :: r) hLL (by simp; omega) _).mono ?_
          rintro v H' ⟨rfl, rfl⟩
          conv => whnf
          rw [show (((r.length + 1 : Nat) : Int) != ((r.length + 1 + 0 : Nat) : Int)) = false by simp; try omega]
          conv => whnf
          refine aw_loop dok (fun i : Nat => [(5, .v (.sl 3 0 0 (r.length + 1 + 0) 1)), (6, .v (.sl 4 0 0 (r.length + 1) 1)), (33, i64 ((r.length + 1 : Nat) : Int)), (34, i64 i)]) (fun _ => _) (fun i => i ≤ r.length + 1) (fun i => r.length + 1 - i) 0 ⟨rfl, rfl, rfl, rfl, trivial⟩ rfl (Nat.zero_le _) ?_
          intro i hi
          by_cases c : i < r.length + 1
          · conv => whnf
            rw [decide_eq_true (show (i : Int) < ((r.length + 1 : Nat) : Int) by omega)]; conv => whnf
            refine DR.std (by decide +kernel) ⟨[], ?_⟩
            conv => whnf
            rw [blt_of (show i < r.length + 1 by omega)]; conv => whnf
            rw [show (0 + i) * 1 = i by omega, blt_of (show i < r.length + 1 by omega)]; conv => whnf
            rw [blt_of (show i < r.length + 1 + 0 by omega)]; conv => whnf
            rw [show (0 + i) * 1 = i by omega, blt_of (show i < r.length + 1 + 0 by omega)]; conv => whnf
            rw [same_get]; conv => whnf
            exact ⟨i + 1, c, by show r.length + 1 - (i + 1) < r.length + 1 - i; omega, ⟨rfl, rfl, rfl, gK i (by omega), trivial⟩, rfl⟩
          · conv => whnf
            rw [decide_eq_false (show ¬ (i : Int) < ((r.length + 1 : Nat) : Int) by omega)]; conv => whnf
            refine (known1 _).mono ?_
            rintro v H' ⟨rfl, rfl⟩
            conv => whnf
      · conv => whnf
        refine And.intro ?_ ?_
        · conv => whnf
          refine (rawG hta 40 (by decide)).mono ?_
          rintro v H' ⟨Lr, hr1, hr2, rfl, rfl⟩
          conv => whnf
          rw [show (if (40 : Int) < 0 then (40 : Int) else 0) = ((0 : Nat) : Int) from rfl]
          refine ⟨by omega, trivial, by omega, by omega, ?_⟩
          rcases Lr with _ | ⟨w, r⟩
          · conv => whnf
            refine (list2 _).mono ?_
            rintro v H' ⟨rfl, rfl⟩
            conv => whnf
            refine (backP (LL := []) (by simp) (by decide) _).mono ?_
            rintro v H' ⟨rfl, rfl⟩
            conv => whnf
            refine aw_rounds dok 1 ?_
            conv => whnf
            refine (known1 _).mono ?_
            rintro v H' ⟨rfl, rfl⟩
            conv => whnf
          · conv => whnf
            have hr : r.length + 1 ≤ 40 := hr1
            refine ⟨len_ints _ _ _, room_small (by omega) (by decide), ?_⟩
            conv => whnf
            rw [List.append_nil]
            have hLL : ∀ x ∈ w :: r, uR x := hr2
            refine (list1 (w :: r) (r.length + 1 + 0) hLL (by omega) (by omega) (p := 3) rfl rfl).mono ?_
            rintro v H' ⟨rfl, rfl⟩
            conv => whnf
            refine (backP (LL := w :: r) hLL (by simp; omega) _).mono ?_
            rintro v H' ⟨rfl, rfl⟩
            conv => whnf
            rw [show (((r.length + 1 : Nat) : Int) != ((r.length + 1 + 0 : Nat) : Int)) = false by simp; try omega]
            conv => whnf
            refine aw_loop dok (fun i : Nat => [(5, .v (.sl 3 0 0 (r.length + 1 + 0) 1)), (6, .v (.sl 4 0 0 (r.length + 1) 1)), (33, i64 ((r.length + 1 : Nat) : Int)), (34, i64 i)]) (fun _ => _) (fun i => i ≤ r.length + 1) (fun i => r.length + 1 - i) 0 ⟨rfl, rfl, rfl, rfl, trivial⟩ rfl (Nat.zero_le _) ?_
            intro i hi
            by_cases c : i < r.length + 1
            · conv => whnf
              rw [decide_eq_true (show (i : Int) < ((r.length + 1 : Nat) : Int) by omega)]; conv => whnf
              refine DR.std (by decide +kernel) ⟨[], ?_⟩
              conv => whnf
              rw [blt_of (show i < r.length + 1 by omega)]; conv => whnf
              rw [show (0 + i) * 1 = i by omega, blt_of (show i < r.length + 1 by omega)]; conv => whnf
              rw [blt_of (show i < r.length + 1 + 0 by omega)]; conv => whnf
              rw [show (0 + i) * 1 = i by omega, blt_of (show i < r.length + 1 + 0 by omega)]; conv => whnf
              rw [same_get]; conv => whnf
              exact ⟨i + 1, c, by show r.length + 1 - (i + 1) < r.length + 1 - i; omega, ⟨rfl, rfl, rfl, gK i (by omega), trivial⟩, rfl⟩
            · conv => whnf
              rw [decide_eq_false (show ¬ (i : Int) < ((r.length + 1 : Nat) : Int) by omega)]; conv => whnf
              refine (known1 _).mono ?_
              rintro v H' ⟨rfl, rfl⟩
              conv => whnf
        · conv => whnf
          rw [show (if (40 : Int) < 0 then (40 : Int) else 0) = ((0 : Nat) : Int) from rfl]
          refine ⟨by omega, trivial, by omega, by omega, ?_⟩
          conv => whnf
          refine (rawG hta 40 (by decide)).mono ?_
          rintro v H' ⟨Lr, hr1, hr2, rfl, rfl⟩
          rcases Lr with _ | ⟨w, r⟩
          · conv => whnf
            refine (list2 _).mono ?_
            rintro v H' ⟨rfl, rfl⟩
            conv => whnf
            refine (backP (LL := []) (by simp) (by decide) _).mono ?_
            rintro v H' ⟨rfl, rfl⟩
            conv => whnf
            refine aw_rounds dok 1 ?_
            conv => whnf
            refine (known1 _).mono ?_
            rintro v H' ⟨rfl, rfl⟩
            conv => whnf
          · conv => whnf
            have hr : r.length + 1 ≤ 40 := hr1
            refine ⟨len_ints _ _ _, room_small (by omega) (by decide), ?_⟩
            conv => whnf
            rw [List.append_nil]
            have hLL : ∀ x ∈ w :: r, uR x := hr2
            refine (list1 (w :: r) (r.length + 1 + 0) hLL (by omega) (by omega) (p := 3) rfl rfl).mono ?_
            rintro v H' ⟨rfl, rfl⟩
            conv => whnf
            refine (backP (LL := w :: r) hLL (by simp; omega) _).mono ?_
            rintro v H' ⟨rfl, rfl⟩
            conv => whnf
            rw [show (((r.length + 1 : Nat) : Int) != ((r.length + 1 + 0 : Nat) : Int)) = false by simp; try omega]
            conv => whnf
            refine aw_loop dok (fun i : Nat => [(5, .v (.sl 3 0 0 (r.length + 1 + 0) 1)), (6, .v (.sl 4 0 0 (r.length + 1) 1)), (33, i64 ((r.length + 1 : Nat) : Int)), (34, i64 i)]) (fun _ => _) (fun i => i ≤ r.length + 1) (fun i => r.length + 1 - i) 0 ⟨rfl, rfl, rfl, rfl, trivial⟩ rfl (Nat.zero_le _) ?_
            intro i hi
            by_cases c : i < r.length + 1
            · conv => whnf
              rw [decide_eq_true (show (i : Int) < ((r.length + 1 : Nat) : Int) by omega)]; conv => whnf
              refine DR.std (by decide +kernel) ⟨[], ?_⟩
              conv => whnf
              rw [blt_of (show i < r.length + 1 by omega)]; conv => whnf
              rw [show (0 + i) * 1 = i by omega, blt_of (show i < r.length + 1 by omega)]; conv => whnf
              rw [blt_of (show i < r.length + 1 + 0 by omega)]; conv => whnf
              rw [show (0 + i) * 1 = i by omega, blt_of (show i < r.length + 1 + 0 by omega)]; conv => whnf
              rw [same_get]; conv => whnf
              exact ⟨i + 1, c, by show r.length + 1 - (i + 1) < r.length + 1 - i; omega, ⟨rfl, rfl, rfl, gK i (by omega), trivial⟩, rfl⟩
            · conv => whnf
              rw [decide_eq_false (show ¬ (i : Int) < ((r.length + 1 : Nat) : Int) by omega)]; conv => whnf
              refine (known1 _).mono ?_
              rintro v H' ⟨rfl, rfl⟩
              conv => whnf
  · conv => whnf
    refine DR.mk ⟨.take 0 (.take 2 (.take 3 (.alt 1 (.alt 4 (.alt 5 (.take 6 (.alt 7 (.take 8 .done) .nil)) .nil) .nil) (.alt 4 (.alt 1 (.alt 5 (.take 6 (.alt 7 (.take 8 .done) .nil)) .nil) (.alt 5 (.take 6 (.alt 1 (.alt 7 (.take 8 .done) .nil) .nil)) .nil)) .nil)))), by decide +kernel, [2], ?_⟩
    rcases ht with ⟨rfl, rfl⟩ | ⟨rfl, rfl⟩ | ⟨m, l, rfl, rfl, hm⟩
    · conv => whnf
      refine And.intro ?_ ?_
      · conv => whnf
        refine (rawG hta 40 (by decide)).mono ?_
        rintro v H' ⟨Lr, hr1, hr2, rfl, rfl⟩
        conv => whnf
        rw [show (if (40 : Int) < ((0 : Nat) : Int) then (40 : Int) else ((0 : Nat) : Int)) = ((0 : Nat) : Int) from rfl]
        refine ⟨by omega, trivial, by omega, by omega, ?_⟩
        rw [Int.toNat_natCast]
        rcases Lr with _ | ⟨w, r⟩
        · conv => whnf
          refine (list2 _).mono ?_
          rintro v H' ⟨rfl, rfl⟩
          conv => whnf
          refine (backP (LL := []) (by simp) (by decide) _).mono ?_
          rintro v H' ⟨rfl, rfl⟩
          conv => whnf
          refine aw_rounds dok 1 ?_
          conv => whnf
          refine (known1 _).mono ?_
          rintro v H' ⟨rfl, rfl⟩
          conv => whnf
        · conv => whnf
          have hr : r.length + 1 ≤ 40 := hr1
          refine ⟨len_ints _ _ _, room_small (by omega) (by decide), ?_⟩
          conv => whnf
          rw [List.append_nil]
          have hLL : ∀ x ∈ w :: r, uR x := hr2
          refine (list1 (w :: r) (r.length + 1 + 0) hLL (by omega) (by omega) (p := 3) rfl rfl).mono ?_
          rintro v H' ⟨rfl, rfl⟩
          conv => whnf
          refine (backP (LL := w :: r) hLL (by simp; omega) _).mono ?_
          rintro v H' ⟨rfl, rfl⟩
          conv => whnf
          rw [show (((r.length + 1 : Nat) : Int) != ((r.length + 1 + 0 : Nat) : Int)) = false by simp; try omega]
          conv => whnf
          refine aw_loop dok (fun i : Nat => [(5, .v (.sl 3 0 0 (r.length + 1 + 0) 1)), (6, .v (.sl 4 0 0 (r.length + 1) 1)), (33, i64 ((r.length + 1 : Nat) : Int)), (34, i64 i)]) (fun _ => _) (fun i => i ≤ r.length + 1) (fun i => r.length + 1 - i) 0 ⟨rfl, rfl, rfl, rfl, trivial⟩ rfl (Nat.zero_le _) ?_
          intro i hi
          by_cases c : i < r.length + 1
          · conv => whnf
            rw [decide_eq_true (show (i : Int) < ((r.length + 1 : Nat) : Int) by omega)]; conv => whnf
            refine DR.std (by decide +kernel) ⟨[], ?_⟩
            conv => whnf
            rw [blt_of (show i < r.length + 1 by omega)]; conv => whnf
            rw [show (0 + i) * 1 = i by omega, blt_of (show i < r.length + 1 by omega)]; conv => whnf
            rw [blt_of (show i < r.length + 1 + 0 by omega)]; conv => whnf
            rw [show (0 + i) * 1 = i by omega, blt_of (show i < r.length + 1 + 0 by omega)]; conv => whnf
            rw [same_get]; conv => whnf
            exact ⟨i + 1, c, by show r.length + 1 - (i + 1) < r.length + 1 - i; omega, ⟨rfl, rfl, rfl, gK i (by omega), trivial⟩, rfl⟩
          · conv => whnf
            rw [decide_eq_false (show ¬ (i : Int) < ((r.length + 1 : Nat) : Int) by omega)]; conv => whnf
            refine (known1 _).mono ?_
            rintro v H' ⟨rfl, rfl⟩
            conv => whnf
      · conv => whnf
        refine And.intro ?_ ?_
        · conv => whnf
          refine (rawG hta 40 (by decide)).mono ?_
          rintro v H' ⟨Lr, hr1, hr2, rfl, rfl⟩
          conv => whnf
          rw [show (if (40 : Int) < ((0 : Nat) : Int) then (40 : Int) else ((0 : Nat) : Int)) = ((0 : Nat) : Int) from rfl]
          refine ⟨by omega, trivial, by omega, by omega, ?_⟩
          rw [Int.toNat_natCast]
          rcases Lr with _ | ⟨w, r⟩
          · conv => whnf
            refine (list2 _).mono ?_
            rintro v H' ⟨rfl, rfl⟩
            conv => whnf
            refine (backP (LL := []) (by simp) (by decide) _).mono ?_
            rintro v H' ⟨rfl, rfl⟩
            conv => whnf
            refine aw_rounds dok 1 ?_
            conv => whnf
            refine (known1 _).mono ?_
            rintro v H' ⟨rfl, rfl⟩
            conv => whnf
          · conv => whnf
            have hr : r.length + 1 ≤ 40 := hr1
            refine ⟨len_ints _ _ _, room_small (by omega) (by decide), ?_⟩
            conv => whnf
            rw [List.append_nil]
            have hLL : ∀ x ∈ w :: r, uR x := hr2
            refine (list1 (w :: r) (r.length + 1 + 0) hLL (by omega) (by omega) (p := 3) rfl rfl).mono ?_
            rintro v H' ⟨rfl, rfl⟩
            conv => whnf
            refine (backP (LL := w :: r) hLL (by simp; omega) _).mono ?_
            rintro v H' ⟨rfl, rfl⟩
            conv => whnf
            rw [show (((r.length + 1 : Nat) : Int) != ((r.length + 1 + 0 : Nat) : Int)) = false by simp; try omega]
            conv => whnf
            refine aw_loop dok (fun i : Nat => [(5, .v (.sl 3 0 0 (r.length + 1 + 0) 1)), (6, .v (.sl 4 0 0 (r.length + 1) 1)), (33, i64 ((r.length + 1 : Nat) : Int)), (34, i64 i)]) (fun _ => _) (fun i => i ≤ r.length + 1) (fun i => r.length + 1 - i) 0 ⟨rfl, rfl, rfl, rfl, trivial⟩ rfl (Nat.zero_le _) ?_
            intro i hi
            by_cases c : i < r.length + 1
            · conv => whnf
              rw [decide_eq_true (show (i : Int) < ((r.length + 1 : Nat) : Int) by omega)]; conv => whnf
              refine DR.std (by decide +kernel) ⟨[], ?_⟩
              conv => whnf
              rw [blt_of (show i < r.length + 1 by omega)]; conv => whnf
              rw [show (0 + i) * 1 = i by omega, blt_of (show i < r.length + 1 by omega)]; conv => whnf
              rw [blt_of (show i < r.length + 1 + 0 by omega)]; conv => whnf
              rw [show (0 + i) * 1 = i by omega, blt_of (show i < r.length + 1 + 0 by omega)]; conv => whnf
              rw [same_get]; conv => whnf
              exact ⟨i + 1, c, by show r.length + 1 - (i + 1) < r.length + 1 - i; omega, ⟨rfl, rfl, rfl, gK i (by omega), trivial⟩, rfl⟩
            · conv => whnf
              rw [decide_eq_false (show ¬ (i : Int) < ((r.length + 1 : Nat) : Int) by omega)]; conv => whnf
              refine (known1 _).mono ?_
              rintro v H' ⟨rfl, rfl⟩
              conv => whnf
        · conv => whnf
          rw [show (if (40 : Int) < ((0 : Nat) : Int) then (40 : Int) else ((0 : Nat) : Int)) = ((0 : Nat) : Int) from rfl]
          refine ⟨by omega, trivial, by omega, by omega, ?_⟩
          rw [Int.toNat_natCast]
          conv => whnf
          refine (rawG hta 40 (by decide)).mono ?_
          rintro v H' ⟨Lr, hr1, hr2, rfl, rfl⟩
          rcases Lr with _ | ⟨w, r⟩
          · conv => whnf
            refine (list2 _).mono ?_
            rintro v H' ⟨rfl, rfl⟩
            conv => whnf
            refine (backP (LL := []) (by simp) (by decide) _).mono ?_
            rintro v H' ⟨rfl, rfl⟩
            conv => whnf
            refine aw_rounds dok 1 ?_
            conv => whnf
            refine (known1 _).mono ?_
            rintro v H' ⟨rfl, rfl⟩
            conv => whnf
          · conv => whnf
            have hr : r.length + 1 ≤ 40 := hr1
            refine ⟨len_ints _ _ _, room_small (by omega) (by decide), ?_⟩
            conv => whnf
            rw [List.append_nil]
            have hLL : ∀ x ∈ w :: r, uR x := hr2
            refine (list1 (w :: r) (r.length + 1 + 0) hLL (by omega) (by omega) (p := 3) rfl rfl).mono ?_
            rintro v H' ⟨rfl, rfl⟩
            conv => whnf
            refine (backP (LL := w :: r) hLL (by simp; omega) _).mono ?_
            rintro v H' ⟨rfl, rfl⟩
            conv => whnf
            rw [show (((r.length + 1 : Nat) : Int) != ((r.length + 1 + 0 : Nat) : Int)) = false by simp; try omega]
            conv => whnf
            refine aw_loop dok (fun i : Nat => [(5, .v (.sl 3 0 0 (r.length + 1 + 0) 1)), (6, .v (.sl 4 0 0 (r.length + 1) 1)), (33, i64 ((r.length + 1 : Nat) : Int)), (34, i64 i)]) (fun _ => _) (fun i => i ≤ r.length + 1) (fun i => r.length + 1 - i) 0 ⟨rfl, rfl, rfl, rfl, trivial⟩ rfl (Nat.zero_le _) ?_
            intro i hi
            by_cases c : i < r.length + 1
            · conv => whnf
              rw [decide_eq_true (show (i : Int) < ((r.length + 1 : Nat) : Int) by omega)]; conv => whnf
              refine DR.std (by decide +kernel) ⟨[], ?_⟩
              conv => whnf
              rw [blt_of (show i < r.length + 1 by omega)]; conv => whnf
              rw [show (0 + i) * 1 = i by omega, blt_of (show i < r.length + 1 by omega)]; conv => whnf
              rw [blt_of (show i < r.length + 1 + 0 by omega)]; conv => whnf
              rw [show (0 + i) * 1 = i by omega, blt_of (show i < r.length + 1 + 0 by omega)]; conv => whnf
              rw [same_get]; conv => whnf
              exact ⟨i + 1, c, by show r.length + 1 - (i + 1) < r.length + 1 - i; omega, ⟨rfl, rfl, rfl, gK i (by omega), trivial⟩, rfl⟩
            · conv => whnf
              rw [decide_eq_false (show ¬ (i : Int) < ((r.length + 1 : Nat) : Int) by omega)]; conv => whnf
              refine (known1 _).mono ?_
              rintro v H' ⟨rfl, rfl⟩
              conv => whnf
    · conv => whnf
      refine And.intro ?_ ?_
      · conv => whnf
        refine (rawG hta 40 (by decide)).mono ?_
        rintro v H' ⟨Lr, hr1, hr2, rfl, rfl⟩
        conv => whnf
        rw [show (if (40 : Int) < ((0 : Nat) : Int) then (40 : Int) else ((0 : Nat) : Int)) = ((0 : Nat) : Int) from rfl]
        refine ⟨by omega, trivial, by omega, by omega, ?_⟩
        rw [Int.toNat_natCast]
        rcases Lr with _ | ⟨w, r⟩
        · conv => whnf
          refine (list2 _).mono ?_
          rintro v H' ⟨rfl, rfl⟩
          conv => whnf
          refine (backP (LL := []) (by simp) (by decide) _).mono ?_
          rintro v H' ⟨rfl, rfl⟩
          conv => whnf
          refine aw_rounds dok 1 ?_
          conv => whnf
          refine (known1 _).mono ?_
          rintro v H' ⟨rfl, rfl⟩
          conv => whnf
        · conv => whnf
          have hr : r.length + 1 ≤ 40 := hr1
          refine ⟨len_ints _ _ _, room_small (by omega) (by decide), ?_⟩
          conv => whnf
          rw [List.append_nil]
          have hLL : ∀ x ∈ w :: r, uR x := hr2
          refine (list1 (w :: r) (r.length + 1 + 0) hLL (by omega) (by omega) (p := 3) rfl rfl).mono ?_
          rintro v H' ⟨rfl, rfl⟩
          conv => whnf
          refine (backP (LL := w :: r) hLL (by simp; omega) _).mono ?_
          rintro v H' ⟨rfl, rfl⟩
          conv => whnf
          rw [show (((r.length + 1 : Nat) : Int) != ((r.length + 1 + 0 : Nat) : Int)) = false by simp; try omega]
          conv => whnf
          refine aw_loop dok (fun i : Nat => [(5, .v (.sl 3 0 0 (r.length + 1 + 0) 1)), (6, .v (.sl 4 0 0 (r.length + 1) 1)), (33, i64 ((r.length + 1 : Nat) : Int)), (34, i64 i)]) (fun _ => _) (fun i => i ≤ r.length + 1) (fun i => r.length + 1 - i) 0 ⟨rfl, rfl, rfl, rfl, trivial⟩ rfl (Nat.zero_le _) ?_
          intro i hi
          by_cases c : i < r.length + 1
          · conv => whnf
            rw [decide_eq_true (show (i : Int) < ((r.length + 1 : Nat) : Int) by omega)]; conv => whnf
            refine DR.std (by decide +kernel) ⟨[], ?_⟩
            conv => whnf
            rw [blt_of (show i < r.length + 1 by omega)]; conv => whnf
            rw [show (0 + i) * 1 = i by omega, blt_of (show i < r.length + 1 by omega)]; conv => whnf
            rw [blt_of (show i < r.length + 1 + 0 by omega)]; conv => whnf
            rw [show (0 + i) * 1 = i by omega, blt_of (show i < r.length + 1 + 0 by omega)]; conv => whnf
            rw [same_get]; conv => whnf
            exact ⟨i + 1, c, by show r.length + 1 - (i + 1) < r.length + 1 - i; omega, ⟨rfl, rfl, rfl, gK i (by omega), trivial⟩, rfl⟩
          · conv => whnf
            rw [decide_eq_false (show ¬ (i : Int) < ((r.length + 1 : Nat) : Int) by omega)]; conv => whnf
            refine (known1 _).mono ?_
            rintro v H' ⟨rfl, rfl⟩
            conv => whnf
      · conv => whnf
        refine And.intro ?_ ?_
        · conv => whnf
          refine (rawG hta 40 (by decide)).mono ?_
          rintro v H' ⟨Lr, hr1, hr2, rfl, rfl⟩
          conv => whnf
          rw [show (if (40 : Int) < ((0 : Nat) : Int) then (40 : Int) else ((0 : Nat) : Int)) = ((0 : Nat) : Int) from rfl]
          refine ⟨by omega, trivial, by omega, by omega, ?_⟩
          rw [Int.toNat_natCast]
          rcases Lr with _ | ⟨w, r⟩
          · conv => whnf
            refine (list2 _).mono ?_
            rintro v H' ⟨rfl, rfl⟩
            conv => whnf
            refine (backP (LL := []) (by simp) (by decide) _).mono ?_
            rintro v H' ⟨rfl, rfl⟩
            conv => whnf
            refine aw_rounds dok 1 ?_
            conv => whnf
            refine (known1 _).mono ?_
            rintro v H' ⟨rfl, rfl⟩
            conv => whnf
          · conv => whnf
            have hr : r.length + 1 ≤ 40 := hr1
            refine ⟨len_ints _ _ _, room_small (by omega) (by decide), ?_⟩
            conv => whnf
            rw [List.append_nil]
            have hLL : ∀ x ∈ w :: r, uR x := hr2
            refine (list1 (w :: r) (r.length + 1 + 0) hLL (by omega) (by omega) (p := 3) rfl rfl).mono ?_
            rintro v H' ⟨rfl, rfl⟩
            conv => whnf
            refine (backP (LL := w :: r) hLL (by simp; omega) _).mono ?_
            rintro v H' ⟨rfl, rfl⟩
            conv => whnf
            rw [show (((r.length + 1 : Nat) : Int) != ((r.length + 1 + 0 : Nat) : Int)) = false by simp; try omega]
            conv => whnf
            refine aw_loop dok (fun i : Nat => [(5, .v (.sl 3 0 0 (r.length + 1 + 0) 1)), (6, .v (.sl 4 0 0 (r.length + 1) 1)), (33, i64 ((r.length + 1 : Nat) : Int)), (34, i64 i)]) (fun _ => _) (fun i => i ≤ r.length + 1) (fun i => r.length + 1 - i) 0 ⟨rfl, rfl, rfl, rfl, trivial⟩ rfl (Nat.zero_le _) ?_
            intro i hi
            by_cases c : i < r.length + 1
            · conv => whnf
              rw [decide_eq_true (show (i : Int) < ((r.length + 1 : Nat) : Int) by omega)]; conv => whnf
              refine DR.std (by decide +kernel) ⟨[], ?_⟩
              conv => whnf
              rw [blt_of (show i < r.length + 1 by omega)]; conv => whnf
              rw [show (0 + i) * 1 = i by omega, blt_of (show i < r.length + 1 by omega)]; conv => whnf
              rw [blt_of (show i < r.length + 1 + 0 by omega)]; conv => whnf
              rw [show (0 + i) * 1 = i by omega, blt_of (show i < r.length + 1 + 0 by omega)]; conv => whnf
              rw [same_get]; conv => whnf
              exact ⟨i + 1, c, by show r.length + 1 - (i + 1) < r.length + 1 - i; omega, ⟨rfl, rfl, rfl, gK i (by omega), trivial⟩, rfl⟩
            · conv => whnf
              rw [decide_eq_false (show ¬ (i : Int) < ((r.length + 1 : Nat) : Int) by omega)]; conv => whnf
              refine (known1 _).mono ?_
              rintro v H' ⟨rfl, rfl⟩
              conv => whnf
        · conv => whnf
          rw [show (if (40 : Int) < ((0 : Nat) : Int) then (40 : Int) else ((0 : Nat) : Int)) = ((0 : Nat) : Int) from rfl]
          refine ⟨by omega, trivial, by omega, by omega, ?_⟩
          rw [Int.toNat_natCast]
          conv => whnf
          refine (rawG hta 40 (by decide)).mono ?_
          rintro v H' ⟨Lr, hr1, hr2, rfl, rfl⟩
          rcases Lr with _ | ⟨w, r⟩
          · conv => whnf
            refine (list2 _).mono ?_
            rintro v H' ⟨rfl, rfl⟩
            conv => whnf
            refine (backP (LL := []) (by simp) (by decide) _).mono ?_
            rintro v H' ⟨rfl, rfl⟩
            conv => whnf
            refine aw_rounds dok 1 ?_
            conv => whnf
            refine (known1 _).mono ?_
            rintro v H' ⟨rfl, rfl⟩
            conv => whnf
          · conv => whnf
            have hr : r.length + 1 ≤ 40 := hr1
            refine ⟨len_ints _ _ _, room_small (by omega) (by decide), ?_⟩
            conv => whnf
            rw [List.append_nil]
            have hLL : ∀ x ∈ w :: r, uR x := hr2
            refine (list1 (w :: r) (r.length + 1 + 0) hLL (by omega) (by omega) (p := 3) rfl rfl).mono ?_
            rintro v H' ⟨rfl, rfl⟩
            conv => whnf
            refine (backP (LL := w :: r) hLL (by simp; omega) _).mono ?_
            rintro v H' ⟨rfl, rfl⟩
            conv => whnf
            rw [show (((r.length + 1 : Nat) : Int) != ((r.length + 1 + 0 : Nat) : Int)) = false by simp; try omega]
            conv => whnf
            refine aw_loop dok (fun i : Nat => [(5, .v (.sl 3 0 0 (r.length + 1 + 0) 1)), (6, .v (.sl 4 0 0 (r.length + 1) 1)), (33, i64 ((r.length + 1 : Nat) : Int)), (34, i64 i)]) (fun _ => _) (fun i => i ≤ r.length + 1) (fun i => r.length + 1 - i) 0 ⟨rfl, rfl, rfl, rfl, trivial⟩ rfl (Nat.zero_le _) ?_
            intro i hi
            by_cases c : i < r.length + 1
            · conv => whnf
              rw [decide_eq_true (show (i : Int) < ((r.length + 1 : Nat) : Int) by omega)]; conv => whnf
              refine DR.std (by decide +kernel) ⟨[], ?_⟩
              conv => whnf
              rw [blt_of (show i < r.length + 1 by omega)]; conv => whnf
              rw [show (0 + i) * 1 = i by omega, blt_of (show i < r.length + 1 by omega)]; conv => whnf
              rw [blt_of (show i < r.length + 1 + 0 by omega)]; conv => whnf
              rw [show (0 + i) * 1 = i by omega, blt_of (show i < r.length + 1 + 0 by omega)]; conv => whnf
              rw [same_get]; conv => whnf
              exact ⟨i + 1, c, by show r.length + 1 - (i + 1) < r.length + 1 - i; omega, ⟨rfl, rfl, rfl, gK i (by omega), trivial⟩, rfl⟩
            · conv => whnf
              rw [decide_eq_false (show ¬ (i : Int) < ((r.length + 1 : Nat) : Int) by omega)]; conv => whnf
              refine (known1 _).mono ?_
              rintro v H' ⟨rfl, rfl⟩
              conv => whnf
    · conv => whnf
      refine And.intro ?_ ?_
      · conv => whnf
        refine (rawG hta 40 (by decide)).mono ?_
        rintro v H' ⟨Lr, hr1, hr2, rfl, rfl⟩
        conv => whnf
        rw [show (if (40 : Int) < ((0 : Nat) : Int) then (40 : Int) else ((0 : Nat) : Int)) = ((0 : Nat) : Int) from rfl]
        refine ⟨by omega, trivial, by omega, by omega, ?_⟩
        rw [Int.toNat_natCast]
        rcases Lr with _ | ⟨w, r⟩
        · conv => whnf
          refine (list2 _).mono ?_
          rintro v H' ⟨rfl, rfl⟩
          conv => whnf
          refine (backP (LL := []) (by simp) (by decide) _).mono ?_
          rintro v H' ⟨rfl, rfl⟩
          conv => whnf
          refine aw_rounds dok 1 ?_
          conv => whnf
          refine (known1 _).mono ?_
          rintro v H' ⟨rfl, rfl⟩
          conv => whnf
        · conv => whnf
          have hr : r.length + 1 ≤ 40 := hr1
          refine ⟨len_ints _ _ _, room_small (by omega) (by decide), ?_⟩
          conv => whnf
          rw [List.append_nil]
          have hLL : ∀ x ∈ w :: r, uR x := hr2
          refine (list1 (w :: r) (r.length + 1 + 0) hLL (by omega) (by omega) (p := 3) rfl rfl).mono ?_
          rintro v H' ⟨rfl, rfl⟩
          conv => whnf
          refine (backP (LL := w :: r) hLL (by simp; omega) _).mono ?_
          rintro v H' ⟨rfl, rfl⟩
          conv => whnf
          rw [show (((r.length + 1 : Nat) : Int) != ((r.length + 1 + 0 : Nat) : Int)) = false by simp; try omega]
          conv => whnf
          refine aw_loop dok (fun i : Nat => [(5, .v (.sl 3 0 0 (r.length + 1 + 0) 1)), (6, .v (.sl 4 0 0 (r.length + 1) 1)), (33, i64 ((r.length + 1 : Nat) : Int)), (34, i64 i)]) (fun _ => _) (fun i => i ≤ r.length + 1) (fun i => r.length + 1 - i) 0 ⟨rfl, rfl, rfl, rfl, trivial⟩ rfl (Nat.zero_le _) ?_
          intro i hi
          by_cases c : i < r.length + 1
          · conv => whnf
            rw [decide_eq_true (show (i : Int) < ((r.length + 1 : Nat) : Int) by omega)]; conv => whnf
            refine DR.std (by decide +kernel) ⟨[], ?_⟩
            conv => whnf
            rw [blt_of (show i < r.length + 1 by omega)]; conv => whnf
            rw [show (0 + i) * 1 = i by omega, blt_of (show i < r.length + 1 by omega)]; conv => whnf
            rw [blt_of (show i < r.length + 1 + 0 by omega)]; conv => whnf
            rw [show (0 + i) * 1 = i by omega, blt_of (show i < r.length + 1 + 0 by omega)]; conv => whnf
            rw [same_get]; conv => whnf
            exact ⟨i + 1, c, by show r.length + 1 - (i + 1) < r.length + 1 - i; omega, ⟨rfl, rfl, rfl, gK i (by omega), trivial⟩, rfl⟩
          · conv => whnf
            rw [decide_eq_false (show ¬ (i : Int) < ((r.length + 1 : Nat) : Int) by omega)]; conv => whnf
            refine (known1 _).mono ?_
            rintro v H' ⟨rfl, rfl⟩
            conv => whnf
      · conv => whnf
        refine And.intro ?_ ?_
        · conv => whnf
          refine (rawG hta 40 (by decide)).mono ?_
          rintro v H' ⟨Lr, hr1, hr2, rfl, rfl⟩
          conv => whnf
          rw [show (if (40 : Int) < ((0 : Nat) : Int) then (40 : Int) else ((0 : Nat) : Int)) = ((0 : Nat) : Int) from rfl]
          refine ⟨by omega, trivial, by omega, by omega, ?_⟩
          rw [Int.toNat_natCast]
          rcases Lr with _ | ⟨w, r⟩
          · conv => whnf
            refine (list2 _).mono ?_
            rintro v H' ⟨rfl, rfl⟩
            conv => whnf
            refine (backP (LL := []) (by simp) (by decide) _).mono ?_
            rintro v H' ⟨rfl, rfl⟩
            conv => whnf
            refine aw_rounds dok 1 ?_
            conv => whnf
            refine (known1 _).mono ?_
            rintro v H' ⟨rfl, rfl⟩
            conv => whnf
          · conv => whnf
            have hr : r.length + 1 ≤ 40 := hr1
            refine ⟨len_ints _ _ _, room_small (by omega) (by decide), ?_⟩
            conv => whnf
            rw [List.append_nil]
            have hLL : ∀ x ∈ w :: r, uR x := hr2
            refine (list1 (w :: r) (r.length + 1 + 0) hLL (by omega) (by omega) (p := 3) rfl rfl).mono ?_
            rintro v H' ⟨rfl, rfl⟩
            conv => whnf
            refine (backP (LL := w :: r) hLL (by simp; omega) _).mono ?_
            rintro v H' ⟨rfl, rfl⟩
            conv => whnf
            rw [show (((r.length + 1 : Nat) : Int) != ((r.length + 1 + 0 : Nat) : Int)) = false by simp; try omega]
            conv => whnf
            refine aw_loop dok (fun i : Nat => [(5, .v (.sl 3 0 0 (r.length + 1 + 0) 1)), (6, .v (.sl 4 0 0 (r.length + 1) 1)), (33, i64 ((r.length + 1 : Nat) : Int)), (34, i64 i)]) (fun _ => _) (fun i => i ≤ r.length + 1) (fun i => r.length + 1 - i) 0 ⟨rfl, rfl, rfl, rfl, trivial⟩ rfl (Nat.zero_le _) ?_
            intro i hi
            by_cases c : i < r.length + 1
            · conv => whnf
              rw [decide_eq_true (show (i : Int) < ((r.length + 1 : Nat) : Int) by omega)]; conv => whnf
              refine DR.std (by decide +kernel) ⟨[], ?_⟩
              conv => whnf
              rw [blt_of (show i < r.length + 1 by omega)]; conv => whnf
              rw [show (0 + i) * 1 = i by omega, blt_of (show i < r.length + 1 by omega)]; conv => whnf
              rw [blt_of (show i < r.length + 1 + 0 by omega)]; conv => whnf
              rw [show (0 + i) * 1 = i by omega, blt_of (show i < r.length + 1 + 0 by omega)]; conv => whnf
              rw [same_get]; conv => whnf
              exact ⟨i + 1, c, by show r.length + 1 - (i + 1) < r.length + 1 - i; omega, ⟨rfl, rfl, rfl, gK i (by omega), trivial⟩, rfl⟩
            · conv => whnf
              rw [decide_eq_false (show ¬ (i : Int) < ((r.length + 1 : Nat) : Int) by omega)]; conv => whnf
              refine (known1 _).mono ?_
              rintro v H' ⟨rfl, rfl⟩
              conv => whnf
        · conv => whnf
          rw [show (if (40 : Int) < ((0 : Nat) : Int) then (40 : Int) else ((0 : Nat) : Int)) = ((0 : Nat) : Int) from rfl]
          refine ⟨by omega, trivial, by omega, by omega, ?_⟩
          rw [Int.toNat_natCast]
          conv => whnf
          refine (rawG hta 40 (by decide)).mono ?_
          rintro v H' ⟨Lr, hr1, hr2, rfl, rfl⟩
          rcases Lr with _ | ⟨w, r⟩
          · conv => whnf
            refine (list2 _).mono ?_
            rintro v H' ⟨rfl, rfl⟩
            conv => whnf
            refine (backP (LL := []) (by simp) (by decide) _).mono ?_
            rintro v H' ⟨rfl, rfl⟩
            conv => whnf
            refine aw_rounds dok 1 ?_
            conv => whnf
            refine (known1 _).mono ?_
            rintro v H' ⟨rfl, rfl⟩
            conv => whnf
          · conv => whnf
            have hr : r.length + 1 ≤ 40 := hr1
            refine ⟨len_ints _ _ _, room_small (by omega) (by decide), ?_⟩
            conv => whnf
            rw [List.append_nil]
            have hLL : ∀ x ∈ w :: r, uR x := hr2
            refine (list1 (w :: r) (r.length + 1 + 0) hLL (by omega) (by omega) (p := 3) rfl rfl).mono ?_
            rintro v H' ⟨rfl, rfl⟩
            conv => whnf
            refine (backP (LL := w :: r) hLL (by simp; omega) _).mono ?_
            rintro v H' ⟨rfl, rfl⟩
            conv => whnf
            rw [show (((r.length + 1 : Nat) : Int) != ((r.length + 1 + 0 : Nat) : Int)) = false by simp; try omega]
            conv => whnf
            refine aw_loop dok (fun i : Nat => [(5, .v (.sl 3 0 0 (r.length + 1 + 0) 1)), (6, .v (.sl 4 0 0 (r.length + 1) 1)), (33, i64 ((r.length + 1 : Nat) : Int)), (34, i64 i)]) (fun _ => _) (fun i => i ≤ r.length + 1) (fun i => r.length + 1 - i) 0 ⟨rfl, rfl, rfl, rfl, trivial⟩ rfl (Nat.zero_le _) ?_
            intro i hi
            by_cases c : i < r.length + 1
            · conv => whnf
              rw [decide_eq_true (show (i : Int) < ((r.length + 1 : Nat) : Int) by omega)]; conv => whnf
              refine DR.std (by decide +kernel) ⟨[], ?_⟩
              conv => whnf
              rw [blt_of (show i < r.length + 1 by omega)]; conv => whnf
              rw [show (0 + i) * 1 = i by omega, blt_of (show i < r.length + 1 by omega)]; conv => whnf
              rw [blt_of (show i < r.length + 1 + 0 by omega)]; conv => whnf
              rw [show (0 + i) * 1 = i by omega, blt_of (show i < r.length + 1 + 0 by omega)]; conv => whnf
              rw [same_get]; conv => whnf
              exact ⟨i + 1, c, by show r.length + 1 - (i + 1) < r.length + 1 - i; omega, ⟨rfl, rfl, rfl, gK i (by omega), trivial⟩, rfl⟩
            · conv => whnf
              rw [decide_eq_false (show ¬ (i : Int) < ((r.length + 1 : Nat) : Int) by omega)]; conv => whnf
              refine (known1 _).mono ?_
              rintro v H' ⟨rfl, rfl⟩
              conv => whnf
end Go.Proofs.YtgglclmilocgcaaGreatDoor.Md
