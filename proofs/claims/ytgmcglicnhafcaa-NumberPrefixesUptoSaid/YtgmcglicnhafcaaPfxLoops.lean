/- The contracts of the five readers of number prefixes. -/
import Derived.Test.YtgmcglicnhafcaaPfxWalks
import Derived.Test.YtgmcglicnhafcaaMem
import Derived.Handy
namespace Go.Proofs.Ytgmcglicnhafcaa.pfx
open Go.RowKit mem

theorem prefix25 (A : Option Addr) (c : Nat) (xs : List Int) (p : Int) (B : Nat) (w : World) (hr : Rd w B A (xs.map (.int .u8))) (hn : xs.length ≤ 140737488351232) (hx : ∀ x ∈ xs, 0 ≤ x ∧ x ≤ 255)
    (hp : -9223372036854775808 ≤ p ∧ p ≤ 9223372036854775807) :
    Calls Try.prog 25 #[.slice A xs.length c, .int .i64 p] w fun e w' => e = .returned (.tuple #[.int .i64 (pf xs p).1, .int .i64 (pf xs p).2.1, .int .i64 (pf xs p).2.2]) ∧ w = w' := by
  by_cases h0 : p < 0
  · go_enter Try.func25, Try.ntmps25
    go_wp2
    go_ret3
    exact ⟨ret_3 (by simp [pf, h0]) (by simp [pf, h0]) (by simp [pf, h0]), rfl⟩
  · by_cases h1 : (xs.length : Int) < p
    · go_enter Try.func25, Try.ntmps25
      go_wp2
      go_ret3
      exact ⟨ret_3 (by simp [pf, h1]) (by simp [pf, h1]) (by simp [pf, h1]), rfl⟩
    · have hpf : pf xs p = run 0 p 0 p.toNat (xs.drop p.toNat) := by unfold pf; rw [if_neg (by omega)]
      have HP := Lib.hid hpf
      clear hpf
      go_enter Try.func25, Try.ntmps25
      go_wp2
      go_loop [4, 5, 6, 7, 8] (fun v4 v5 v6 v7 v8 => ∃ (k : Nat) (st e f : Int), k ≤ xs.length ∧ 0 ≤ st ∧ st ≤ 8 ∧ v4 = .int .i64 e ∧ v5 = .int .i64 (k : Int) ∧ v6 = .int .i64 f ∧ v7 = .int .i64 st ∧ v8 = .int .i64 (k : Int) ∧ Hid (pf xs p = run st e f k (xs.drop k)))
        (fun _ _ _ _ i => xs.length - (intOf i).toNat)
      case atStart =>
        have hk : ((p.toNat : Nat) : Int) = p := by omega
        refine ⟨p.toNat, 0, p, 0, by omega, by omega, by omega, rfl, by rw [hk], rfl, rfl, by rw [hk], HP.out⟩
      case round =>
        obtain ⟨k, st, e, f, hk, hs0, hs8, rfl, rfl, rfl, rfl, rfl, HR⟩ := hrel
        by_cases hlt : k < xs.length
        · obtain ⟨ad, rfl, _, hc⟩ := hr.at_ (k := k) (by simpa using hlt)
          have hxk := hx (xs[k]) (List.getElem_mem hlt)
          simp only [List.getElem_map] at hc
          have hrs := run_step st e f k xs hlt
          rw [show xs.getD k 0 = xs[k] from by simp [hlt]] at hrs
          generalize xs[k] = x at hc hxk hrs
          have Hrs := Lib.hid hrs
          have hnr := nx_range st x
          clear hrs hx
          by_cases h9 : nx st x = 9
          · have hn9 : (nx st x == 9) = true := by simp [h9]
            have Hfin := Lib.hid (show pf xs p = (e, (k : Int), f) by rw [HR.out, Hrs.out, if_pos h9])
            clear h9 HR Hrs
            go_wp2_with (first | (go_at_call 37; refine (next_any _ _ _).mono ?_; rintro e w' ⟨rfl, rfl⟩) | (go_at_call 38; refine (formAt_any _ _).mono ?_; rintro e w' ⟨rfl, rfl⟩))
            go_ret3
            exact ⟨ret_3 (by rw [Hfin.out]) (by rw [Hfin.out]) (by rw [Hfin.out]), rfl⟩
          · have hn9 : (nx st x == 9) = false := by simp [h9]
            by_cases h0 : fm (nx st x) = 0
            · have hf0 : (fm (nx st x) != 0) = false := by simp [h0]
              have Hfin := Lib.hid (show pf xs p = run (nx st x) e f (k + 1) (xs.drop (k + 1)) by rw [HR.out, Hrs.out, if_neg h9, if_pos h0])
              have hns : nx st x ≤ 8 := by omega
              clear h9 h0 HR Hrs
              go_wp2_with (first | (go_at_call 37; refine (next_any _ _ _).mono ?_; rintro e w' ⟨rfl, rfl⟩) | (go_at_call 38; refine (formAt_any _ _).mono ?_; rintro e w' ⟨rfl, rfl⟩))
              go_round
              case rel => exact ⟨k + 1, _, _, _, by omega, hnr.1, hns, rfl, by go_num, rfl, rfl, by go_num, Hfin⟩
              case measure => simp [intOf]; omega
            · have hf0 : (fm (nx st x) != 0) = true := by simp [h0]
              have Hfin := Lib.hid (show pf xs p = run (nx st x) ((k : Int) + 1) (fm (nx st x)) (k + 1) (xs.drop (k + 1)) by rw [HR.out, Hrs.out, if_neg h9, if_neg h0])
              have hns : nx st x ≤ 8 := by omega
              clear h9 h0 HR Hrs
              go_wp2_with (first | (go_at_call 37; refine (next_any _ _ _).mono ?_; rintro e w' ⟨rfl, rfl⟩) | (go_at_call 38; refine (formAt_any _ _).mono ?_; rintro e w' ⟨rfl, rfl⟩))
              go_round
              case rel => exact ⟨k + 1, _, _, _, by omega, hnr.1, hns, rfl, by go_num, rfl, rfl, by go_num, Hfin⟩
              case measure => simp [intOf]; omega
        · obtain rfl : k = xs.length := by omega
          have Hfin := Lib.hid (show pf xs p = (e, (xs.length : Int), f) by rw [HR.out, run_end _ _ _ _ _ rfl])
          clear HR
          go_wp2
          go_ret3
          exact ⟨ret_3 (by rw [Hfin.out]) (by rw [Hfin.out]) (by rw [Hfin.out]), rfl⟩

theorem prefix42 (A : Option Addr) (c : Nat) (xs : List Int) (p : Int) (B : Nat) (w : World) (hr : Rd w B A (xs.map (.int .u8))) (hn : xs.length ≤ 140737488351232) (hx : ∀ x ∈ xs, 0 ≤ x ∧ x ≤ 255)
    (hp : -9223372036854775808 ≤ p ∧ p ≤ 9223372036854775807) :
    Calls Try.prog 42 #[.slice A xs.length c, .int .i64 p] w fun e w' => e = .returned (.tuple #[.int .i64 (pf xs p).1, .int .i64 (pf xs p).2.1, .int .i64 (pf xs p).2.2]) ∧ w = w' := by
  by_cases h0 : p < 0
  · go_enter Try.func42, Try.ntmps42
    go_wp2
    go_ret3
    exact ⟨ret_3 (by simp [pf, h0]) (by simp [pf, h0]) (by simp [pf, h0]), rfl⟩
  · by_cases h1 : (xs.length : Int) < p
    · go_enter Try.func42, Try.ntmps42
      go_wp2
      go_ret3
      exact ⟨ret_3 (by simp [pf, h1]) (by simp [pf, h1]) (by simp [pf, h1]), rfl⟩
    · have hpf : pf xs p = run 0 p 0 p.toNat (xs.drop p.toNat) := by unfold pf; rw [if_neg (by omega)]
      have HP := Lib.hid hpf
      clear hpf
      go_enter Try.func42, Try.ntmps42
      go_wp2
      go_loop [4, 5, 6, 7, 8] (fun v4 v5 v6 v7 v8 => ∃ (k : Nat) (st e f : Int), k ≤ xs.length ∧ 0 ≤ st ∧ st ≤ 8 ∧ v4 = .int .i64 e ∧ v5 = .int .i64 (k : Int) ∧ v6 = .int .i64 f ∧ v7 = .int .i64 st ∧ v8 = .int .i64 (k : Int) ∧ Hid (pf xs p = run st e f k (xs.drop k)))
        (fun _ _ _ _ i => xs.length - (intOf i).toNat)
      case atStart =>
        have hk : ((p.toNat : Nat) : Int) = p := by omega
        refine ⟨p.toNat, 0, p, 0, by omega, by omega, by omega, rfl, by rw [hk], rfl, rfl, by rw [hk], HP.out⟩
      case round =>
        obtain ⟨k, st, e, f, hk, hs0, hs8, rfl, rfl, rfl, rfl, rfl, HR⟩ := hrel
        by_cases hlt : k < xs.length
        · obtain ⟨ad, rfl, _, hc⟩ := hr.at_ (k := k) (by simpa using hlt)
          have hxk := hx (xs[k]) (List.getElem_mem hlt)
          simp only [List.getElem_map] at hc
          have hrs := run_step st e f k xs hlt
          rw [show xs.getD k 0 = xs[k] from by simp [hlt]] at hrs
          generalize xs[k] = x at hc hxk hrs
          have Hrs := Lib.hid hrs
          have hnr := nx_range st x
          clear hrs hx
          by_cases h9 : nx st x = 9
          · have hn9 : (nx st x == 9) = true := by simp [h9]
            have Hfin := Lib.hid (show pf xs p = (e, (k : Int), f) by rw [HR.out, Hrs.out, if_pos h9])
            clear h9 HR Hrs
            go_wp2_with (first | (go_at_call 37; refine (next_any _ _ _).mono ?_; rintro e w' ⟨rfl, rfl⟩) | (go_at_call 38; refine (formAt_any _ _).mono ?_; rintro e w' ⟨rfl, rfl⟩))
            go_ret3
            exact ⟨ret_3 (by rw [Hfin.out]) (by rw [Hfin.out]) (by rw [Hfin.out]), rfl⟩
          · have hn9 : (nx st x == 9) = false := by simp [h9]
            by_cases h0 : fm (nx st x) = 0
            · have hf0 : (fm (nx st x) != 0) = false := by simp [h0]
              have Hfin := Lib.hid (show pf xs p = run (nx st x) e f (k + 1) (xs.drop (k + 1)) by rw [HR.out, Hrs.out, if_neg h9, if_pos h0])
              have hns : nx st x ≤ 8 := by omega
              clear h9 h0 HR Hrs
              go_wp2_with (first | (go_at_call 37; refine (next_any _ _ _).mono ?_; rintro e w' ⟨rfl, rfl⟩) | (go_at_call 38; refine (formAt_any _ _).mono ?_; rintro e w' ⟨rfl, rfl⟩))
              go_round
              case rel => exact ⟨k + 1, _, _, _, by omega, hnr.1, hns, rfl, by go_num, rfl, rfl, by go_num, Hfin⟩
              case measure => simp [intOf]; omega
            · have hf0 : (fm (nx st x) != 0) = true := by simp [h0]
              have Hfin := Lib.hid (show pf xs p = run (nx st x) ((k : Int) + 1) (fm (nx st x)) (k + 1) (xs.drop (k + 1)) by rw [HR.out, Hrs.out, if_neg h9, if_neg h0])
              have hns : nx st x ≤ 8 := by omega
              clear h9 h0 HR Hrs
              go_wp2_with (first | (go_at_call 37; refine (next_any _ _ _).mono ?_; rintro e w' ⟨rfl, rfl⟩) | (go_at_call 38; refine (formAt_any _ _).mono ?_; rintro e w' ⟨rfl, rfl⟩))
              go_round
              case rel => exact ⟨k + 1, _, _, _, by omega, hnr.1, hns, rfl, by go_num, rfl, rfl, by go_num, Hfin⟩
              case measure => simp [intOf]; omega
        · obtain rfl : k = xs.length := by omega
          have Hfin := Lib.hid (show pf xs p = (e, (xs.length : Int), f) by rw [HR.out, run_end _ _ _ _ _ rfl])
          clear HR
          go_wp2
          go_ret3
          exact ⟨ret_3 (by rw [Hfin.out]) (by rw [Hfin.out]) (by rw [Hfin.out]), rfl⟩

theorem prefix43 (A : Option Addr) (c : Nat) (xs : List Int) (p : Int) (B : Nat) (w : World) (hr : Rd w B A (xs.map (.int .i32))) (hn : xs.length ≤ 140737488351232) (hx : ∀ x ∈ xs, -2147483648 ≤ x ∧ x ≤ 2147483647)
    (hp : -9223372036854775808 ≤ p ∧ p ≤ 9223372036854775807) :
    Calls Try.prog 43 #[.slice A xs.length c, .int .i64 p] w fun e w' => e = .returned (.tuple #[.int .i64 (pf xs p).1, .int .i64 (pf xs p).2.1, .int .i64 (pf xs p).2.2]) ∧ w = w' := by
  by_cases h0 : p < 0
  · go_enter Try.func43, Try.ntmps43
    go_wp2
    go_ret3
    exact ⟨ret_3 (by simp [pf, h0]) (by simp [pf, h0]) (by simp [pf, h0]), rfl⟩
  · by_cases h1 : (xs.length : Int) < p
    · go_enter Try.func43, Try.ntmps43
      go_wp2
      go_ret3
      exact ⟨ret_3 (by simp [pf, h1]) (by simp [pf, h1]) (by simp [pf, h1]), rfl⟩
    · have hpf : pf xs p = run 0 p 0 p.toNat (xs.drop p.toNat) := by unfold pf; rw [if_neg (by omega)]
      have HP := Lib.hid hpf
      clear hpf
      go_enter Try.func43, Try.ntmps43
      go_wp2
      go_loop [4, 5, 6, 7, 8] (fun v4 v5 v6 v7 v8 => ∃ (k : Nat) (st e f : Int), k ≤ xs.length ∧ 0 ≤ st ∧ st ≤ 8 ∧ v4 = .int .i64 e ∧ v5 = .int .i64 (k : Int) ∧ v6 = .int .i64 f ∧ v7 = .int .i64 st ∧ v8 = .int .i64 (k : Int) ∧ Hid (pf xs p = run st e f k (xs.drop k)))
        (fun _ _ _ _ i => xs.length - (intOf i).toNat)
      case atStart =>
        have hk : ((p.toNat : Nat) : Int) = p := by omega
        refine ⟨p.toNat, 0, p, 0, by omega, by omega, by omega, rfl, by rw [hk], rfl, rfl, by rw [hk], HP.out⟩
      case round =>
        obtain ⟨k, st, e, f, hk, hs0, hs8, rfl, rfl, rfl, rfl, rfl, HR⟩ := hrel
        by_cases hlt : k < xs.length
        · obtain ⟨ad, rfl, _, hc⟩ := hr.at_ (k := k) (by simpa using hlt)
          have hxk := hx (xs[k]) (List.getElem_mem hlt)
          simp only [List.getElem_map] at hc
          have hrs := run_step st e f k xs hlt
          rw [show xs.getD k 0 = xs[k] from by simp [hlt]] at hrs
          generalize xs[k] = x at hc hxk hrs
          have Hrs := Lib.hid hrs
          have hnr := nx_range st x
          clear hrs hx
          by_cases h9 : nx st x = 9
          · have hn9 : (nx st x == 9) = true := by simp [h9]
            have Hfin := Lib.hid (show pf xs p = (e, (k : Int), f) by rw [HR.out, Hrs.out, if_pos h9])
            clear h9 HR Hrs
            go_wp2_with (first | (go_at_call 37; refine (next_any _ _ _).mono ?_; rintro e w' ⟨rfl, rfl⟩) | (go_at_call 38; refine (formAt_any _ _).mono ?_; rintro e w' ⟨rfl, rfl⟩))
            go_ret3
            exact ⟨ret_3 (by rw [Hfin.out]) (by rw [Hfin.out]) (by rw [Hfin.out]), rfl⟩
          · have hn9 : (nx st x == 9) = false := by simp [h9]
            by_cases h0 : fm (nx st x) = 0
            · have hf0 : (fm (nx st x) != 0) = false := by simp [h0]
              have Hfin := Lib.hid (show pf xs p = run (nx st x) e f (k + 1) (xs.drop (k + 1)) by rw [HR.out, Hrs.out, if_neg h9, if_pos h0])
              have hns : nx st x ≤ 8 := by omega
              clear h9 h0 HR Hrs
              go_wp2_with (first | (go_at_call 37; refine (next_any _ _ _).mono ?_; rintro e w' ⟨rfl, rfl⟩) | (go_at_call 38; refine (formAt_any _ _).mono ?_; rintro e w' ⟨rfl, rfl⟩))
              go_round
              case rel => exact ⟨k + 1, _, _, _, by omega, hnr.1, hns, rfl, by go_num, rfl, rfl, by go_num, Hfin⟩
              case measure => simp [intOf]; omega
            · have hf0 : (fm (nx st x) != 0) = true := by simp [h0]
              have Hfin := Lib.hid (show pf xs p = run (nx st x) ((k : Int) + 1) (fm (nx st x)) (k + 1) (xs.drop (k + 1)) by rw [HR.out, Hrs.out, if_neg h9, if_neg h0])
              have hns : nx st x ≤ 8 := by omega
              clear h9 h0 HR Hrs
              go_wp2_with (first | (go_at_call 37; refine (next_any _ _ _).mono ?_; rintro e w' ⟨rfl, rfl⟩) | (go_at_call 38; refine (formAt_any _ _).mono ?_; rintro e w' ⟨rfl, rfl⟩))
              go_round
              case rel => exact ⟨k + 1, _, _, _, by omega, hnr.1, hns, rfl, by go_num, rfl, rfl, by go_num, Hfin⟩
              case measure => simp [intOf]; omega
        · obtain rfl : k = xs.length := by omega
          have Hfin := Lib.hid (show pf xs p = (e, (xs.length : Int), f) by rw [HR.out, run_end _ _ _ _ _ rfl])
          clear HR
          go_wp2
          go_ret3
          exact ⟨ret_3 (by rw [Hfin.out]) (by rw [Hfin.out]) (by rw [Hfin.out]), rfl⟩

theorem prefix44 (A : Option Addr) (c : Nat) (xs : List Int) (p : Int) (B : Nat) (w : World) (hr : Rd w B A (xs.map (.int .i32))) (hn : xs.length ≤ 140737488351232) (hx : ∀ x ∈ xs, -2147483648 ≤ x ∧ x ≤ 2147483647)
    (hp : -9223372036854775808 ≤ p ∧ p ≤ 9223372036854775807) :
    Calls Try.prog 44 #[.slice A xs.length c, .int .i64 p] w fun e w' => e = .returned (.tuple #[.int .i64 (pf xs p).1, .int .i64 (pf xs p).2.1, .int .i64 (pf xs p).2.2]) ∧ w = w' := by
  by_cases h0 : p < 0
  · go_enter Try.func44, Try.ntmps44
    go_wp2
    go_ret3
    exact ⟨ret_3 (by simp [pf, h0]) (by simp [pf, h0]) (by simp [pf, h0]), rfl⟩
  · by_cases h1 : (xs.length : Int) < p
    · go_enter Try.func44, Try.ntmps44
      go_wp2
      go_ret3
      exact ⟨ret_3 (by simp [pf, h1]) (by simp [pf, h1]) (by simp [pf, h1]), rfl⟩
    · have hpf : pf xs p = run 0 p 0 p.toNat (xs.drop p.toNat) := by unfold pf; rw [if_neg (by omega)]
      have HP := Lib.hid hpf
      clear hpf
      go_enter Try.func44, Try.ntmps44
      go_wp2
      go_loop [4, 5, 6, 7, 8] (fun v4 v5 v6 v7 v8 => ∃ (k : Nat) (st e f : Int), k ≤ xs.length ∧ 0 ≤ st ∧ st ≤ 8 ∧ v4 = .int .i64 e ∧ v5 = .int .i64 (k : Int) ∧ v6 = .int .i64 f ∧ v7 = .int .i64 st ∧ v8 = .int .i64 (k : Int) ∧ Hid (pf xs p = run st e f k (xs.drop k)))
        (fun _ _ _ _ i => xs.length - (intOf i).toNat)
      case atStart =>
        have hk : ((p.toNat : Nat) : Int) = p := by omega
        refine ⟨p.toNat, 0, p, 0, by omega, by omega, by omega, rfl, by rw [hk], rfl, rfl, by rw [hk], HP.out⟩
      case round =>
        obtain ⟨k, st, e, f, hk, hs0, hs8, rfl, rfl, rfl, rfl, rfl, HR⟩ := hrel
        by_cases hlt : k < xs.length
        · obtain ⟨ad, rfl, _, hc⟩ := hr.at_ (k := k) (by simpa using hlt)
          have hxk := hx (xs[k]) (List.getElem_mem hlt)
          simp only [List.getElem_map] at hc
          have hrs := run_step st e f k xs hlt
          rw [show xs.getD k 0 = xs[k] from by simp [hlt]] at hrs
          generalize xs[k] = x at hc hxk hrs
          have Hrs := Lib.hid hrs
          have hnr := nx_range st x
          clear hrs hx
          by_cases h9 : nx st x = 9
          · have hn9 : (nx st x == 9) = true := by simp [h9]
            have Hfin := Lib.hid (show pf xs p = (e, (k : Int), f) by rw [HR.out, Hrs.out, if_pos h9])
            clear h9 HR Hrs
            go_wp2_with (first | (go_at_call 37; refine (next_any _ _ _).mono ?_; rintro e w' ⟨rfl, rfl⟩) | (go_at_call 38; refine (formAt_any _ _).mono ?_; rintro e w' ⟨rfl, rfl⟩))
            go_ret3
            exact ⟨ret_3 (by rw [Hfin.out]) (by rw [Hfin.out]) (by rw [Hfin.out]), rfl⟩
          · have hn9 : (nx st x == 9) = false := by simp [h9]
            by_cases h0 : fm (nx st x) = 0
            · have hf0 : (fm (nx st x) != 0) = false := by simp [h0]
              have Hfin := Lib.hid (show pf xs p = run (nx st x) e f (k + 1) (xs.drop (k + 1)) by rw [HR.out, Hrs.out, if_neg h9, if_pos h0])
              have hns : nx st x ≤ 8 := by omega
              clear h9 h0 HR Hrs
              go_wp2_with (first | (go_at_call 37; refine (next_any _ _ _).mono ?_; rintro e w' ⟨rfl, rfl⟩) | (go_at_call 38; refine (formAt_any _ _).mono ?_; rintro e w' ⟨rfl, rfl⟩))
              go_round
              case rel => exact ⟨k + 1, _, _, _, by omega, hnr.1, hns, rfl, by go_num, rfl, rfl, by go_num, Hfin⟩
              case measure => simp [intOf]; omega
            · have hf0 : (fm (nx st x) != 0) = true := by simp [h0]
              have Hfin := Lib.hid (show pf xs p = run (nx st x) ((k : Int) + 1) (fm (nx st x)) (k + 1) (xs.drop (k + 1)) by rw [HR.out, Hrs.out, if_neg h9, if_neg h0])
              have hns : nx st x ≤ 8 := by omega
              clear h9 h0 HR Hrs
              go_wp2_with (first | (go_at_call 37; refine (next_any _ _ _).mono ?_; rintro e w' ⟨rfl, rfl⟩) | (go_at_call 38; refine (formAt_any _ _).mono ?_; rintro e w' ⟨rfl, rfl⟩))
              go_round
              case rel => exact ⟨k + 1, _, _, _, by omega, hnr.1, hns, rfl, by go_num, rfl, rfl, by go_num, Hfin⟩
              case measure => simp [intOf]; omega
        · obtain rfl : k = xs.length := by omega
          have Hfin := Lib.hid (show pf xs p = (e, (xs.length : Int), f) by rw [HR.out, run_end _ _ _ _ _ rfl])
          clear HR
          go_wp2
          go_ret3
          exact ⟨ret_3 (by rw [Hfin.out]) (by rw [Hfin.out]) (by rw [Hfin.out]), rfl⟩

theorem prefix39 (A : Option Addr) (c : Nat) (xs : List Int) (p : Int) (B : Nat) (w : World) (hr : Rd w B A (xs.map (.int .i32))) (hn : xs.length ≤ 140737488351232) (hx : ∀ x ∈ xs, -2147483648 ≤ x ∧ x ≤ 2147483647)
    (hp : -9223372036854775808 ≤ p ∧ p ≤ 9223372036854775807) :
    Calls Try.prog 39 #[.slice A xs.length c, .int .i64 p] w fun e w' => e = .returned (.tuple #[.int .i64 (pf xs p).1, .int .i64 (pf xs p).2.1, .int .i64 (pf xs p).2.2]) ∧ w = w' := by
  by_cases h0 : p < 0
  · go_enter Try.func39, Try.ntmps39
    go_wp2
    go_ret3
    exact ⟨ret_3 (by simp [pf, h0]) (by simp [pf, h0]) (by simp [pf, h0]), rfl⟩
  · by_cases h1 : (xs.length : Int) < p
    · go_enter Try.func39, Try.ntmps39
      go_wp2
      go_ret3
      exact ⟨ret_3 (by simp [pf, h1]) (by simp [pf, h1]) (by simp [pf, h1]), rfl⟩
    · have hpf : pf xs p = run 0 p 0 p.toNat (xs.drop p.toNat) := by unfold pf; rw [if_neg (by omega)]
      have HP := Lib.hid hpf
      clear hpf
      go_enter Try.func39, Try.ntmps39
      go_wp2
      go_loop [4, 5, 6, 7, 8, 9, 10] (fun v4 v5 v6 v7 v8 v9 v10 => ∃ (k : Nat) (st e f : Int), k ≤ xs.length ∧ 0 ≤ st ∧ st ≤ 8 ∧ v4 = .int .i64 0 ∧ v5 = .int .i64 0 ∧ v6 = .int .i64 0 ∧ v7 = .int .i64 e ∧ v8 = .int .i64 f ∧ v9 = .int .i64 st ∧ v10 = .int .i64 (k : Int) ∧ Hid (pf xs p = run st e f k (xs.drop k)))
        (fun _ _ _ _ _ _ i => xs.length - (intOf i).toNat)
      case atStart =>
        have hk : ((p.toNat : Nat) : Int) = p := by omega
        refine ⟨p.toNat, 0, p, 0, by omega, by omega, by omega, rfl, rfl, rfl, rfl, rfl, rfl, by rw [hk], HP.out⟩
      case round =>
        obtain ⟨k, st, e, f, hk, hs0, hs8, rfl, rfl, rfl, rfl, rfl, rfl, rfl, HR⟩ := hrel
        by_cases hlt : k < xs.length
        · obtain ⟨ad, rfl, _, hc⟩ := hr.at_ (k := k) (by simpa using hlt)
          have hxk := hx (xs[k]) (List.getElem_mem hlt)
          simp only [List.getElem_map] at hc
          have hrs := run_step st e f k xs hlt
          rw [show xs.getD k 0 = xs[k] from by simp [hlt]] at hrs
          generalize xs[k] = x at hc hxk hrs
          have Hrs := Lib.hid hrs
          have hnr := nx_range st x
          have hsx := stp_nx st x hs0 hs8
          clear hrs hx
          by_cases h9 : nx st x = 9
          · have Hsx := Lib.hid (show stp st x = -1 by rw [hsx, if_pos h9])
            have Hfin := Lib.hid (show pf xs p = (e, (k : Int), f) by rw [HR.out, Hrs.out, if_pos h9])
            clear h9 HR Hrs hsx
            go_wp2_with (first | (go_at_call 55; refine (step_any _ _ _).mono ?_; rintro e w' ⟨rfl, rfl⟩; rw [Hsx.out]) | (go_at_call 56; refine (form_any _ _).mono ?_; rintro e w' ⟨rfl, rfl⟩))
            go_ret3
            exact ⟨ret_3 (by rw [Hfin.out]) (by rw [Hfin.out]) (by rw [Hfin.out]), rfl⟩
          · have Hsx := Lib.hid (show stp st x = nx st x by rw [hsx, if_neg h9])
            by_cases h0 : fm (nx st x) = 0
            · have hf0 : (fm (nx st x) != 0) = false := by simp [h0]
              have Hfin := Lib.hid (show pf xs p = run (nx st x) e f (k + 1) (xs.drop (k + 1)) by rw [HR.out, Hrs.out, if_neg h9, if_pos h0])
              have hns : nx st x ≤ 8 := by omega
              clear h9 h0 HR Hrs hsx
              go_wp2_with (first | (go_at_call 55; refine (step_any _ _ _).mono ?_; rintro e w' ⟨rfl, rfl⟩; rw [Hsx.out]) | (go_at_call 56; refine (form_any _ _).mono ?_; rintro e w' ⟨rfl, rfl⟩))
              go_round
              case rel => exact ⟨k + 1, _, _, _, by omega, hnr.1, hns, rfl, rfl, rfl, rfl, rfl, rfl, by go_num, Hfin⟩
              case measure => simp [intOf]; omega
            · have hf0 : (fm (nx st x) != 0) = true := by simp [h0]
              have Hfin := Lib.hid (show pf xs p = run (nx st x) ((k : Int) + 1) (fm (nx st x)) (k + 1) (xs.drop (k + 1)) by rw [HR.out, Hrs.out, if_neg h9, if_neg h0])
              have hns : nx st x ≤ 8 := by omega
              clear h9 h0 HR Hrs hsx
              go_wp2_with (first | (go_at_call 55; refine (step_any _ _ _).mono ?_; rintro e w' ⟨rfl, rfl⟩; rw [Hsx.out]) | (go_at_call 56; refine (form_any _ _).mono ?_; rintro e w' ⟨rfl, rfl⟩))
              go_round
              case rel => exact ⟨k + 1, _, _, _, by omega, hnr.1, hns, rfl, rfl, rfl, rfl, rfl, rfl, by go_num, Hfin⟩
              case measure => simp [intOf]; omega
        · obtain rfl : k = xs.length := by omega
          have Hfin := Lib.hid (show pf xs p = (e, (xs.length : Int), f) by rw [HR.out, run_end _ _ _ _ _ rfl])
          clear HR
          go_wp2
          go_ret3
          exact ⟨ret_3 (by rw [Hfin.out]) (by rw [Hfin.out]) (by rw [Hfin.out]), rfl⟩

theorem prefix25n (A : Option Addr) (n c : Nat) (xs : List Int) (p : Int) (B : Nat) (w : World) (hr : Rd w B A (xs.map (.int .u8))) (hn : xs.length = n) (hl : n ≤ 140737488351232) (hx : ∀ x ∈ xs, 0 ≤ x ∧ x ≤ 255)
    (hp : -9223372036854775808 ≤ p ∧ p ≤ 9223372036854775807) :
    Calls Try.prog 25 #[.slice A n c, .int .i64 p] w fun e w' => e = .returned (.tuple #[.int .i64 (pf xs p).1, .int .i64 (pf xs p).2.1, .int .i64 (pf xs p).2.2]) ∧ w = w' := by
  subst hn
  exact prefix25 A c xs p B w hr hl hx hp

theorem prefix42n (A : Option Addr) (n c : Nat) (xs : List Int) (p : Int) (B : Nat) (w : World) (hr : Rd w B A (xs.map (.int .u8))) (hn : xs.length = n) (hl : n ≤ 140737488351232) (hx : ∀ x ∈ xs, 0 ≤ x ∧ x ≤ 255)
    (hp : -9223372036854775808 ≤ p ∧ p ≤ 9223372036854775807) :
    Calls Try.prog 42 #[.slice A n c, .int .i64 p] w fun e w' => e = .returned (.tuple #[.int .i64 (pf xs p).1, .int .i64 (pf xs p).2.1, .int .i64 (pf xs p).2.2]) ∧ w = w' := by
  subst hn
  exact prefix42 A c xs p B w hr hl hx hp

theorem prefix43n (A : Option Addr) (n c : Nat) (xs : List Int) (p : Int) (B : Nat) (w : World) (hr : Rd w B A (xs.map (.int .i32))) (hn : xs.length = n) (hl : n ≤ 140737488351232) (hx : ∀ x ∈ xs, -2147483648 ≤ x ∧ x ≤ 2147483647)
    (hp : -9223372036854775808 ≤ p ∧ p ≤ 9223372036854775807) :
    Calls Try.prog 43 #[.slice A n c, .int .i64 p] w fun e w' => e = .returned (.tuple #[.int .i64 (pf xs p).1, .int .i64 (pf xs p).2.1, .int .i64 (pf xs p).2.2]) ∧ w = w' := by
  subst hn
  exact prefix43 A c xs p B w hr hl hx hp

theorem prefix44n (A : Option Addr) (n c : Nat) (xs : List Int) (p : Int) (B : Nat) (w : World) (hr : Rd w B A (xs.map (.int .i32))) (hn : xs.length = n) (hl : n ≤ 140737488351232) (hx : ∀ x ∈ xs, -2147483648 ≤ x ∧ x ≤ 2147483647)
    (hp : -9223372036854775808 ≤ p ∧ p ≤ 9223372036854775807) :
    Calls Try.prog 44 #[.slice A n c, .int .i64 p] w fun e w' => e = .returned (.tuple #[.int .i64 (pf xs p).1, .int .i64 (pf xs p).2.1, .int .i64 (pf xs p).2.2]) ∧ w = w' := by
  subst hn
  exact prefix44 A c xs p B w hr hl hx hp

theorem prefix39n (A : Option Addr) (n c : Nat) (xs : List Int) (p : Int) (B : Nat) (w : World) (hr : Rd w B A (xs.map (.int .i32))) (hn : xs.length = n) (hl : n ≤ 140737488351232) (hx : ∀ x ∈ xs, -2147483648 ≤ x ∧ x ≤ 2147483647)
    (hp : -9223372036854775808 ≤ p ∧ p ≤ 9223372036854775807) :
    Calls Try.prog 39 #[.slice A n c, .int .i64 p] w fun e w' => e = .returned (.tuple #[.int .i64 (pf xs p).1, .int .i64 (pf xs p).2.1, .int .i64 (pf xs p).2.2]) ∧ w = w' := by
  subst hn
  exact prefix39 A c xs p B w hr hl hx hp
end Go.Proofs.Ytgmcglicnhafcaa.pfx
