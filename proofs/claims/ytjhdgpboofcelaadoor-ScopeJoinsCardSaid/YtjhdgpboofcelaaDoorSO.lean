/- Layer 5: ScopeJoins, its walk. -/
import Derived.Test.YtjhdgpboofcelaaDoorSN
import Derived.Test.YtjhdgpboofcelaaDoorSM
import Derived.Test.YtjhdgpboofcelaaDoorFreeG
namespace Go.Proofs.YtjhdgpboofcelaaDoor
open Go.RowKit
open Go.Lib (decodeL validD)
attribute [local go_sem] Oper.semAt_some

set_option maxRecDepth 100000 in
set_option maxHeartbeats 2000000 in
theorem scopeJoins_law (p q v : ByteArray) (w : World) (hp : p.size ≤ maxLen) (hq : q.size ≤ maxLen) (hv : v.size ≤ maxLen) :
    Calls Tryd.prog 3 #[.string p, .string q, .string v] w fun e w' => e = .returned (.bool true) ∧ Below w.heap.size w w' := by
  have hS := shown5_any w
  go_enter Tryd.func3, Tryd.ntmps3
  go_wp2_with fail
  refine hS.mono ?_
  rintro e w1 ⟨rfl, hB1⟩
  go_wp2_with fail
  have hPs : (p.extract 0 (min (p.size : Int) 60).toNat).size ≤ 60 := by rw [ByteArray.size_extract]; omega
  have hQs : (q.extract 0 (min (q.size : Int) 60).toNat).size ≤ 60 := by rw [ByteArray.size_extract]; omega
  have hVs : (v.extract 0 (min (v.size : Int) 60).toNat).size ≤ 60 := by rw [ByteArray.size_extract]; omega
  generalize p.extract 0 (min (p.size : Int) 60).toNat = P at *
  generalize q.extract 0 (min (q.size : Int) 60).toNat = Q at *
  generalize v.extract 0 (min (v.size : Int) 60).toNat = V at *
  have hR := fun W => runes_any V W (by omega)
  have hx : ∃ ok n, (∀ W, Calls Tryd.prog 6 #[.string V] W fun e w' => e = .returned (.tuple #[.int .i64 n, .bool ok]) ∧ Below W.heap.size W w') ∧ ok = validD V.data.toList := ⟨_, _, hR, rfl⟩
  obtain ⟨ok, n, hR2, hok⟩ := hx
  clear hR
  refine (hR2 _).mono ?_
  rintro e w2 ⟨rfl, hB2⟩
  have hBW2 : Below w.heap.size w w2 := hB1.trans (hB2.mono hB1.size)
  clear hB1 hB2 hR2
  have hd : (P ++ ⟨#[42]⟩ ++ Q).data.toList = P.data.toList ++ 42 :: Q.data.toList := by simp
  have hds : (P ++ ⟨#[42]⟩ ++ Q).size ≤ 1000000 := by rw [ByteArray.size_append, ByteArray.size_append]; show _ + 1 + _ ≤ _; omega
  have hI1 := fun W => pattern_any P W (by omega)
  have hI2 := fun W => pattern_any Q W (by omega)
  have hI3 := fun W => pattern_any (P ++ ⟨#[42]⟩ ++ Q) W hds
  have hF := fun W => fits_any (P ++ ⟨#[42]⟩ ++ Q) V W hds (by omega)
  rw [hd] at hI3 hF
  have hjoin : ∀ A B C, pcsA P.data.toList = some A → pcsA Q.data.toList = some B → pcsA (P.data.toList ++ 42 :: Q.data.toList) = some C → validD V.data.toList = true → (fitsA (P.data.toList ++ 42 :: Q.data.toList) V.data.toList = true ↔ ∃ i k, i ≤ k ∧ k ≤ V.data.toList.length ∧ fitsA P.data.toList (V.data.toList.take i) = true ∧ fitsA Q.data.toList (V.data.toList.drop k) = true) := fun A B C h1 h2 h3 h4 => fits_join h1 h2 h3 h4
  generalize P.data.toList ++ 42 :: Q.data.toList = rl at *
  have HOK := Lib.hid hok
  clear hok hd hds
  cases ok
  · go_wp2_with fail
    go_ret
    exact ⟨rfl, hBW2⟩
  · cases h1 : pcsA P.data.toList with
    | none =>
      rw [h1] at hI1
      go_wp2_with fail
      refine (hI1 _).mono ?_
      rintro e w3 ⟨rfl, hB3⟩
      go_wp2_with fail
      go_ret
      exact ⟨rfl, hBW2.trans (hB3.mono hBW2.size)⟩
    | some A =>
      rw [h1] at hI1
      cases h2 : pcsA Q.data.toList with
      | none =>
        rw [h2] at hI2
        go_wp2_with fail
        refine (hI1 _).mono ?_
        rintro e w3 ⟨rfl, hB3⟩
        go_wp2_with fail
        refine (hI2 _).mono ?_
        rintro e w4 ⟨rfl, hB4⟩
        have hBW3 := hBW2.trans (hB3.mono hBW2.size)
        go_wp2_with fail
        go_ret
        exact ⟨rfl, hBW3.trans (hB4.mono hBW3.size)⟩
      | some B =>
        rw [h2] at hI2
        cases h3 : pcsA rl with
        | none =>
          rw [h3] at hI3
          go_wp2_with fail
          refine (hI1 _).mono ?_
          rintro e w3 ⟨rfl, hB3⟩
          go_wp2_with fail
          refine (hI2 _).mono ?_
          rintro e w4 ⟨rfl, hB4⟩
          have hBW3 := hBW2.trans (hB3.mono hBW2.size)
          have hBW4 := hBW3.trans (hB4.mono hBW3.size)
          go_wp2_with fail
          refine (hI3 _).mono ?_
          rintro e w5 ⟨rfl, hB5⟩
          go_wp2_with fail
          go_ret
          exact ⟨rfl, hBW4.trans (hB5.mono hBW4.size)⟩
        | some C =>
          rw [h3] at hI3
          have hJ := Lib.hid (hjoin A B C h1 h2 h3 HOK.out.symm)
          clear hjoin
          go_wp2_with fail
          refine (hI1 _).mono ?_
          rintro e w3 ⟨rfl, hB3⟩
          go_wp2_with fail
          refine (hI2 _).mono ?_
          rintro e w4 ⟨rfl, hB4⟩
          have hBW3 := hBW2.trans (hB3.mono hBW2.size)
          have hBW4 := hBW3.trans (hB4.mono hBW3.size)
          go_wp2_with fail
          refine (hI3 _).mono ?_
          rintro e w5 ⟨rfl, hB5⟩
          have hBW5 := hBW4.trans (hB5.mono hBW4.size)
          clear hB3 hB4 hB5 hBW2 hBW3 hBW4 hI1 hI2 hI3
          go_wp2_with fail
          have hUp := upB_all P.data.toList Q.data.toList V.data.toList _ hJ.out
          have HUP := Lib.hid hUp
          clear hUp hJ h1 h2 h3
          have hRu := fun (s : ByteArray) (hs : s.size ≤ 60) W => runes_any s W (by omega)
          have hFp := fun (s : ByteArray) (hs : s.size ≤ 60) W => fits_any P s W (by omega) (by omega)
          have hFq := fun (s : ByteArray) (hs : s.size ≤ 60) W => fits_any Q s W (by omega) (by omega)
          go_loopw [11, 12] (fun is iv wr => ∃ i : Nat, iv = .int .i64 i ∧ is = .bool (upB P.data.toList Q.data.toList V.data.toList i) ∧ i ≤ V.size + 1 ∧ Below w.heap.size w wr)
            (fun _ iv _ => V.size + 1 - (intOf iv).toNat)
          case atStart => exact ⟨0, rfl, rfl, by omega, hBW5⟩
          case round =>
            rename_i wr
            obtain ⟨i, rfl, rfl, hi, hB⟩ := hrel
            by_cases hlt : i ≤ V.size
            · have hes : (V.extract 0 i).size ≤ 60 := by rw [ByteArray.size_extract]; omega
              have hRi := hRu (V.extract 0 i) hes
              have hFi := hFp (V.extract 0 i) hes
              rw [headData] at hRi hFi
              obtain ⟨L, hL⟩ : ∃ L, validD (V.data.toList.take i) = L := ⟨_, rfl⟩
              obtain ⟨FL, hFL⟩ : ∃ FL, fitsA P.data.toList (V.data.toList.take i) = FL := ⟨_, rfl⟩
              have hsucc := upB_succ P.data.toList Q.data.toList V.data.toList i
              unfold hitB at hsucc
              rw [hFL] at hsucc hFi
              have hx : ∃ n, (∀ W, Calls Tryd.prog 6 #[.string (V.extract 0 i)] W fun e w' => e = .returned (.tuple #[.int .i64 n, .bool L]) ∧ Below W.heap.size W w') := ⟨_, by rw [← hL]; exact hRi⟩
              obtain ⟨n2, hRi2⟩ := hx
              have hLF : L = false → FL = false := fun h => by rw [← hFL]; exact fitsA_invalid _ _ (by rw [hL]; exact h)
              clear hRi
              have HS := Lib.hid hsucc
              clear hsucc hL hFL
              generalize upB P.data.toList Q.data.toList V.data.toList i = is at *
              have hlen : V.data.toList.length = V.size := data_length V
              cases L
              · have hF0 := hLF rfl
                subst hF0
                go_wp2_with fail
                refine (hRi2 _).mono ?_
                rintro e w6 ⟨rfl, hB6⟩
                have hBw6 := hB.trans (hB6.mono hB.size)
                go_wp2_with fail
                go_roundw
                case rel => exact ⟨i + 1, by go_num, by rw [HS.out]; simp, by omega, hBw6⟩
                case measure => simp [intOf]; omega
              · cases FL
                · go_wp2_with fail
                  refine (hRi2 _).mono ?_
                  rintro e w6 ⟨rfl, hB6⟩
                  have hBw6 := hB.trans (hB6.mono hB.size)
                  go_wp2_with fail
                  refine (hFi _).mono ?_
                  rintro e w7 ⟨rfl, hB7⟩
                  have hBw7 := hBw6.trans (hB7.mono hBw6.size)
                  go_wp2_with fail
                  go_roundw
                  case rel => exact ⟨i + 1, by go_num, by rw [HS.out]; simp, by omega, hBw7⟩
                  case measure => simp [intOf]; omega
                · go_wp2_with fail
                  refine (hRi2 _).mono ?_
                  rintro e w6 ⟨rfl, hB6⟩
                  have hBw6 := hB.trans (hB6.mono hB.size)
                  go_wp2_with fail
                  refine (hFi _).mono ?_
                  rintro e w7 ⟨rfl, hB7⟩
                  have hBw7 := hBw6.trans (hB7.mono hBw6.size)
                  have hin0 := inB_start Q.data.toList V.data.toList i
                  have hinS := fun k hk => inB_succ Q.data.toList V.data.toList i k hk
                  clear hRi2 hFi hB6 hB7 hLF hB hBw6
                  go_wp2_with fail
                  go_loopw [11, 15] (fun iv kv wq => ∃ k : Nat, kv = .int .i64 k ∧ iv = .bool (is || inB Q.data.toList V.data.toList i k) ∧ i ≤ k ∧ k ≤ V.size + 1 ∧ Below w.heap.size w wq)
                    (fun _ kv _ => V.size + 1 - (intOf kv).toNat)
                  case atStart => exact ⟨i, rfl, by rw [hin0]; simp, Nat.le_refl _, by omega, hBw7⟩
                  case round =>
                    rename_i wq
                    obtain ⟨k, rfl, rfl, hik, hk, hBq⟩ := hrel
                    clear hBw7 w7
                    by_cases hkl : k ≤ V.size
                    · have hes2 : (V.extract k V.size).size ≤ 60 := by rw [ByteArray.size_extract]; omega
                      have hRk := hRu (V.extract k V.size) hes2
                      have hFk := hFq (V.extract k V.size) hes2
                      rw [tailData] at hRk hFk
                      have hS2 := hinS k hik
                      obtain ⟨Lk, hLk⟩ : ∃ Lk, validD (V.data.toList.drop k) = Lk := ⟨_, rfl⟩
                      obtain ⟨FK, hFK⟩ : ∃ FK, fitsA Q.data.toList (V.data.toList.drop k) = FK := ⟨_, rfl⟩
                      rw [hFK] at hFk hS2
                      have hy : ∃ n, (∀ W, Calls Tryd.prog 6 #[.string (V.extract k V.size)] W fun e w' => e = .returned (.tuple #[.int .i64 n, .bool Lk]) ∧ Below W.heap.size W w') := ⟨_, by rw [← hLk]; exact hRk⟩
                      obtain ⟨n3, hRk2⟩ := hy
                      have hLF2 : Lk = false → FK = false := fun h => by rw [← hFK]; exact fitsA_invalid _ _ (by rw [hLk]; exact h)
                      clear hRk hLk hFK
                      have HS2 := Lib.hid hS2
                      clear hS2
                      obtain ⟨b, hb⟩ : ∃ b, (is || inB Q.data.toList V.data.toList i k) = b := ⟨_, rfl⟩
                      have hnext : (is || inB Q.data.toList V.data.toList i (k + 1)) = (b || FK) := by rw [HS2.out, ← hb, Bool.or_assoc]
                      have HN := Lib.hid hnext
                      rw [hb]
                      clear hb hnext
                      cases b
                      · cases Lk
                        · have hF0 := hLF2 rfl
                          subst hF0
                          go_wp2_with fail
                          refine (hRk2 _).mono ?_
                          rintro e w8 ⟨rfl, hB8⟩
                          have hBw8 := hBq.trans (hB8.mono hBq.size)
                          go_wp2_with fail
                          go_roundw
                          case rel => exact ⟨k + 1, by go_num, by rw [HN.out]; rfl, by omega, by omega, hBw8⟩
                          case measure => simp [intOf]; omega
                        · go_wp2_with fail
                          refine (hRk2 _).mono ?_
                          rintro e w8 ⟨rfl, hB8⟩
                          have hBw8 := hBq.trans (hB8.mono hBq.size)
                          go_wp2_with fail
                          refine (hFk _).mono ?_
                          rintro e w9 ⟨rfl, hB9⟩
                          have hBw9 := hBw8.trans (hB9.mono hBw8.size)
                          go_wp2_with fail
                          go_roundw
                          case rel => exact ⟨k + 1, by go_num, by rw [HN.out]; rfl, by omega, by omega, hBw9⟩
                          case measure => simp [intOf]; omega
                      · go_wp2_with fail
                        refine (hRk2 _).mono ?_
                        rintro e w8 ⟨rfl, hB8⟩
                        have hBw8 := hBq.trans (hB8.mono hBq.size)
                        go_wp2_with fail
                        go_roundw
                        case rel => exact ⟨k + 1, by go_num, by rw [HN.out]; rfl, by omega, by omega, hBw8⟩
                        case measure => simp [intOf]; omega
                    · obtain rfl : k = V.size + 1 := by omega
                      have hfin : upB P.data.toList Q.data.toList V.data.toList (i + 1) = (is || inB Q.data.toList V.data.toList i (V.size + 1)) := by rw [HS.out, hlen]; rfl
                      have HFIN := Lib.hid hfin
                      clear hfin
                      generalize (is || inB Q.data.toList V.data.toList i (V.size + 1)) = fin at *
                      go_wp2_with fail
                      go_roundw
                      case rel => exact ⟨i + 1, by go_num, by rw [HFIN.out], by omega, hBq⟩
                      case measure => simp [intOf]; omega
            · obtain rfl : i = V.size + 1 := by omega
              have hlen : V.data.toList.length = V.size := data_length V
              have hfin : upB P.data.toList Q.data.toList V.data.toList (V.size + 1) = fitsA rl V.data.toList := by rw [← hlen]; exact HUP.out
              rw [hfin]
              clear hfin
              generalize fitsA rl V.data.toList = fin at *
              go_wp2_with fail
              refine (hF _).mono ?_
              rintro e w6 ⟨rfl, hB6⟩
              cases fin
              · go_wp2_with fail
                go_ret
                exact ⟨rfl, hB.trans (hB6.mono hB.size)⟩
              · go_wp2_with fail
                go_ret
                exact ⟨rfl, hB.trans (hB6.mono hB.size)⟩
end Go.Proofs.YtjhdgpboofcelaaDoor
