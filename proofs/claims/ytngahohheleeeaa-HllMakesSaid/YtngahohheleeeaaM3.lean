/- The document's Add and Of. -/
import Derived.Test.YtngahohheleeeaaM2
import Derived.Test.YtngahohheleeeaaTail2
import Derived.Test.YtngahohheleeeaaHQ
namespace Go.Proofs.Ytngahohheleeeaa
open Go.RowKit

theorem radd_no (b n : Int) (s : ByteArray) (w : World) (h : rightB b s.data.toList = false) :
    Calls Try.prog 14 #[.agg #[.int .i64 b, .string s], .int .u64 n] w fun e w' => e = hllRes 0 ⟨#[]⟩ 70 ∧ Below w.heap.size w w' := by
  have hR : ∀ w, Calls Try.prog 20 #[.agg #[.int .i64 b, .string s]] w fun e w' => e = .returned (.bool false) ∧ Below w.heap.size w w' := fun w => h ▸ rright_any b s w
  go_enter Try.func14, Try.ntmps14
  go_wp2_with (first | (go_at_call 20; (first | (with_reducible refine Calls.mono (Calls.gr (hR _)) ?_) | (refine Calls.mono (Calls.gr0 (hR _)) ?_)); rintro e w' ⟨rfl, g, rfl⟩; have hgl := g.le; (try simp only [World.size_alloc] at hgl); (try simp only [World.size_setCell] at hgl)))
  exact bodyPost_ret (v := .tuple #[.agg #[.int .i64 0, .string ⟨#[]⟩], .int .i64 70]) (by simp [results, Try.results14, go_sem]) rfl ⟨rfl, (by repeat (first | exact Below.refl _ _ | assumption | (refine Below.setCell ?_ (by (first | omega | (simp; done) | (simp; omega) | (simp at *; omega))) _) | (refine Below.alloc ?_ (by (first | omega | (simp; done) | (simp; omega) | (simp at *; omega))) _) | (refine Below.drew ?_) | (refine Gr.into _ ?_ (by (first | omega | (simp; done) | (simp; omega) | (simp at *; omega))))))⟩

theorem radd_yes (b n : Nat) (s : ByteArray) (w : World) (h : rightB b s.data.toList = true) (hn : n < 2 ^ 64) :
    Calls Try.prog 14 #[.agg #[.int .i64 b, .string s], .int .u64 n] w fun e w' => e = hllRes b ⟨(addReg b s.data.toList n).toArray⟩ 0 ∧ Below w.heap.size w w' := by
  have hR : ∀ w, Calls Try.prog 20 #[.agg #[.int .i64 b, .string s]] w fun e w' => e = .returned (.bool true) ∧ Below w.heap.size w w' := fun w => h ▸ rright_any b s w
  have hb := rightB_bits h
  obtain ⟨h1, h2⟩ := isBits_bd hb
  have hconv : ∀ w, Sem.run Try.prog (convert 9 44 (.string s)) w = .ok (.slice (some ⟨w.heap.size, 0, none⟩) s.size (grownCap w s.size 0 5)) (Lib.bytesWorld w 5 s) := fun w => Lib.run_convert_string_bytes w _ _ _ s rfl rfl rfl
  have hsz := Lib.bytesWorld_size
  have hl := rightB_len h
  have hls : s.data.toList.length = s.size := by simp
  have hat : atN b n < s.size := by rw [← hls, hl]; exact atN_lt (by omega) hn
  have hbd := rankN_bd (b := b) (n := n) (by omega)
  have hP : ∀ w, Calls Try.prog 16 #[.int .i64 b, .int .u64 n] w fun e w' => e = .returned (.tuple #[.int .i64 (atN b n), .int .i64 (rankN b n)]) ∧ Below w.heap.size w w' := fun w => rplace_yes b n w hb hn
  obtain ⟨S, hS⟩ : ∃ S, S = addReg b s.data.toList n := ⟨_, rfl⟩
  rw [← hS]
  unfold addReg at hS
  generalize atN b n = at_ at *
  generalize rankN b n = rk at *
  have x1 := (s.data.toList.getD at_ 0).toNat_lt
  have hmax : ((max (s.data.toList.getD at_ 0) (UInt8.ofNat rk)).toNat : Int) = max ((s.data.toList.getD at_ 0).toNat : Int) (rk : Int) := umax _ rk (by omega)
  have hrow : ∀ w : World, RowAt (Lib.bytesWorld w 5 s) w.heap.size 5 (Lib.byteCells s.data.toList) := fun w => RowAt.bytes w _ s
  have hcell : ∀ w : World, (Lib.bytesWorld w 5 s).cell? ⟨w.heap.size, at_, none⟩ = some (.int .u8 ((s.data.toList.getD at_ 0).toNat : Nat)) := fun w => (hrow w).byte at_ (by rw [hls]; exact hat)
  have hfr : ∀ w : World, (Lib.bytesWorld w 5 s).frozen? ⟨w.heap.size, at_, none⟩ = false := fun w => (hrow w).frozen at_ (by simpa [Lib.byteCells] using hat)
  have hback : ∀ w : World, Sem.run Try.prog (convert 44 9 (.slice (some ⟨w.heap.size, 0, none⟩) s.size (grownCap w s.size 0 5))) ((Lib.bytesWorld w 5 s).setCell ⟨w.heap.size, at_, none⟩ (.int .u8 (max ((s.data.toList.getD at_ 0).toNat : Int) (rk : Int)))) =
      .ok (.string ⟨S.toArray⟩) ((Lib.bytesWorld w 5 s).setCell ⟨w.heap.size, at_, none⟩ (.int .u8 (max ((s.data.toList.getD at_ 0).toNat : Int) (rk : Int)))) := fun w => by
    have r := (hrow w).set at_ (.int .u8 (max ((s.data.toList.getD at_ 0).toNat : Int) (rk : Int)))
    rw [← hmax, ← byteCells_set, ← hS] at r
    have hSl : S.length = s.size := by rw [hS, List.length_set, hls]
    have := r.string (P := Try.prog) (src := 44) (dst := 9) (cap := grownCap w s.size 0 5) rfl rfl rfl
    rwa [hSl, hmax] at this
  have hold : ∀ (w : World) (p : Addr), p.block < w.heap.size → (Lib.bytesWorld w 5 s).cell? p = w.cell? p := fun w p hp => (Joins.below_bytesWorld w.heap.size w _ s (Nat.le_refl _)).cell hp
  generalize (s.data.toList.getD at_ 0).toNat = x at *
  clear hrow hS hl hls hmax
  go_enter Try.func14, Try.ntmps14
  have hold2 : ∀ (w' : World) (k o : Nat) (v : Value), k < w'.heap.size → ((Lib.bytesWorld w' 5 s).setCell ⟨w'.heap.size, at_, none⟩ v).cell? ⟨k, o, none⟩ = w'.cell? ⟨k, o, none⟩ := fun w' k o v hk => by
    rw [← hold w' ⟨k, o, none⟩ hk, World.cell?_setCell_other]
    simp only [ne_eq, Addr.mk.injEq, not_and]; omega
  have hold3 : ∀ (w' : World) (k o : Nat) (v : Value), k < w'.heap.size → ((Lib.bytesWorld w' 5 s).setCell ⟨w'.heap.size, at_, none⟩ v).frozen? ⟨k, o, none⟩ = w'.frozen? ⟨k, o, none⟩ := fun w' k o v hk => by
    have e : ((Lib.bytesWorld w' 5 s).setCell ⟨w'.heap.size, at_, none⟩ v).heap[k]? = w'.heap[k]? := by
      rw [Below.heap_setCell _ _ _ _ (by show k ≠ w'.heap.size; omega)]
      exact (Joins.below_bytesWorld w'.heap.size w' _ s (Nat.le_refl _)).block k hk
    simp only [World.frozen?, e]
  clear hold
  go_wp2_with (first | (go_at_call 20; (first | (with_reducible refine Calls.mono (Calls.gr (hR _)) ?_) | (refine Calls.mono (Calls.gr0 (hR _)) ?_)); rintro e w' ⟨rfl, g, rfl⟩; have hgl := g.le; (try simp only [World.size_alloc] at hgl); (try simp only [World.size_setCell] at hgl)) | ((go_at_call 16; (first | (with_reducible refine Calls.mono (Calls.gr (hP _)) ?_) | (refine Calls.mono (Calls.gr0 (hP _)) ?_)); rintro e w' ⟨rfl, g, rfl⟩; have hgl := g.le; (try simp only [World.size_alloc] at hgl); (try simp only [World.size_setCell] at hgl)); have hx0 := fun o v => hold2 g.world w.heap.size o v (by omega); have hx1 := fun o v => hold2 g.world (w.heap.size + 1) o v (by omega); have hx2 := fun o v => hold3 g.world (w.heap.size + 1) o v (by omega)))
  have hB0 : Below w.heap.size w g.world := (by repeat (first | exact Below.refl _ _ | assumption | (refine Below.setCell ?_ (by (first | omega | (simp; done) | (simp; omega) | (simp at *; omega))) _) | (refine Below.alloc ?_ (by (first | omega | (simp; done) | (simp; omega) | (simp at *; omega))) _) | (refine Below.drew ?_) | (refine Gr.into _ ?_ (by (first | omega | (simp; done) | (simp; omega) | (simp at *; omega))))))
  have hB : Below w.heap.size w (Lib.bytesWorld g.world 5 s) := hB0.trans (Joins.below_bytesWorld _ _ _ s (by omega))
  have hz := hsz g.world 5 s
  exact bodyPost_ret (v := .tuple #[.agg #[.int .i64 b, .string ⟨S.toArray⟩], .int .i64 0]) (by simp [results, Try.results14, go_sem, hx1, hz]) rfl ⟨rfl, ((hB.setCell (p := ⟨g.world.heap.size, at_, none⟩) (by show _ ≤ g.world.heap.size; omega) _).setCell (p := ⟨w.heap.size + 1, 0, none⟩) (by show _ ≤ w.heap.size + 1; omega) _).setCell (p := ⟨w.heap.size + 1, 1, none⟩) (by show _ ≤ w.heap.size + 1; omega) _⟩

theorem rof_no (b : Int) (v : Value) (zs : List Nat) (w : World) (h : isBitsB b = false) (hz : U64s w.heap.size w v zs) :
    Calls Try.prog 12 #[.int .i64 b, v] w fun e w' => e = hllRes 0 ⟨#[]⟩ 70 ∧ Below w.heap.size w w' := by
  have hN : ∀ w, Calls Try.prog 18 #[.int .i64 b] w fun e w' => e = hllRes 0 ⟨#[]⟩ 70 ∧ Below w.heap.size w w' := fun w => rnew_no b w h
  obtain ⟨-, -, ⟨a, rfl, rfl⟩ | ⟨a, off, cap, rfl, h3, hc, h4⟩⟩ := hz
  · go_enter Try.func12, Try.ntmps12
    go_wp2_with (first | (go_at_call 18; (first | (with_reducible refine Calls.mono (Calls.gr (hN _)) ?_) | (refine Calls.mono (Calls.gr0 (hN _)) ?_)); rintro e w' ⟨rfl, g, rfl⟩; have hgl := g.le; (try simp only [World.size_alloc] at hgl); (try simp only [World.size_setCell] at hgl)))
    refine wp_loop_rounds 1 ?_
    rw [rounds_succ]
    go_wp2
    exact bodyPost_ret (v := .tuple #[.agg #[.int .i64 0, .string ⟨#[]⟩], .int .i64 70]) (by simp [results, Try.results12, go_sem]) rfl ⟨rfl, (by repeat (first | exact Below.refl _ _ | assumption | (refine Below.setCell ?_ (by (first | omega | (simp; done) | (simp; omega) | (simp at *; omega))) _) | (refine Below.alloc ?_ (by (first | omega | (simp; done) | (simp; omega) | (simp at *; omega))) _) | (refine Below.drew ?_) | (refine Gr.into _ ?_ (by (first | omega | (simp; done) | (simp; omega) | (simp at *; omega))))))⟩
  · by_cases h0 : 0 < zs.length
    all_goals
      go_enter Try.func12, Try.ntmps12
      go_wp2_with (first | (go_at_call 18; (first | (with_reducible refine Calls.mono (Calls.gr (hN _)) ?_) | (refine Calls.mono (Calls.gr0 (hN _)) ?_)); rintro e w' ⟨rfl, g, rfl⟩; have hgl := g.le; (try simp only [World.size_alloc] at hgl); (try simp only [World.size_setCell] at hgl)))
      refine wp_loop_rounds 1 ?_
      rw [rounds_succ]
      go_wp2
      exact bodyPost_ret (v := .tuple #[.agg #[.int .i64 0, .string ⟨#[]⟩], .int .i64 70]) (by simp [results, Try.results12, go_sem]) rfl ⟨rfl, (by repeat (first | exact Below.refl _ _ | assumption | (refine Below.setCell ?_ (by (first | omega | (simp; done) | (simp; omega) | (simp at *; omega))) _) | (refine Below.alloc ?_ (by (first | omega | (simp; done) | (simp; omega) | (simp at *; omega))) _) | (refine Below.drew ?_) | (refine Gr.into _ ?_ (by (first | omega | (simp; done) | (simp; omega) | (simp at *; omega))))))⟩

theorem addRegs_right {b : Nat} (h : isBitsB b = true) (zs : List Nat) : rightB b (addRegs b (noRegs b) zs) = true := rightB_addRegs zs (noRegs_right b h)

theorem rof_yes (b : Nat) (v : Value) (zs : List Nat) (w : World) (h : isBitsB b = true) (hz : U64s w.heap.size w v zs) :
    Calls Try.prog 12 #[.int .i64 b, v] w fun e w' => e = hllRes b ⟨(addRegs b (noRegs b) zs).toArray⟩ 0 ∧ Below w.heap.size w w' := by
  have hN : ∀ w, Calls Try.prog 18 #[.int .i64 b] w fun e w' => e = hllRes b ⟨(noRegs b).toArray⟩ 0 ∧ Below w.heap.size w w' := fun w => rnew_yes b w h
  obtain ⟨f, hf⟩ : ∃ f : Nat → ByteArray, ∀ k, f k = ⟨(addRegs b (noRegs b) (zs.take k)).toArray⟩ := ⟨_, fun _ => rfl⟩
  have hf0 : (⟨(noRegs b).toArray⟩ : ByteArray) = f 0 := by rw [hf]; simp [addRegs]
  have hfn : (⟨(addRegs b (noRegs b) zs).toArray⟩ : ByteArray) = f zs.length := by rw [hf, List.take_of_length_le (Nat.le_refl _)]
  have hA : ∀ k (hk : k < zs.length) w, zs[k] < 2 ^ 64 → Calls Try.prog 14 #[.agg #[.int .i64 b, .string (f k)], .int .u64 (zs[k] : Nat)] w fun e w' => e = hllRes b (f (k + 1)) 0 ∧ Below w.heap.size w w' := fun k hk w hlt => by
    have := radd_yes b zs[k] ⟨(addRegs b (noRegs b) (zs.take k)).toArray⟩ w (addRegs_right h _) hlt
    rw [hf, hf, addRegs_snoc _ _ _ _ hk]
    exact this
  rw [hf0] at hN
  rw [hfn]
  clear hf hf0 hfn
  obtain ⟨hlt, hlen, ⟨a, rfl, rfl⟩ | ⟨a, off, cap, rfl, h3, hc, h4⟩⟩ := hz
  · go_enter Try.func12, Try.ntmps12
    go_wp2_with (first | (go_at_call 18; (first | (with_reducible refine Calls.mono (Calls.gr (hN _)) ?_) | (refine Calls.mono (Calls.gr0 (hN _)) ?_)); rintro e w' ⟨rfl, g, rfl⟩; have hgl := g.le; (try simp only [World.size_alloc] at hgl); (try simp only [World.size_setCell] at hgl)))
    refine wp_loop_rounds 1 ?_
    rw [rounds_succ]
    go_wp2
    exact bodyPost_ret (v := .tuple #[.agg #[.int .i64 b, .string (f 0)], .int .i64 0]) (by simp [results, Try.results12, go_sem]) rfl ⟨rfl, (by repeat (first | exact Below.refl _ _ | assumption | (refine Below.setCell ?_ (by (first | omega | (simp; done) | (simp; omega) | (simp at *; omega))) _) | (refine Below.alloc ?_ (by (first | omega | (simp; done) | (simp; omega) | (simp at *; omega))) _) | (refine Below.drew ?_) | (refine Gr.into _ ?_ (by (first | omega | (simp; done) | (simp; omega) | (simp at *; omega))))))⟩
  · go_enter Try.func12, Try.ntmps12
    go_wp2_with (first | (go_at_call 18; (first | (with_reducible refine Calls.mono (Calls.gr (hN _)) ?_) | (refine Calls.mono (Calls.gr0 (hN _)) ?_)); rintro e w' ⟨rfl, g, rfl⟩; have hgl := g.le; (try simp only [World.size_alloc] at hgl); (try simp only [World.size_setCell] at hgl)))
    refine wp_named (fun W hW => ?_)
    have hBW : Below w.heap.size w W := by rw [hW]; exact (by repeat (first | exact Below.refl _ _ | assumption | (refine Below.setCell ?_ (by (first | omega | (simp; done) | (simp; omega) | (simp at *; omega))) _) | (refine Below.alloc ?_ (by (first | omega | (simp; done) | (simp; omega) | (simp at *; omega))) _) | (refine Below.drew ?_) | (refine Gr.into _ ?_ (by (first | omega | (simp; done) | (simp; omega) | (simp at *; omega))))))
    have r : RowAt W (w.heap.size) 23 [.int .i64 0, .string ⟨#[]⟩] := by rw [hW]; exact (by repeat (first | assumption | exact RowAt.new_at _ _ _ _ (by (first | omega | (simp; done) | (simp; omega) | (simp at *; omega))) | (refine RowAt.alloc ?_ _) | (refine RowAt.gr ?_ _) | (refine RowAt.setOther ?_ _ _ (by (first | omega | (simp; done) | (simp; omega) | (simp at *; omega)))) | (refine RowAt.drew ?_)))
    have x : RowAt W (g.world.heap.size) 23 [.int .i64 b, .string (f 0)] := by rw [hW]; exact (by repeat (first | assumption | exact RowAt.new_at _ _ _ _ (by (first | omega | (simp; done) | (simp; omega) | (simp at *; omega))) | (refine RowAt.alloc ?_ _) | (refine RowAt.gr ?_ _) | (refine RowAt.setOther ?_ _ _ (by (first | omega | (simp; done) | (simp; omega) | (simp at *; omega)))) | (refine RowAt.drew ?_)))
    clear hW
    obtain ⟨rc0, rc1, rf0, rf1, rl⟩ := r.two
    obtain ⟨xc0, xc1, xf0, xf1, xl⟩ := x.two
    generalize g.world.heap.size = kx at *
    clear g
    go_loopw [7, 8] (fun e i wr => ∃ k : Nat, k ≤ zs.length ∧ i = .int .i64 k ∧ e = .int .i64 0 ∧ Below w.heap.size w wr ∧ RowAt wr w.heap.size 23 [.int .i64 0, .string ⟨#[]⟩] ∧ RowAt wr kx 23 [.int .i64 b, .string (f k)])
      (fun _ i _ => zs.length - (intOf i).toNat)
    case atStart => exact ⟨0, by omega, rfl, rfl, hBW, r, x⟩
    case round =>
      obtain ⟨k, hk, rfl, rfl, hB, rr, rx⟩ := hrel
      obtain ⟨xc0, xc1, xf0, xf1, xl⟩ := rx.two
      obtain ⟨rc0, rc1, rf0, rf1, rl⟩ := rr.two
      by_cases hlk : k < zs.length
      · have hcell := h4 k hlk
        rw [← hB.cell (p := ⟨a, off + k, none⟩) h3] at hcell
        have hz2 := hlt zs[k] (List.getElem_mem hlk)
        have ha : a < wr.heap.size := Nat.lt_of_lt_of_le h3 hB.size
        have hA2 := fun w => hA k hlk w hz2
        go_wp2
        refine wp_region_gr_loose 7 4 (by kernel_rfl) (by kernel_rfl) ?_
        simp only [List.take_succ_cons, List.take_zero]
        repeat (go_big_quiet_step (first | (go_at_call 14; exact Calls.gr (hA2 _))))
        refine wpQuiet_nil ?_
        intro g2
        refine wpAny_two 7 8 (by kernel_rfl) rfl rfl rfl rfl (fun K hK => ?_) (fun K hK => ?_)
        · go_wp2
          refine wpAny_two 8 9 (by kernel_rfl) rfl rfl rfl rfl (fun K hK => ?_) (fun K hK => ?_)
          · go_wp2
            refine wpAny_one 9 (by kernel_rfl) rfl rfl (fun K hK => ?_)
            go_wp2
            refine wpAny_one 10 (by kernel_rfl) rfl rfl (fun K hK => ?_)
            go_wp2
            refine wpAny_end (by kernel_rfl) ?_
            go_wp2
            go_roundw
            case rel => exact ⟨k + 1, by omega, by go_num, rfl, (by repeat (first | exact Below.refl _ _ | assumption | (refine Below.setCell ?_ (by (first | omega | (simp; done) | (simp; omega) | (simp at *; omega))) _) | (refine Below.alloc ?_ (by (first | omega | (simp; done) | (simp; omega) | (simp at *; omega))) _) | (refine Below.drew ?_) | (refine Gr.into _ ?_ (by (first | omega | (simp; done) | (simp; omega) | (simp at *; omega)))))), ((rr.gr g2).setOther _ _ (by show w.heap.size ≠ kx; omega)).setOther _ _ (by show w.heap.size ≠ kx; omega), ((rx.gr g2).set 0 _).set 1 _⟩
            case measure => simp [intOf]; omega
          · go_wp2
            refine wpAny_one 8 (by kernel_rfl) rfl rfl (fun K hK => ?_)
            go_wp2
            refine wpAny_one 10 (by kernel_rfl) rfl rfl (fun K hK => ?_)
            go_wp2
            refine wpAny_end (by kernel_rfl) ?_
            go_wp2
            go_roundw
            case rel => exact ⟨k + 1, by omega, by go_num, rfl, (by repeat (first | exact Below.refl _ _ | assumption | (refine Below.setCell ?_ (by (first | omega | (simp; done) | (simp; omega) | (simp at *; omega))) _) | (refine Below.alloc ?_ (by (first | omega | (simp; done) | (simp; omega) | (simp at *; omega))) _) | (refine Below.drew ?_) | (refine Gr.into _ ?_ (by (first | omega | (simp; done) | (simp; omega) | (simp at *; omega)))))), ((rr.gr g2).setOther _ _ (by show w.heap.size ≠ kx; omega)).setOther _ _ (by show w.heap.size ≠ kx; omega), ((rx.gr g2).set 0 _).set 1 _⟩
            case measure => simp [intOf]; omega
        · go_wp2
          refine wpAny_one 7 (by kernel_rfl) rfl rfl (fun K hK => ?_)
          go_wp2
          refine wpAny_one 9 (by kernel_rfl) rfl rfl (fun K hK => ?_)
          go_wp2
          refine wpAny_one 10 (by kernel_rfl) rfl rfl (fun K hK => ?_)
          go_wp2
          refine wpAny_end (by kernel_rfl) ?_
          go_wp2
          go_roundw
          case rel => exact ⟨k + 1, by omega, by go_num, rfl, (by repeat (first | exact Below.refl _ _ | assumption | (refine Below.setCell ?_ (by (first | omega | (simp; done) | (simp; omega) | (simp at *; omega))) _) | (refine Below.alloc ?_ (by (first | omega | (simp; done) | (simp; omega) | (simp at *; omega))) _) | (refine Below.drew ?_) | (refine Gr.into _ ?_ (by (first | omega | (simp; done) | (simp; omega) | (simp at *; omega)))))), ((rr.gr g2).setOther _ _ (by show w.heap.size ≠ kx; omega)).setOther _ _ (by show w.heap.size ≠ kx; omega), ((rx.gr g2).set 0 _).set 1 _⟩
          case measure => simp [intOf]; omega
      · obtain rfl : k = zs.length := by omega
        go_wp2
        exact bodyPost_ret (v := .tuple #[.agg #[.int .i64 b, .string (f zs.length)], .int .i64 0]) (by simp [results, Try.results12, go_sem, rc0, rc1, rl]) rfl ⟨rfl, (by repeat (first | exact Below.refl _ _ | assumption | (refine Below.setCell ?_ (by (first | omega | (simp; done) | (simp; omega) | (simp at *; omega))) _) | (refine Below.alloc ?_ (by (first | omega | (simp; done) | (simp; omega) | (simp at *; omega))) _) | (refine Below.drew ?_) | (refine Gr.into _ ?_ (by (first | omega | (simp; done) | (simp; omega) | (simp at *; omega))))))⟩
end Go.Proofs.Ytngahohheleeeaa
