/- The walk of Names: it returns true. -/
import Derived.Test.YtjbnfigpflambaaBase
import Derived.Deep.DeepCutAuto
import Derived.Maps.AppendAt
import Derived.Deep.QuietTactic
import Derived.BigQuiet
namespace Go.Proofs.Ytjbnfigpflambaa
open Go.ChangeShapes Go.WideShapes Go.ChangeAt Go.RowKit

def cellsL (l : List Int) : List Value := l.map (Value.int .i64)
theorem one_cells (l : List Int) : ∀ u ∈ cellsL l, u.oneCell' = true := by
  intro u hu
  simp only [cellsL, List.mem_map] at hu
  obtain ⟨a, _, rfl⟩ := hu
  rfl
theorem int_info : (Try.prog.info? 3).map (fun i => (i.zero, i.size, i.bytes)) = some (some (.int .i64 0), 1, 8) := by kernel_rfl
/-- a literal slice of integers -/
theorem own_lit (w : World) (l : List Int) (B : Nat) (hB : B ≤ w.heap.size) (hl : l.length ≤ maxLen) :
    (w.alloc (.cells (cellsL l).toArray 3)).ownsRow B 3 1 (.slice (some ⟨w.heap.size, 0, none⟩) l.length l.length) l.length (cellsL l) :=
  ⟨by simp [cellsL], .inr ⟨w.heap.size, l.length, (cellsL l).toArray, rfl, hB, heap_alloc_new w _, Nat.le_refl _, hl, by simp [cellsL], by simp only [cellsL, Nat.mul_one]; exact List.take_of_length_le (by simp)⟩⟩
theorem lit_cells (w : World) (l : List Int) : ∀ j u, (cellsL l)[j]? = some u → (w.alloc (.cells (cellsL l).toArray 3)).cell? ((⟨w.heap.size, 0, none⟩ : Addr).add j) = some u := by
  intro j u hu
  have hadd : (⟨w.heap.size, 0, none⟩ : Addr).add j = ⟨w.heap.size, j, none⟩ := by unfold Addr.add; split <;> simp_all
  rw [hadd]
  refine (cell_of_row _ _ j _ _ (0, 0) (heap_alloc_new w _)).trans ?_
  simpa using hu
theorem own_form {w : World} {B e n : Nat} {v : Value} {xs : List Value} (h : w.ownsRow B e 1 v n xs) (hn : 0 < n) : ∃ a cap, v = .slice (some ⟨a, 0, none⟩) n cap := by
  rcases h.2 with ⟨_, h0⟩ | ⟨g, cap, _, hv, _⟩
  · omega
  · exact ⟨g, cap, hv⟩
theorem own_at {w : World} {B e a n cap : Nat} {l : List Int} (h : w.ownsRow B e 1 (.slice (some ⟨a, 0, none⟩) n cap) n (cellsL l)) (k : Nat) (hk : k < n) (hl : l.length = n) : w.cell? ⟨a, k, none⟩ = some (.int .i64 (l.getD k 0)) := by
  have hk' : k < l.length := by omega
  have h1 := h.cells (g := a) rfl k (.int .i64 l[k]) (by simp [cellsL, hk'])
  have hadd : (⟨a, 0, none⟩ : Addr).add k = ⟨a, k, none⟩ := by unfold Addr.add; split <;> simp_all
  rw [hadd] at h1
  rw [h1]
  simp [List.getD, hk']
def nums : List Int := [8, 20, 60, 6, 6, 100, 8, 6, 4, 300, 1000, 0, 1, 2, 1, 2, 3, 4, 1, 2, 3, 1, 2]
def ups (k : Nat) : List Int := (List.range' 1 k).map Int.ofNat
theorem ups_succ (k : Nat) : ups (k + 1) = ups k ++ [((k : Int) + 1)] := by
  unfold ups
  rw [List.range'_concat, List.map_append]
  simp
  omega
def errsW (w : World) : World := w.alloc (.cells #[.int .i64 0, .int .i64 1, .int .i64 2, .int .i64 3, .int .i64 4, .int .i64 5, .int .i64 6] 22)
theorem errs_cell (w : World) (k : Nat) (hk : k < 7) : (errsW w).cell? ⟨w.heap.size, k, none⟩ = some (.int .i64 (k : Int)) := by
  refine (cell_of_row _ _ k _ _ (0, 0) (heap_alloc_new w _)).trans ?_
  have h : k = 0 ∨ k = 1 ∨ k = 2 ∨ k = 3 ∨ k = 4 ∨ k = 5 ∨ k = 6 := by omega
  rcases h with rfl | rfl | rfl | rfl | rfl | rfl | rfl <;> rfl
set_option maxHeartbeats 1000000 in
theorem names_walk (w : World) :
    Calls Try.prog 3 #[] w fun e w' => e = .returned (.bool true) ∧ Below w.heap.size w w' := by
  obtain ⟨i0, hi0, hz0, hz1, hz2⟩ := info_parts int_info
  go_enter Try.func3, Try.ntmps3
  go_wp2_with fail
  have hc := errs_cell w
  have hb : Below w.heap.size w (errsW w) := boxed w _
  have e : w.alloc (.cells #[.int .i64 0, .int .i64 1, .int .i64 2, .int .i64 3, .int .i64 4, .int .i64 5, .int .i64 6] 22) = errsW w := rfl
  rw [e]
  clear e
  have hz : (errsW w).heap.size = w.heap.size + 1 := by unfold errsW; simp
  generalize errsW w = w1 at *
  have HB := Lib.hid hb
  have HC := Lib.hid hc
  have HZ := Lib.hid hz
  clear hb hc hz
  go_loop [2] (fun i => ∃ k : Nat, k ≤ 7 ∧ i = .int .i64 k) (fun i => 7 - (intOf i).toNat)
  case atStart => exact ⟨0, Nat.zero_le _, rfl⟩
  case round =>
    obtain ⟨k, hk, rfl⟩ := hrel
    by_cases hlt : k < 7
    · have h0 := HC.out k hlt
      have h1 : (k : Int) < 7 := by omega
      go_wp2_with fail
      go_round
      case rel => exact ⟨k + 1, by omega, by go_num⟩
      case measure => simp [intOf]; omega
    · obtain rfl : k = 7 := by omega
      go_upto_region 7 with fail
      go_cut [3] (fun c wx => ∃ g : Nat, c = .slice (some ⟨g, 0, none⟩) 23 23 ∧ wx.ownsRow w.heap.size 3 1 c 23 (cellsL nums) ∧ Below w.heap.size w wx)
      case first =>
        go_wp2_with fail
        go_meet
        exact ⟨_, rfl, own_lit w1 nums _ HB.out.size (by decide), HB.out.alloc HB.out.size _⟩
      case rest =>
        obtain ⟨g, rfl, hown, hb⟩ := hcut
        have HO := Lib.hid hown
        have HB2 := Lib.hid hb
        clear hown hb
        go_upto_region 8 with fail
        go_cut [4] (fun c wx => ∃ g' : Nat, c = .slice (some ⟨g', 0, none⟩) 23 23 ∧ g ≠ g' ∧ wx.ownsRow w.heap.size 3 1 c 23 (cellsL nums) ∧ wx.ownsRow w.heap.size 3 1 (.slice (some ⟨g, 0, none⟩) 23 23) 23 (cellsL nums) ∧ Below w.heap.size w wx)
        case first =>
          go_wp2_with fail
          go_meet
          exact ⟨_, rfl, Nat.ne_of_lt (HO.out.lt g rfl).2, own_lit wc nums _ HB2.out.size (by decide), HO.out.alloc _, HB2.out.alloc HB2.out.size _⟩
        case rest =>
          obtain ⟨g', rfl, hne, hown', hown, hb⟩ := hcut
          have HN := Lib.hid hne
          have HO := Lib.hid hown
          have HO' := Lib.hid hown'
          have HB3 := Lib.hid hb
          clear hown hb hown' hne
          go_upto_region 9 with fail
          go_cut [3] (fun c wx => ∃ a cap : Nat, c = .slice (some ⟨a, 0, none⟩) 34 cap ∧ a ≠ g' ∧ wx.ownsRow w.heap.size 3 1 c 34 (cellsL (nums ++ ups 11)) ∧ wx.ownsRow w.heap.size 3 1 (.slice (some ⟨g', 0, none⟩) 23 23) 23 (cellsL nums) ∧ Below w.heap.size w wx)
          case first =>
            have hA := HO.out.alloc (.cells (cellsL (ups 11)).toArray 3)
            have HAA := Lib.hid hA
            clear hA
            go_wp2_with (at_builtin; refine wpList_append_own_at _ rfl (.tmp 22) (.tmp 23) 24 rfl w.heap.size 3 i0 (.int .i64 0) 1 8 Try.underlying24 hi0 hz0 hz1 hz2 rfl (by decide) (.slice (some ⟨g, 0, none⟩) 23 23) 23 (cellsL nums) rfl HAA.out ⟨wc.heap.size, 0, none⟩ 11 11 (cellsL (ups 11)) rfl (by decide) (lit_cells wc (ups 11)) (one_cells _) (by decide) (by decide) (Nat.le_trans HB3.out.size (by simp)) ?_; rotate_right; skip)
            intro v2 w2 hown2 hgrow _ hblk
            obtain ⟨a, cap, rfl⟩ := own_form hown2 (by omega)
            have hg' := (HO'.out.lt g' rfl)
            have hag : a ≠ g' := by
              rcases hblk with h | h
              · have h' : a = g := by simpa [Value.ownBlock] using h
                rw [h']
                exact HN.out
              · have h' : a = wc.heap.size + 1 := by simpa [Value.ownBlock] using h
                omega
            have hk := (HO'.out.alloc (.cells (cellsL (ups 11)).toArray 3)).kept hgrow (.inr (by simpa [Value.ownBlock] using Ne.symm HN.out))
            have hb2 := (HB3.out.alloc HB3.out.size (.cells (cellsL (ups 11)).toArray 3)).grown hgrow (Nat.le_trans HB3.out.size (by simp)) (fun k hk => by
              have : g = k := by simpa [Value.ownBlock] using hk
              have := (HO.out.lt g rfl).1
              omega)
            have H2 := Lib.hid hown2
            have HK := Lib.hid hk
            have HB4 := Lib.hid hb2
            have HAG := Lib.hid hag
            clear hown2 hgrow hblk hg' hag hk hb2
            go_wp2_with fail
            go_meet
            exact ⟨a, cap, rfl, HAG.out, by simpa [cellsL] using H2.out, HK.out, HB4.out⟩
          case rest =>
            obtain ⟨a, cap, rfl, hag, hall, hwant, hb⟩ := hcut
            have HAG := Lib.hid hag
            have HALL := Lib.hid hall
            have HW := Lib.hid hwant
            have HB4 := Lib.hid hb
            clear hag hall hwant hb
            go_wp2_with fail
            go_loopw [4, 5] (fun v i wr => ∃ j : Nat, 1 ≤ j ∧ j ≤ 12 ∧ i = .int .i64 j ∧ wr.ownsRow w.heap.size 3 1 v (22 + j) (cellsL (nums ++ ups (j - 1))) ∧ wr.ownsRow w.heap.size 3 1 (.slice (some ⟨a, 0, none⟩) 34 cap) 34 (cellsL (nums ++ ups 11)) ∧ v.ownBlock ≠ some a ∧ Below w.heap.size w wr) (fun _ i _ => 12 - (intOf i).toNat)
            case atStart => exact ⟨1, by omega, by omega, rfl, HW.out, HALL.out, by simpa [Value.ownBlock] using Ne.symm HAG.out, HB4.out⟩
            case round =>
              obtain ⟨j, j1, j2, rfl, hown, hall, hne, hb⟩ := hrel
              clear HALL HW HB4 HB HC HZ HO HO' HB2 HB3
              by_cases hj : j ≤ 11
              · have hA := hown.alloc (.cells (cellsL [(j : Int)]).toArray 3)
                have hz : w.heap.size ≤ (wr.alloc (.cells (cellsL [(j : Int)]).toArray 3)).heap.size := Nat.le_trans hb.size (by simp)
                have HAA := Lib.hid hA
                have HU := Lib.hid hown
                have HALL := Lib.hid hall
                have HNE := Lib.hid hne
                have HB4 := Lib.hid hb
                have HZ := Lib.hid hz
                clear hA hown hall hne hb hz
                go_wp2_with (at_builtin; refine wpList_append_own_at _ rfl (.tmp 29) (.tmp 31) 24 rfl w.heap.size 3 i0 (.int .i64 0) 1 8 Try.underlying24 hi0 hz0 hz1 hz2 rfl (by decide) u4 (22 + j) (cellsL (nums ++ ups (j - 1))) rfl HAA.out ⟨wr.heap.size, 0, none⟩ 1 1 (cellsL [(j : Int)]) rfl rfl (lit_cells wr [(j : Int)]) (one_cells _) (by unfold maxLen; omega) (by omega) HZ.out ?_; rotate_right; skip)
                intro v2 w2 hown2 hgrow _ hblk
                have hlt := HALL.out.lt a rfl
                have hne2 : v2.ownBlock ≠ some a := by
                  rcases hblk with h | h
                  · rw [h]; exact HNE.out
                  · rw [h]
                    intro he
                    have h1 : wr.heap.size + 1 = a := Option.some.inj he
                    omega
                have hk := (HALL.out.alloc (.cells (cellsL [(j : Int)]).toArray 3)).kept hgrow (.inr (by show some a ≠ _; exact Ne.symm HNE.out))
                have hb2 := (HB4.out.alloc HB4.out.size (.cells (cellsL [(j : Int)]).toArray 3)).grown hgrow HZ.out (fun k hk => (HU.out.lt k hk).1)
                have e : cellsL (nums ++ ups (j - 1)) ++ cellsL [(j : Int)] = cellsL (nums ++ ups (j + 1 - 1)) := by
                  have h := ups_succ (j - 1)
                  have hj1 : j - 1 + 1 = j := by omega
                  have hj2 : (((j - 1 : Nat) : Int) + 1) = (j : Int) := by omega
                  rw [hj1, hj2] at h
                  rw [Nat.add_sub_cancel, h]
                  simp [cellsL]
                rw [e] at hown2
                have H2 := Lib.hid hown2
                have HK := Lib.hid hk
                have HBB := Lib.hid hb2
                have HN2 := Lib.hid hne2
                clear hown2 hgrow hblk hlt hne2 hk hb2 e
                go_wp2_with fail
                go_roundw
                case rel => exact ⟨j + 1, by omega, by omega, by go_num, H2.out, HK.out, HN2.out, HBB.out⟩
                case measure => simp [intOf]; omega
              · obtain rfl : j = 12 := by omega
                obtain ⟨a', cap', rfl⟩ := own_form hown (by omega)
                have hd : ∀ k : Nat, k < 34 → wr.cell? ⟨a, k, none⟩ = some (.int .i64 ((nums ++ ups 11).getD k 0)) ∧ wr.cell? ⟨a', k, none⟩ = some (.int .i64 ((nums ++ ups 11).getD k 0)) := fun k hk => ⟨own_at hall k hk rfl, own_at hown k hk rfl⟩
                have HD := Lib.hid hd
                have HBB := Lib.hid hb
                clear hd hb hown hall hne
                go_wp2_with fail
                go_loopw [6] (fun i wx => ∃ k n : Nat, k ≤ 34 ∧ i = .int .i64 k ∧ wx = wr.drewN n) (fun i _ => 34 - (intOf i).toNat)
                case atStart => exact ⟨0, 0, by omega, rfl, rfl⟩
                case round =>
                  obtain ⟨k, n, hk, rfl, rfl⟩ := hrel
                  by_cases hlt : k < 34
                  · obtain ⟨d1, d2⟩ := HD.out k hlt
                    obtain ⟨x, hx⟩ : ∃ x, (nums ++ ups 11).getD k 0 = x := ⟨_, rfl⟩
                    rw [hx] at d1 d2
                    clear hx
                    have g1 : (k : Int) < 34 := by omega
                    have g2 : (0 : Int) ≤ (k : Int) := by omega
                    go_wp2_with fail
                    go_quiet (fail)
                    go_wp2_with fail
                    go_roundw
                    case rel => exact ⟨k + 1, _, by omega, by go_num, rfl⟩
                    case measure => simp [intOf]; omega
                  · obtain rfl : k = 34 := by omega
                    go_wp2_with fail
                    go_ret
                    exact ⟨rfl, below_drewN HBB.out _⟩
end Go.Proofs.Ytjbnfigpflambaa
