/-
  The reference's Take and Least.
-/
import Derived.Test.YtanaicjeheacoaaRef3
import Derived.KernelRfl
namespace Go.Proofs.Ytanaicjeheacoaa
open Go.RowKit Go.Deep
namespace Rf

/-- a region's operations -/
def regionOf (n : Nat) : Code → Option (Array Oper)
  | .region id ops _ => if id = n then some ops else none
  | .seq a b => match regionOf n a with
    | some c => some c
    | none => regionOf n b
  | .block _ c => regionOf n c
  | .scope c => regionOf n c
  | .loop c => regionOf n c
  | .cond _ a b => match regionOf n a with
    | some c => some c
    | none => regionOf n b
  | _ => none

theorem lexTake : Region.lexB .any ((Try.f19.body.bind (regionOf 6)).getD #[]) = true := by kernel_rfl
theorem lexLeast : Region.lexB .any ((Try.f21.body.bind (regionOf 5)).getD #[]) = true := by kernel_rfl

/-- the least of those that have been looked at, and of which p holds -/
def Least (us : List It) (p : It → Bool) (z : Int) : Prop := (z = -1 ∧ ∀ x ∈ us, p x = false) ∨ (∃ (i : Nat) (y : It), z = i ∧ us[i]? = some y ∧ p y = true ∧ ∀ x ∈ us, p x = true → y.base ≤ x.base)

theorem Least.skip {us : List It} {p : It → Bool} {z : Int} {x : It} (h : Least us p z) (hx : p x = false ∨ ∃ (i : Nat) (y : It), z = i ∧ us[i]? = some y ∧ y.base ≤ x.base) : Least (us ++ [x]) p z := by
  rcases h with ⟨rfl, h⟩ | ⟨i, y, rfl, h1, h2, h3⟩
  · refine .inl ⟨rfl, fun u hu => ?_⟩
    rcases List.mem_append.1 hu with hu | hu
    · exact h u hu
    · simp only [List.mem_singleton] at hu; subst hu
      rcases hx with hx | ⟨i, y, h1, _⟩
      · exact hx
      · omega
  · have hlt := (List.getElem?_eq_some_iff.1 h1).1
    refine .inr ⟨i, y, rfl, by rw [List.getElem?_append_left hlt]; exact h1, h2, fun u hu hpu => ?_⟩
    rcases List.mem_append.1 hu with hu | hu
    · exact h3 u hu hpu
    · simp only [List.mem_singleton] at hu; subst hu
      rcases hx with hx | ⟨j, y', e1, e2, e3⟩
      · rw [hx] at hpu; simp at hpu
      · have : i = j := by omega
        subst this
        rw [h1] at e2
        simp only [Option.some.injEq] at e2
        subst e2; exact e3

theorem Least.take {us : List It} {p : It → Bool} {z : Int} {x : It} (h : Least us p z) (hx : p x = true) (hz : z = -1 ∨ ∃ (i : Nat) (y : It), z = i ∧ us[i]? = some y ∧ x.base < y.base) : Least (us ++ [x]) p us.length := by
  refine .inr ⟨us.length, x, rfl, by simp, hx, fun u hu hpu => ?_⟩
  rcases List.mem_append.1 hu with hu | hu
  · rcases h with ⟨rfl, h⟩ | ⟨i, y, rfl, h1, h2, h3⟩
    · rw [h u hu] at hpu; simp at hpu
    · have := h3 u hu hpu
      rcases hz with hz | ⟨j, y', e1, e2, e3⟩
      · omega
      · have : i = j := by omega
        subst this
        rw [h1] at e2
        simp only [Option.some.injEq] at e2
        subst e2; omega
  · simp only [List.mem_singleton] at hu; subst hu; exact Int.le_refl _

/-- what Least answers -/
def AnsLeast (L : List It) (w : World) (e : Ending) (w' : World) : Prop := ∃ id ok, e = .returned (.tuple #[.int .i64 id, .bool ok]) ∧ Hid (Fr (fun _ => False) w w' ∧ Leasts L id ok)

set_option maxHeartbeats 4000000 in
theorem least_any {r : Nat} {L : List It} {F : Nat → Prop} (w : World) (h0 : Mine w r L F) (hn : L.length ≤ 1000000) :
    Calls Try.prog 21 #[.pointer (some ⟨r, 0, none⟩)] w (AnsLeast L w) := by
  obtain ⟨a, c, h, hg⟩ := h0.is
  have hr0 := cell_blk h.root 0
  simp only [List.getElem?_toArray, List.getElem?_cons_zero] at hr0
  have H := Lib.hid h
  clear h hg h0
  go_enter Try.func21, Try.ntmps21
  go_wp2_with fail
  go_loopg [4, 5] L.length (fun k at' i wr => ∃ (us vs : List It) (z : Int) (q : Nat), at' = .int .i64 z ∧ i = .int .i64 us.length ∧ wr = w.drewN q ∧ Hid (L = us ++ vs ∧ vs.length = k ∧ Least us (fun x => !x.kd.2.2.2) z))
  case atStart => exact ⟨[], L, -1, 0, rfl, rfl, rfl, Lib.hid ⟨rfl, rfl, .inl ⟨rfl, by simp⟩⟩⟩
  case round =>
    obtain ⟨us, vs, z, q, rfl, rfl, rfl, HR⟩ := hrel
    cases vs with
    | cons x vs =>
      obtain ⟨g, rfl, _, c0, c1, c2, c3, c4, c5, _⟩ := row_cells H.out.row rfl (i := us.length) (x := x) (by rw [HR.out.1]; simp)
      have hlt : us.length < L.length := by rw [HR.out.1]; simp
      clear c0 c2 c3 c4
      cases hsw : x.kd.2.2.2 with
      | true =>
        have HS := Lib.hid hsw
        rw [hsw] at c5
        clear hsw
        go_wp2
        refine wp_region_quiet_lit (by kernel_rfl) lexLeast ?_
        repeat (go_big_quiet_step (fail))
        refine wpQuiet_nil ?_
        intro _ hw'
        obtain ⟨nq, hw''⟩ := hw'
        subst hw''
        go_wp2
        go_roundg vs.length
        case measure => have := HR.out.2.1; simp at this; omega
        case rel => exact ⟨us ++ [x], vs, z, _, rfl, by simp, rfl, Lib.hid ⟨by rw [HR.out.1]; simp, rfl, HR.out.2.2.skip (.inl (by simp [HS.out]))⟩⟩
      | false =>
        have HS := Lib.hid hsw
        rw [hsw] at c5
        clear hsw
        rcases HR.out.2.2 with ⟨rfl, hno⟩ | ⟨p, y, rfl, hp, hpy, hmin⟩
        · clear hno
          go_wp2
          refine wp_region_quiet_lit (by kernel_rfl) lexLeast ?_
          repeat (go_big_quiet_step (fail))
          refine wpQuiet_nil ?_
          intro _ hw'
          obtain ⟨nq, hw''⟩ := hw'
          subst hw''
          go_wp2
          go_roundg vs.length
          case measure => have := HR.out.2.1; simp at this; omega
          case rel => exact ⟨us ++ [x], vs, _, _, rfl, by simp, rfl, Lib.hid ⟨by rw [HR.out.1]; simp, rfl, HR.out.2.2.take (by simp [HS.out]) (.inl rfl)⟩⟩
        · obtain ⟨g', hge, _, d0, d1, d2, d3, d4, d5, _⟩ := row_cells H.out.row rfl (i := p) (x := y) (by rw [HR.out.1, List.getElem?_append_left (List.getElem?_eq_some_iff.1 hp).1]; exact hp)
          simp only [Option.some.injEq, Addr.mk.injEq] at hge
          obtain ⟨rfl, _⟩ := hge
          have hpl : p < L.length := by have := (List.getElem?_eq_some_iff.1 hp).1; omega
          have hp0 : decide ((p : Int) < 0) = false := by simp
          have HP := Lib.hid hp
          clear d0 d2 d3 d4 d5 hp hpy hmin
          by_cases hb : x.base < y.base
          · have hbb : decide (x.base < y.base) = true := by simpa using hb
            have HBB := Lib.hid hb
            go_wp2
            refine wp_region_quiet_lit (by kernel_rfl) lexLeast ?_
            repeat (go_big_quiet_step (fail))
            refine wpQuiet_nil ?_
            intro _ hw'
            obtain ⟨nq, hw''⟩ := hw'
            subst hw''
            go_wp2
            go_roundg vs.length
            case measure => have := HR.out.2.1; simp at this; omega
            case rel => exact ⟨us ++ [x], vs, _, _, rfl, by simp, rfl, Lib.hid ⟨by rw [HR.out.1]; simp, rfl, HR.out.2.2.take (by simp [HS.out]) (.inr ⟨p, y, rfl, HP.out, HBB.out⟩)⟩⟩
          · have hbb : decide (x.base < y.base) = false := by simpa using hb
            have HBB := Lib.hid hb
            clear hb
            go_wp2
            refine wp_region_quiet_lit (by kernel_rfl) lexLeast ?_
            repeat (go_big_quiet_step (fail))
            refine wpQuiet_nil ?_
            intro _ hw'
            obtain ⟨nq, hw''⟩ := hw'
            subst hw''
            go_wp2
            go_roundg vs.length
            case measure => have := HR.out.2.1; simp at this; omega
            case rel => exact ⟨us ++ [x], vs, _, _, rfl, by simp, rfl, Lib.hid ⟨by rw [HR.out.1]; simp, rfl, HR.out.2.2.skip (.inr ⟨p, y, rfl, HP.out, by have := HBB.out; omega⟩)⟩⟩
    | nil =>
      have hlen : decide (us.length < L.length) = false := by rw [HR.out.1]; simp
      have e : us = L := by have := HR.out.1; simpa using this.symm
      rcases HR.out.2.2 with ⟨rfl, hno⟩ | ⟨p, y, rfl, hp, hpy, hmin⟩
      · have HN := Lib.hid hno
        have E := Lib.hid e
        clear hno e
        go_wp2
        go_ret2
        exact ⟨0, false, rfl, Lib.hid ⟨Fr.of_drewN _ w _, .inl ⟨rfl, rfl, fun x hx => by have := HN.out x (by rw [E.out]; exact hx); simpa using this⟩⟩⟩
      · rw [e] at hp hmin
        obtain ⟨g, rfl, _, c0, c1, c2, c3, c4, c5, _⟩ := row_cells H.out.row rfl (i := p) (x := y) hp
        have hpl : p < L.length := (List.getElem?_eq_some_iff.1 hp).1
        have hp0 : decide ((p : Int) < 0) = false := by simp
        have HN := Lib.hid (And.intro hp (And.intro hpy hmin))
        clear hp hpy hmin e c1 c2 c3 c4 c5
        go_wp2
        go_ret2
        exact ⟨_, true, rfl, Lib.hid ⟨Fr.of_drewN _ w _, .inr ⟨rfl, y, List.mem_of_getElem? HN.out.1, rfl, by simpa using HN.out.2.1, fun x hx hxs => HN.out.2.2 x hx (by simp [hxs])⟩⟩⟩
/-- what Take answers, and what is left -/
def AnsTake (L : List It) (k : Kd) (r : Nat) (F : Nat → Prop) (w : World) (e : Ending) (w' : World) : Prop := ∃ id ok L', e = .returned (.tuple #[.int .i64 id, .bool ok]) ∧ Hid (Now w r L' F w' ∧ Took L k id ok L')

theorem Mine.fr_now {w w1 w2 : World} {r : Nat} {L' : List It} {F : Nat → Prop} (hf : Fr (fun _ => False) w w1) (h : Now w1 r L' F w2) : Now w r L' F w2 := by
  obtain ⟨F', h1, h2⟩ := h
  exact ⟨F', h1, (Step.none hf).trans h2⟩

set_option maxHeartbeats 8000000 in
theorem take_any {r : Nat} {L : List It} {F : Nat → Prop} (k1 : Int) (k2 k3 k4 : Bool) (w : World) (h0 : Mine w r L F) (hn : L.length ≤ 1000000) (hI : (L.map (·.id)).Nodup) :
    Calls Try.prog 19 #[.pointer (some ⟨r, 0, none⟩), .int .i64 k1, .bool k2, .bool k3, .bool k4] w (AnsTake L (k1, k2, k3, k4) r F w) := by
  obtain ⟨a, c, h, hg⟩ := id h0.is
  have hr0 := cell_blk h.root 0
  simp only [List.getElem?_toArray, List.getElem?_cons_zero] at hr0
  have H := Lib.hid h
  have H0 := Lib.hid h0
  have HI := Lib.hid hI
  clear h hg h0 hI
  go_enter Try.func19, Try.ntmps19
  go_wp2_with fail
  clear hr0
  go_loopg [12, 13] L.length (fun k at' i wr => ∃ (us vs : List It) (z : Int), at' = .int .i64 z ∧ i = .int .i64 us.length ∧ Hid (Fr (fun _ => False) w wr ∧ L = us ++ vs ∧ vs.length = k ∧ Least us (fun x => decide (x.kd = (k1, k2, k3, k4))) z))
  case atStart => exact ⟨[], L, -1, rfl, rfl, Lib.hid ⟨Fr.refl _ w, rfl, rfl, .inl ⟨rfl, by simp⟩⟩⟩
  case round =>
    obtain ⟨us, vs, z, rfl, rfl, HR⟩ := hrel
    have HW := Lib.hid (H.out.quiet HR.out.1)
    have hr0 := cell_blk HW.out.root 0
    simp only [List.getElem?_toArray, List.getElem?_cons_zero] at hr0
    cases vs with
    | cons x vs =>
      obtain ⟨g, rfl, _, c0, c1, c2, c3, c4, c5, _⟩ := row_cells HW.out.row rfl (i := us.length) (x := x) (by rw [HR.out.2.1]; simp)
      have hlt : us.length < L.length := by rw [HR.out.2.1]; simp
      obtain ⟨wx, hwx⟩ : ∃ wx, wx = wr.alloc (.cells #[.int .i64 x.id, .int .u64 x.base, .int .i64 x.kd.1, .bool x.kd.2.1, .bool x.kd.2.2.1, .bool x.kd.2.2.2] 63) := ⟨_, rfl⟩
      have HX := Lib.hid hwx
      clear hwx
      have fx : Fr (fun _ => False) wr wx := by rw [HX.out]; exact (Fr.refl _ wr).alloc _
      have FX := Lib.hid fx
      have bx : wx.heap[wr.heap.size]? = some (.cells #[.int .i64 x.id, .int .u64 x.base, .int .i64 x.kd.1, .bool x.kd.2.1, .bool x.kd.2.2.1, .bool x.kd.2.2.2] 63 (0, 0)) := by rw [HX.out, heap_alloc, if_pos rfl]
      have e0 := cell_through fx hr0 (fun x => x)
      obtain ⟨b0, b1, b2, b3, b4, b5⟩ := blk6 bx
      clear fx bx
      go_wp2_with fail
      rw [← HX.out]
      clear c0 c1 c2 c3 c4 c5 hr0
      by_cases q1 : x.kd.1 = k1
      · have q1b : (x.kd.1 == k1) = true := by simpa using q1
        have Q1 := Lib.hid q1
        clear q1
        by_cases q2 : x.kd.2.1 = k2
        · have q2b : (x.kd.2.1 == k2) = true := by simpa using q2
          have Q2 := Lib.hid q2
          clear q2
          by_cases q3 : x.kd.2.2.1 = k3
          · have q3b : (x.kd.2.2.1 == k3) = true := by simpa using q3
            have Q3 := Lib.hid q3
            clear q3
            by_cases q4 : x.kd.2.2.2 = k4
            · have q4b : (x.kd.2.2.2 == k4) = true := by simpa using q4
              have Q4 := Lib.hid (show decide (x.kd = (k1, k2, k3, k4)) = true from decide_eq_true (by rw [← Q1.out, ← Q2.out, ← Q3.out, ← q4]))
              clear q4
              rcases HR.out.2.2.2 with ⟨rfl, hno⟩ | ⟨p, y, rfl, hp, hpy, hmin⟩
              · clear hno
                refine wp_region_quiet_lit (by kernel_rfl) lexTake ?_
                repeat (go_big_quiet_step (fail))
                refine wpQuiet_nil ?_
                intro _ hw'
                obtain ⟨nq, hw''⟩ := hw'
                subst hw''
                go_wp2
                go_roundg vs.length
                case measure => have := HR.out.2.2.1; simp at this; omega
                case rel => exact ⟨us ++ [x], vs, _, rfl, by simp, Lib.hid ⟨(HR.out.1.trans FX.out (fun _ _ x => x)).drewN _, by rw [HR.out.2.1]; simp, rfl, HR.out.2.2.2.take Q4.out (.inl rfl)⟩⟩
              · obtain ⟨g', hge, _, d0, d1, d2, d3, d4, d5, _⟩ := row_cells (HW.out.quiet FX.out).row rfl (i := p) (x := y) (by rw [HR.out.2.1, List.getElem?_append_left (List.getElem?_eq_some_iff.1 hp).1]; exact hp)
                simp only [Option.some.injEq, Addr.mk.injEq] at hge
                obtain ⟨rfl, _⟩ := hge
                have hpl : p < L.length := by have := (List.getElem?_eq_some_iff.1 hp).1; omega
                have hp0 : decide ((p : Int) < 0) = false := by simp
                have HP := Lib.hid hp
                clear d0 d2 d3 d4 d5 hp hpy hmin
                by_cases hb : x.base < y.base
                · have hbb : decide (x.base < y.base) = true := by simpa using hb
                  have HBB := Lib.hid hb
                  refine wp_region_quiet_lit (by kernel_rfl) lexTake ?_
                  repeat (go_big_quiet_step (fail))
                  refine wpQuiet_nil ?_
                  intro _ hw'
                  obtain ⟨nq, hw''⟩ := hw'
                  subst hw''
                  go_wp2
                  go_roundg vs.length
                  case measure => have := HR.out.2.2.1; simp at this; omega
                  case rel => exact ⟨us ++ [x], vs, _, rfl, by simp, Lib.hid ⟨(HR.out.1.trans FX.out (fun _ _ x => x)).drewN _, by rw [HR.out.2.1]; simp, rfl, HR.out.2.2.2.take Q4.out (.inr ⟨p, y, rfl, HP.out, HBB.out⟩)⟩⟩
                · have hbb : decide (x.base < y.base) = false := by simpa using hb
                  have HBB := Lib.hid hb
                  clear hb
                  refine wp_region_quiet_lit (by kernel_rfl) lexTake ?_
                  repeat (go_big_quiet_step (fail))
                  refine wpQuiet_nil ?_
                  intro _ hw'
                  obtain ⟨nq, hw''⟩ := hw'
                  subst hw''
                  go_wp2
                  go_roundg vs.length
                  case measure => have := HR.out.2.2.1; simp at this; omega
                  case rel => exact ⟨us ++ [x], vs, _, rfl, by simp, Lib.hid ⟨(HR.out.1.trans FX.out (fun _ _ x => x)).drewN _, by rw [HR.out.2.1]; simp, rfl, HR.out.2.2.2.skip (.inr ⟨p, y, rfl, HP.out, by have := HBB.out; omega⟩)⟩⟩
            · have q4b : (x.kd.2.2.2 == k4) = false := by simpa using q4
              have QN := Lib.hid (show decide (x.kd = (k1, k2, k3, k4)) = false from decide_eq_false (fun e => q4 (by rw [e])))
              clear q4
              refine wp_region_quiet_lit (by kernel_rfl) lexTake ?_
              repeat (go_big_quiet_step (fail))
              refine wpQuiet_nil ?_
              intro _ hw'
              obtain ⟨nq, hw''⟩ := hw'
              subst hw''
              go_wp2
              go_roundg vs.length
              case measure => have := HR.out.2.2.1; simp at this; omega
              case rel => exact ⟨us ++ [x], vs, _, rfl, by simp, Lib.hid ⟨(HR.out.1.trans FX.out (fun _ _ x => x)).drewN _, by rw [HR.out.2.1]; simp, rfl, HR.out.2.2.2.skip (.inl QN.out)⟩⟩
          · have q3b : (x.kd.2.2.1 == k3) = false := by simpa using q3
            have QN := Lib.hid (show decide (x.kd = (k1, k2, k3, k4)) = false from decide_eq_false (fun e => q3 (by rw [e])))
            clear q3
            refine wp_region_quiet_lit (by kernel_rfl) lexTake ?_
            repeat (go_big_quiet_step (fail))
            refine wpQuiet_nil ?_
            intro _ hw'
            obtain ⟨nq, hw''⟩ := hw'
            subst hw''
            go_wp2
            go_roundg vs.length
            case measure => have := HR.out.2.2.1; simp at this; omega
            case rel => exact ⟨us ++ [x], vs, _, rfl, by simp, Lib.hid ⟨(HR.out.1.trans FX.out (fun _ _ x => x)).drewN _, by rw [HR.out.2.1]; simp, rfl, HR.out.2.2.2.skip (.inl QN.out)⟩⟩
        · have q2b : (x.kd.2.1 == k2) = false := by simpa using q2
          have QN := Lib.hid (show decide (x.kd = (k1, k2, k3, k4)) = false from decide_eq_false (fun e => q2 (by rw [e])))
          clear q2
          refine wp_region_quiet_lit (by kernel_rfl) lexTake ?_
          repeat (go_big_quiet_step (fail))
          refine wpQuiet_nil ?_
          intro _ hw'
          obtain ⟨nq, hw''⟩ := hw'
          subst hw''
          go_wp2
          go_roundg vs.length
          case measure => have := HR.out.2.2.1; simp at this; omega
          case rel => exact ⟨us ++ [x], vs, _, rfl, by simp, Lib.hid ⟨(HR.out.1.trans FX.out (fun _ _ x => x)).drewN _, by rw [HR.out.2.1]; simp, rfl, HR.out.2.2.2.skip (.inl QN.out)⟩⟩
      · have q1b : (x.kd.1 == k1) = false := by simpa using q1
        have QN := Lib.hid (show decide (x.kd = (k1, k2, k3, k4)) = false from decide_eq_false (fun e => q1 (by rw [e])))
        clear q1
        refine wp_region_quiet_lit (by kernel_rfl) lexTake ?_
        repeat (go_big_quiet_step (fail))
        refine wpQuiet_nil ?_
        intro _ hw'
        obtain ⟨nq, hw''⟩ := hw'
        subst hw''
        go_wp2
        go_roundg vs.length
        case measure => have := HR.out.2.2.1; simp at this; omega
        case rel => exact ⟨us ++ [x], vs, _, rfl, by simp, Lib.hid ⟨(HR.out.1.trans FX.out (fun _ _ x => x)).drewN _, by rw [HR.out.2.1]; simp, rfl, HR.out.2.2.2.skip (.inl QN.out)⟩⟩
    | nil =>
      have hlen : decide (us.length < L.length) = false := by rw [HR.out.2.1]; simp
      have e : us = L := by have := HR.out.2.1; simpa using this.symm
      rcases HR.out.2.2.2 with ⟨rfl, hno⟩ | ⟨p, y, rfl, hp, hpy, hmin⟩
      · have HN := Lib.hid hno
        have E := Lib.hid e
        clear hno e
        go_wp2
        go_ret2
        exact ⟨0, false, L, rfl, Lib.hid ⟨⟨F, H0.out.quiet HR.out.1, Step.none HR.out.1⟩, .inl ⟨rfl, rfl, rfl, fun x hx => by have := HN.out x (by rw [E.out]; exact hx); simpa using this⟩⟩⟩
      · rw [e] at hp hmin
        obtain ⟨g, rfl, _, c0, c1, c2, c3, c4, c5, _⟩ := row_cells HW.out.row rfl (i := p) (x := y) hp
        have hpl : p < L.length := (List.getElem?_eq_some_iff.1 hp).1
        have hp0 : decide ((p : Int) < 0) = false := by simp
        have HN := Lib.hid (And.intro hp (And.intro hpy hmin))
        obtain ⟨xs, ys, hxy, hxl⟩ : ∃ xs ys, L = xs ++ y :: ys ∧ xs.length = p := ⟨L.take p, L.drop (p + 1), by
          rw [← (List.getElem?_eq_some_iff.1 hp).2, List.getElem_cons_drop]; exact (List.take_append_drop p L).symm, by rw [List.length_take]; omega⟩
        have hm := H0.out.quiet HR.out.1
        rw [hxy] at hm
        have C := Lib.hid (cut_any wr hm (by rw [← hxy]; exact hn))
        rw [hxl] at C
        have HY := Lib.hid hxy
        clear hp hpy hmin e c1 c2 c3 c4 c5 hm hxy hxl
        go_wp2_with (go_at_call 25; refine C.out.mono ?_; rintro e w1 ⟨rfl, N1⟩)
        go_ret2
        have hi := HI.out
        rw [HY.out] at hi
        refine ⟨_, true, _, rfl, Lib.hid ⟨Mine.fr_now HR.out.1 N1.out, .inr ⟨rfl, y, List.mem_of_getElem? HN.out.1, by simpa using HN.out.2.1, rfl, fun x hx hxs => HN.out.2.2 x hx (by simp [hxs]), ?_⟩⟩⟩
        rw [cut_filter hi, ← HY.out]
end Rf
end Go.Proofs.Ytanaicjeheacoaa
