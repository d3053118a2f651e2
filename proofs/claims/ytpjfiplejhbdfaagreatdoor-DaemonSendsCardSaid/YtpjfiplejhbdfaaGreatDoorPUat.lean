/- Package peer: New, Answer (contracts). -/
import Derived.Test.YtpjfiplejhbdfaaGreatDoorPUas
import Derived.Test.YtpjfiplejhbdfaaGreatDoorPUan
import Derived.Test.YtpjfiplejhbdfaaGreatDoorPUao
namespace Go.Proofs.YtpjfiplejhbdfaaGreatDoor
set_option linter.unusedSimpArgs false
open Go.RowKit

/-- What Check has said of a config. -/
theorem cfg_nums {c : Cfg} (hc : checkC c = 0) : (4 ≤ c.l ∧ c.l ≤ 1024) ∧ (c.l ≤ c.m ∧ c.m ≤ 1024) ∧ (1 ≤ c.q ∧ c.q ≤ c.srv.length) ∧ (1 ≤ c.d ∧ c.d ≤ 1000 * c.l - 2000) ∧ (1 ≤ c.s ∧ c.s ≤ 500) := fine_nums (check_fine hc)
theorem newPeer_ok {c : Cfg} (hc : checkC c = 0) {h : Int} (h0 : 0 ≤ h) (h1 : h ≤ 4611686018427387903) : (newPeer c h).Ok := by
  obtain ⟨⟨a1, a2⟩, ⟨a3, a4⟩, _, ⟨a5, a6⟩, _⟩ := cfg_nums hc
  unfold newPeer
  constructor <;> (try simp only [maxHard]) <;> omega
theorem pnew_any (c : Cfg) (hc : checkC c = 0) (p : Option Addr) (cp : Nat) (h : Int) (h0 : 0 ≤ h) (h1 : h ≤ 4611686018427387903) (w : World) (hi : IntsL w p c.srv) (hcp : c.srv.length ≤ cp) (hl : c.srv.length ≤ 16) :
    Calls Tryz.prog 39 #[c.val p cp, .int .i64 h] w fun e w' =>
      ∃ b bk, e = .returned (.tuple #[at0 b, .int .i64 0]) ∧ PeerO w' b bk (newPeer c h) ∧ w.heap.size ≤ b ∧ w.heap.size ≤ bk ∧ Mod NoB w w' := by
  obtain ⟨⟨a1, a2⟩, ⟨a3, a4⟩, _, ⟨a5, a6⟩, _⟩ := cfg_nums hc
  have hm0 := (Mod.refl NoB w).alloc (.cells #[.slice p c.srv.length cp, .int .i64 c.q, .int .i64 c.l, .int .i64 c.m, .int .i64 c.d, .int .i64 c.s] 31)
  have hb := heap_alloc_new w (.cells #[.slice p c.srv.length cp, .int .i64 c.q, .int .i64 c.l, .int .i64 c.m, .int .i64 c.d, .int .i64 c.s] 31)
  have hck := check_any p c.srv cp c.q c.l c.m c.d c.s _ (hi.mod0 hm0) hcp (by omega)
  rw [show checkR c.srv c.q c.l c.m c.d c.s = 0 from hc] at hck
  have hbn := hide (new_ok c.l c.m ⟨by omega, by omega⟩ ⟨by omega, by omega⟩ (by simp; omega) (by simp; omega) a3)
  have hw1 : wrap64 (c.d * 1000000) = c.d * 1000000 := by rw [wrap64_eq, wrap_in ⟨by omega, by omega⟩]
  replace hck := hide hck
  replace hb := hide hb
  replace hm0 := hide hm0
  replace hi := hide hi
  simp only [Cfg.val]
  go_enter Tryz.func39, Tryz.ntmps39
  go_wp2_with fail
  refine hck.out.mono ?_
  rintro e w1 ⟨rfl, hm1⟩
  have hb1 := hm1.heap hb.out id
  have k2 := cell_of_block hb1 2 rfl
  have k3 := cell_of_block hb1 3 rfl
  replace hb1 := hide hb1
  replace hm0 := hide (hm0.out.trans hm1)
  clear hm1
  go_wp2_with fail
  refine (hbn.out _).mono ?_
  rintro e w2 ⟨bk, rfl, hle, hbo, hm2⟩
  have hb2 := hm2.heap hb1.out id
  have k4 := cell_of_block hb2 4 rfl
  have hlk := lt_of_block hbo
  replace hbo := hide hbo
  replace hm0 := hide (hm0.out.trans hm2)
  have hsz := hm0.out.size
  have hle2 : w.heap.size ≤ bk := by have := hb1.out; have := lt_of_block this; omega
  clear hm2 hb2 k2 k3
  go_wp2_with fail
  go_ret2
  exact ⟨_, bk, rfl, ⟨heap_alloc_new _ _, 0, (heap_alloc_old hlk _).trans hbo.out⟩, hsz, hle2, hm0.out.alloc _⟩
abbrev set4 (w : World) (g : Nat) (a0 a1 a2 a3 : Value) : World := ((((w.setCell ⟨g, 0, none⟩ a0).setCell ⟨g, 1, none⟩ a1).setCell ⟨g, 2, none⟩ a2).setCell ⟨g, 3, none⟩ a3)
theorem set4_heap {w : World} {g : Nat} {t : TypeId} {c0 c1 c2 c3 : Value} (h : w.heap[g]? = some (.cells #[c0, c1, c2, c3] t (0, 0))) (a0 a1 a2 a3 : Value) : (set4 w g a0 a1 a2 a3).heap[g]? = some (.cells #[a0, a1, a2, a3] t (0, 0)) := by
  have := heap_setCell_eq (heap_setCell_eq (heap_setCell_eq (heap_setCell_eq (h) (o := 0) a0) (o := 1) a1) (o := 2) a2) (o := 3) a3
  simpa using this
theorem set4_ne {w : World} {g h : Nat} (hn : h ≠ g) (a0 a1 a2 a3 : Value) : (set4 w g a0 a1 a2 a3).heap[h]? = w.heap[h]? := by
  unfold set4
  repeat rw [heap_setCell_ne hn]
theorem set4_mod {S : Nat → Prop} {a w : World} {g : Nat} (h : Mod S a w) (hg : S g ∨ a.heap.size ≤ g) (a0 a1 a2 a3 : Value) : Mod S a (set4 w g a0 a1 a2 a3) :=
  ((((h).setCell hg _).setCell hg _).setCell hg _).setCell hg _
/-- What Answer hands back. -/
def ansV (r : PeerS × Option SampleS × Int) : Value := .tuple #[(match r.2.1 with | some x => x.val | none => sampleV 0 0 0 0), .int .i64 r.2.2]
theorem pans_state (b bk : Nat) (p : PeerS) (h clock slewed : Int) (d : Value) (w : World) (hb : PB w b bk p) (hs : p.state = 2 ∨ p.state = 0) (why : Int) (rv xm : Nat) :
    Calls Tryz.prog 118 #[at0 b, .int .i64 h, .int .i64 clock, .int .i64 slewed, d] w fun e w' => e = .returned (ansV (p.answer h clock slewed why rv xm)) ∧ Mod NoB w w' := by
  have hlt := lt_of_block hb
  have k1 := cell_of_block hb 1 rfl
  rcases hs with h2 | h0
  · have e : p.answer h clock slewed why rv xm = (p, none, 3) := by unfold PeerS.answer; rw [if_pos h2]
    rw [e]
    rw [h2] at k1
    replace hb := hide hb
    go_enter Tryz.func118, Tryz.ntmps118
    go_wp2_with fail
    exact bodyPost_ret (v := .tuple #[sampleV 0 0 0 0, .int .i64 3]) (by simp [results, Tryz.results118, go_sem]) rfl ⟨rfl, (Mod.refl _ _).alloc _⟩
  · have e : p.answer h clock slewed why rv xm = (p, none, 4) := by unfold PeerS.answer; rw [if_neg (by omega), if_pos h0]
    rw [e]
    rw [h0] at k1
    replace hb := hide hb
    go_enter Tryz.func118, Tryz.ntmps118
    go_wp2_with fail
    exact bodyPost_ret (v := .tuple #[sampleV 0 0 0 0, .int .i64 4]) (by simp [results, Tryz.results118, go_sem]) rfl ⟨rfl, (Mod.refl _ _).alloc _⟩
set_option maxRecDepth 100000 in
set_option maxHeartbeats 4000000 in
theorem pans_any (b bk : Nat) (p : PeerS) (hp : p.Ok) (h clock slewed : Int) (bd off cap : Nat) (l : List Nat) (hl : 48 ≤ l.length) (hlc : l.length ≤ cap) (hcp : cap ≤ 9223372036854775807) (w : World) (hb : PeerO w b bk p) (hd : BytesAt w bd off l)
    (hs2 : p.state ≠ 2) (hs0 : p.state ≠ 0) (hpc : I64 p.clock) (hck : I64 clock) :
    Calls Tryz.prog 118 #[at0 b, .int .i64 h, .int .i64 clock, .int .i64 slewed, .slice (some ⟨bd, off, none⟩) l.length cap] w fun e w' =>
      e = .returned (ansV (p.answer h clock slewed (lookR l p.cookie) (pktOf l).recv (pktOf l).xmit)) ∧ PeerO w' b bk (p.answer h clock slewed (lookR l p.cookie) (pktOf l).recv (pktOf l).xmit).1 ∧ Mod (fun k => k = b ∨ k = bk) w w' := by
  have hne := hb.ne
  have hlt := lt_of_block hb.pb
  obtain ⟨W, hW⟩ : ∃ W, w.alloc (.cells #[.int .i64 0, .int .i64 0, .int .i64 0, .int .i64 0] 185) = W := ⟨_, rfl⟩
  have hm0 : Mod NoB w W := hW ▸ (Mod.refl _ _).alloc _
  have hr0 : W.heap[w.heap.size]? = some (.cells #[.int .i64 0, .int .i64 0, .int .i64 0, .int .i64 0] 185 (0, 0)) := hW ▸ heap_alloc_new _ _
  have hbW := hb.mod hm0 id id
  obtain ⟨k0, k1, k2, k3, k4, k5, k6⟩ := hbW.pb.cells
  have hlk := look_any bd off cap l p.cookie hl hlc (by omega) hcp W (hd.mod hm0 id)
  have hst2 : ((p.state : Int) == 2) = false := by simpa using hs2
  have hst0 : ((p.state : Int) == 0) = false := by simpa using hs0
  obtain ⟨lp, hlp⟩ : ∃ lp, lookP l p.cookie = lp := ⟨_, rfl⟩
  obtain ⟨why, hwhy⟩ : ∃ why, lookR l p.cookie = why := ⟨_, rfl⟩
  rw [hlp, hwhy] at hlk
  rw [hwhy]
  replace hlk := hide hlk
  replace hr0 := hide hr0
  replace hm0 := hide hm0
  replace hbW := hide hbW
  replace hb := hide hb
  replace hd := hide hd
  replace hlp := hide hlp
  have hbx := fun (w1 : World) => heap_alloc_new w1 (.cells #[.int .u8 (lp.leap : Int), .int .u8 (lp.version : Int), .int .u8 (lp.mode : Int), .int .u8 (lp.stratum : Int), .int .i8 (lp.poll : Int), .int .i8 (lp.prec : Int), .int .u32 (lp.delay : Int), .int .u32 (lp.disp : Int), .int .u32 (lp.refs : Int), .int .u64 (lp.ref : Int), .int .u64 (lp.orig : Int), .int .u64 (lp.recv : Int), .int .u64 (lp.xmit : Int)] 119)
  replace hbx := hide hbx
  go_enter Tryz.func118, Tryz.ntmps118
  go_wp2_with fail
  refine hlk.out.mono ?_
  rintro e w1 ⟨rfl, hm1⟩
  have hr1 := hm1.heap hr0.out id
  have hb1 := hbW.out.mod hm1 id id
  obtain ⟨k0, k1, k2, k3, k4, k5, k6⟩ := hb1.pb.cells
  have z1 := frozen_of_block hb1.pb 1
  have hmw := hm0.out.trans hm1
  have hlw := lt_of_block hr1
  have hlb := lt_of_block hb1.pb
  have hnw : ¬ w.heap.size = w1.heap.size := by omega
  have hnb : ¬ b = w1.heap.size := by omega
  have hbw : b ≠ w.heap.size := by omega
  have hkw : bk ≠ w.heap.size := by obtain ⟨t, ht⟩ := hb.out.bo; have := lt_of_block ht; omega
  clear hm1
  by_cases h8 : why = 8
  · have h8b : (why == 8) = true := by simpa using h8
    have e : p.answer h clock slewed why (pktOf l).recv (pktOf l).xmit = ({ p with state := 2 }, none, 8) := by unfold PeerS.answer; rw [if_neg hs2, if_neg hs0, if_pos h8]
    replace e := hide e
    have hmA : Mod (fun k => k = b ∨ k = bk) w (w1.setCell ⟨b, 1, none⟩ (.int .i64 2)) := (hmw.mono (fun _ _ f => f.elim)).setCell (Or.inl (Or.inl rfl)) _
    have hpA : PB (w1.setCell ⟨b, 1, none⟩ (.int .i64 2)) b bk { p with state := 2 } := heap_setCell_eq hb1.pb _
    have hset := set4_heap (w := w1.setCell ⟨b, 1, none⟩ (.int .i64 2)) ((heap_setCell_ne (Ne.symm hbw) _).trans hr1) (.int .i64 0) (.int .i64 0) (.int .i64 0) (.int .i64 0)
    have hmf := set4_mod (w := w1.setCell ⟨b, 1, none⟩ (.int .i64 2)) (g := w.heap.size) hmA (Or.inr (Nat.le_refl _)) (.int .i64 0) (.int .i64 0) (.int .i64 0) (.int .i64 0)
    have hpf : PB (set4 (w1.setCell ⟨b, 1, none⟩ (.int .i64 2)) w.heap.size (.int .i64 0) (.int .i64 0) (.int .i64 0) (.int .i64 0)) b bk { p with state := 2 } := (set4_ne hbw (.int .i64 0) (.int .i64 0) (.int .i64 0) (.int .i64 0)).trans hpA
    have hbf : ∃ t, BO (set4 (w1.setCell ⟨b, 1, none⟩ (.int .i64 2)) w.heap.size (.int .i64 0) (.int .i64 0) (.int .i64 0) (.int .i64 0)) bk p.l p.m p.n t := by
      obtain ⟨t, ht⟩ := hb1.bo
      exact ⟨t, (set4_ne hkw (.int .i64 0) (.int .i64 0) (.int .i64 0) (.int .i64 0)).trans ((heap_setCell_ne hne.symm _).trans ht)⟩
    obtain ⟨wf, hwf⟩ : ∃ wf, set4 (w1.setCell ⟨b, 1, none⟩ (.int .i64 2)) w.heap.size (.int .i64 0) (.int .i64 0) (.int .i64 0) (.int .i64 0) = wf := ⟨_, rfl⟩
    rw [hwf] at hset hmf hpf hbf
    replace hwf := hide hwf
    have r0 := cell_of_block hr1 0 rfl
    have q0 := frozen_of_block hr1 0
    have r1 := cell_of_block hr1 1 rfl
    have q1 := frozen_of_block hr1 1
    have r2 := cell_of_block hr1 2 rfl
    have q2 := frozen_of_block hr1 2
    have r3 := cell_of_block hr1 3 rfl
    have q3 := frozen_of_block hr1 3
    replace hr1 := hide hr1
    replace hb1 := hide hb1
    clear hpA hmA
    go_wp2_with fail
    have hwf := hwf.out
    unfold set4 at hwf
    rw [hwf]
    have hset2 := (heap_alloc_old (lt_of_block hset) (.cells #[.int .u8 (lp.leap : Int), .int .u8 (lp.version : Int), .int .u8 (lp.mode : Int), .int .u8 (lp.stratum : Int), .int .i8 (lp.poll : Int), .int .i8 (lp.prec : Int), .int .u32 (lp.delay : Int), .int .u32 (lp.disp : Int), .int .u32 (lp.refs : Int), .int .u64 (lp.ref : Int), .int .u64 (lp.orig : Int), .int .u64 (lp.recv : Int), .int .u64 (lp.xmit : Int)] 119)).trans hset
    have d0 := cell_of_block hset2 0 (v := .int .i64 0) rfl
    have d1 := cell_of_block hset2 1 (v := .int .i64 0) rfl
    have d2 := cell_of_block hset2 2 (v := .int .i64 0) rfl
    have d3 := cell_of_block hset2 3 (v := .int .i64 0) rfl
    refine bodyPost_ret (v := .tuple #[sampleV 0 0 0 0, .int .i64 8]) (by simp [results, Tryz.results118, go_sem, d0, d1, d2, d3]) rfl ⟨by rw [e.out]; rfl, by rw [e.out]; exact ⟨(heap_alloc_old (lt_of_block hpf) _).trans hpf, let ⟨t, ht⟩ := hbf; ⟨t, (heap_alloc_old (lt_of_block ht) _).trans ht⟩⟩, hmf.alloc _⟩
  have h8b : (why == 8) = false := by simpa using h8
  by_cases hw0 : why ≠ 0
  · have hw0b : (why != 0) = true := by simpa using hw0
    have e : p.answer h clock slewed why (pktOf l).recv (pktOf l).xmit = (p, none, why) := by unfold PeerS.answer; rw [if_neg hs2, if_neg hs0, if_neg h8, if_pos hw0]
    replace e := hide e
    have hset := set4_heap (w := w1) hr1 (.int .i64 0) (.int .i64 0) (.int .i64 0) (.int .i64 0)
    have hmf := set4_mod (w := w1) (g := w.heap.size) hmw (Or.inr (Nat.le_refl _)) (.int .i64 0) (.int .i64 0) (.int .i64 0) (.int .i64 0)
    have hpf : PeerO (set4 w1 w.heap.size (.int .i64 0) (.int .i64 0) (.int .i64 0) (.int .i64 0)) b bk p := ⟨(set4_ne hbw (.int .i64 0) (.int .i64 0) (.int .i64 0) (.int .i64 0)).trans hb1.pb, let ⟨t, ht⟩ := hb1.bo; ⟨t, (set4_ne hkw (.int .i64 0) (.int .i64 0) (.int .i64 0) (.int .i64 0)).trans ht⟩⟩
    obtain ⟨wf, hwf⟩ : ∃ wf, set4 w1 w.heap.size (.int .i64 0) (.int .i64 0) (.int .i64 0) (.int .i64 0) = wf := ⟨_, rfl⟩
    rw [hwf] at hset hmf hpf
    replace hwf := hide hwf
    have r0 := cell_of_block hr1 0 rfl
    have q0 := frozen_of_block hr1 0
    have r1 := cell_of_block hr1 1 rfl
    have q1 := frozen_of_block hr1 1
    have r2 := cell_of_block hr1 2 rfl
    have q2 := frozen_of_block hr1 2
    have r3 := cell_of_block hr1 3 rfl
    have q3 := frozen_of_block hr1 3
    replace hr1 := hide hr1
    replace hb1 := hide hb1
    go_wp2_with fail
    have hwf := hwf.out
    unfold set4 at hwf
    rw [hwf]
    have hset2 := (heap_alloc_old (lt_of_block hset) (.cells #[.int .u8 (lp.leap : Int), .int .u8 (lp.version : Int), .int .u8 (lp.mode : Int), .int .u8 (lp.stratum : Int), .int .i8 (lp.poll : Int), .int .i8 (lp.prec : Int), .int .u32 (lp.delay : Int), .int .u32 (lp.disp : Int), .int .u32 (lp.refs : Int), .int .u64 (lp.ref : Int), .int .u64 (lp.orig : Int), .int .u64 (lp.recv : Int), .int .u64 (lp.xmit : Int)] 119)).trans hset
    have d0 := cell_of_block hset2 0 (v := .int .i64 0) rfl
    have d1 := cell_of_block hset2 1 (v := .int .i64 0) rfl
    have d2 := cell_of_block hset2 2 (v := .int .i64 0) rfl
    have d3 := cell_of_block hset2 3 (v := .int .i64 0) rfl
    refine bodyPost_ret (v := .tuple #[sampleV 0 0 0 0, .int .i64 why]) (by simp [results, Tryz.results118, go_sem, d0, d1, d2, d3]) rfl ⟨by rw [e.out]; rfl, by rw [e.out]; exact hpf.mod ((Mod.refl NoB _).alloc _) id id, (hmf.alloc _).mono (fun _ _ f => f.elim)⟩
  have hw0' : why = 0 := by omega
  have hw0b : (why != 0) = false := by rw [hw0']; rfl
  have hm2 : Mod NoB w (w1.alloc (.cells #[.int .u8 (lp.leap : Int), .int .u8 (lp.version : Int), .int .u8 (lp.mode : Int), .int .u8 (lp.stratum : Int), .int .i8 (lp.poll : Int), .int .i8 (lp.prec : Int), .int .u32 (lp.delay : Int), .int .u32 (lp.disp : Int), .int .u32 (lp.refs : Int), .int .u64 (lp.ref : Int), .int .u64 (lp.orig : Int), .int .u64 (lp.recv : Int), .int .u64 (lp.xmit : Int)] 119)) := hmw.alloc _
  have hr2 : (w1.alloc (.cells #[.int .u8 (lp.leap : Int), .int .u8 (lp.version : Int), .int .u8 (lp.mode : Int), .int .u8 (lp.stratum : Int), .int .i8 (lp.poll : Int), .int .i8 (lp.prec : Int), .int .u32 (lp.delay : Int), .int .u32 (lp.disp : Int), .int .u32 (lp.refs : Int), .int .u64 (lp.ref : Int), .int .u64 (lp.orig : Int), .int .u64 (lp.recv : Int), .int .u64 (lp.xmit : Int)] 119)).heap[w.heap.size]? = _ := (heap_alloc_old hlw _).trans hr1
  have hb2 : PeerO (w1.alloc (.cells #[.int .u8 (lp.leap : Int), .int .u8 (lp.version : Int), .int .u8 (lp.mode : Int), .int .u8 (lp.stratum : Int), .int .i8 (lp.poll : Int), .int .i8 (lp.prec : Int), .int .u32 (lp.delay : Int), .int .u32 (lp.disp : Int), .int .u32 (lp.refs : Int), .int .u64 (lp.ref : Int), .int .u64 (lp.orig : Int), .int .u64 (lp.recv : Int), .int .u64 (lp.xmit : Int)] 119)) b bk p := hb1.mod ((Mod.refl NoB _).alloc _) id id
  have hx2 := heap_alloc_new w1 (.cells #[.int .u8 (lp.leap : Int), .int .u8 (lp.version : Int), .int .u8 (lp.mode : Int), .int .u8 (lp.stratum : Int), .int .i8 (lp.poll : Int), .int .i8 (lp.prec : Int), .int .u32 (lp.delay : Int), .int .u32 (lp.disp : Int), .int .u32 (lp.refs : Int), .int .u64 (lp.ref : Int), .int .u64 (lp.orig : Int), .int .u64 (lp.recv : Int), .int .u64 (lp.xmit : Int)] 119)
  have hlate := hide (plate_any b bk p hp h _ hb2.pb)
  replace hr2 := hide hr2
  replace hb2 := hide hb2
  replace hx2 := hide hx2
  replace hm2 := hide hm2
  replace hr1 := hide hr1
  replace hb1 := hide hb1
  cases hv : p.isLate h with
  | true =>
    have e : p.answer h clock slewed why (pktOf l).recv (pktOf l).xmit = (p, none, 12) := by unfold PeerS.answer; rw [if_neg hs2, if_neg hs0, if_neg h8, if_neg (by omega), hv]; rfl
    replace e := hide e
    rw [hv] at hlate
    go_wp2_with fail
    refine hlate.out.mono ?_
    rintro e' w3 ⟨rfl, hm3⟩
    have hr3 := hm3.heap hr2.out id
    have hb3 := hb2.out.mod hm3 id id
    have hset := set4_heap (w := w3) hr3 (.int .i64 0) (.int .i64 0) (.int .i64 0) (.int .i64 0)
    have hmf := set4_mod (w := w3) (g := w.heap.size) (hm2.out.trans hm3) (Or.inr (Nat.le_refl _)) (.int .i64 0) (.int .i64 0) (.int .i64 0) (.int .i64 0)
    have hpf : PeerO (set4 w3 w.heap.size (.int .i64 0) (.int .i64 0) (.int .i64 0) (.int .i64 0)) b bk p := ⟨(set4_ne hbw (.int .i64 0) (.int .i64 0) (.int .i64 0) (.int .i64 0)).trans hb3.pb, let ⟨t, ht⟩ := hb3.bo; ⟨t, (set4_ne hkw (.int .i64 0) (.int .i64 0) (.int .i64 0) (.int .i64 0)).trans ht⟩⟩
    obtain ⟨wf, hwf⟩ : ∃ wf, set4 w3 w.heap.size (.int .i64 0) (.int .i64 0) (.int .i64 0) (.int .i64 0) = wf := ⟨_, rfl⟩
    rw [hwf] at hset hmf hpf
    replace hwf := hide hwf
    have r0 := cell_of_block hr3 0 rfl
    have q0 := frozen_of_block hr3 0
    have r1 := cell_of_block hr3 1 rfl
    have q1 := frozen_of_block hr3 1
    have r2 := cell_of_block hr3 2 rfl
    have q2 := frozen_of_block hr3 2
    have r3 := cell_of_block hr3 3 rfl
    have q3 := frozen_of_block hr3 3
    replace hr3 := hide hr3
    replace hb3 := hide hb3
    clear k0 k1 k2 k3 k4 k5 k6 hm3
    go_wp2_with fail
    have hwf := hwf.out
    unfold set4 at hwf
    rw [hwf]
    have d0 := cell_of_block hset 0 (v := .int .i64 0) rfl
    have d1 := cell_of_block hset 1 (v := .int .i64 0) rfl
    have d2 := cell_of_block hset 2 (v := .int .i64 0) rfl
    have d3 := cell_of_block hset 3 (v := .int .i64 0) rfl
    refine bodyPost_ret (v := .tuple #[sampleV 0 0 0 0, .int .i64 12]) (by simp [results, Tryz.results118, go_sem, d0, d1, d2, d3]) rfl ⟨by rw [e.out]; rfl, by rw [e.out]; exact hpf, hmf.mono (fun _ _ f => f.elim)⟩
  | false =>
    rw [hv] at hlate
    go_wp2_with fail
    refine hlate.out.mono ?_
    rintro e' w3 ⟨rfl, hm3⟩
    have hlx3 := lt_of_block (hm3.heap hx2.out id)
    have hbl3 : b < w3.heap.size := lt_of_block (hm3.heap hb2.out.pb id)
    have hkl3 : bk < w3.heap.size := by obtain ⟨t, ht⟩ := hb2.out.bo; exact lt_of_block (hm3.heap ht id)
    have hwl3 : w.heap.size < w3.heap.size := lt_of_block (hm3.heap hr2.out id)
    have hx3 := (heap_alloc_old hlx3 (.cells #[.int .i64 0, .int .i64 0, .int .i64 h, .int .i64 slewed] 185)).trans (hm3.heap hx2.out id)
    have hb3 : PeerO (w3.alloc (.cells #[.int .i64 0, .int .i64 0, .int .i64 h, .int .i64 slewed] 185)) b bk p := hb2.out.mod (hm3.alloc _) id id
    have hr3 := (hm3.alloc (.cells #[.int .i64 0, .int .i64 0, .int .i64 h, .int .i64 slewed] 185)).heap hr2.out id
    have hs3 := heap_alloc_new w3 (.cells #[.int .i64 0, .int .i64 0, .int .i64 h, .int .i64 slewed] 185)
    have hm4 := hm2.out.trans (hm3.alloc (.cells #[.int .i64 0, .int .i64 0, .int .i64 h, .int .i64 slewed] 185))
    clear k0 k1 k2 k3 k4 k5 k6 hm3
    replace hr3 := hide hr3
    replace hb3 := hide hb3
    replace hx3 := hide hx3
    replace hs3 := hide hs3
    replace hm4 := hide hm4
    go_wp2_with fail
    have hsx := hs3.out
    have hlx := lt_of_block hs3.out
    have hlp3 := lt_of_block hb3.out.pb
    have hl0 := lt_of_block hr3.out
    have hlxx := lt_of_block hx3.out
    generalize (w3.alloc (.cells #[.int .i64 0, .int .i64 0, .int .i64 h, .int .i64 slewed] 185)) = w4 at *
    clear hsx
    have hbx3 : b ≠ w3.heap.size := by have := hbl3; omega
    have hkx3 : bk ≠ w3.heap.size := by have := hkl3; omega
    have hwx3 : w.heap.size ≠ w3.heap.size := by have := hwl3; omega
    obtain ⟨k0, k1, k2, k3, k4, k5, k6⟩ := hb3.out.pb.cells
    have x11 := cell_of_block hx3.out 11 rfl
    have x12 := cell_of_block hx3.out 12 rfl
    have hrv : lp.recv < 18446744073709551616 ∧ lp.xmit < 18446744073709551616 := by
      rw [← hlp.out]
      unfold lookP
      rw [if_neg (by omega)]
      split
      · exact ⟨wordAt_lt _ _ _ hd.out.lt, wordAt_lt _ _ _ hd.out.lt⟩
      · exact ⟨by decide, by decide⟩
    have hmk := hide (fun w => make_any p.clock clock lp.recv lp.xmit hpc hck hrv.1 hrv.2 w)
    obtain ⟨mo, hmo⟩ : ∃ mo, (makeS p.clock clock lp.recv lp.xmit).1 = mo := ⟨_, rfl⟩
    obtain ⟨md, hmd⟩ : ∃ md, (makeS p.clock clock lp.recv lp.xmit).2 = md := ⟨_, rfl⟩
    rw [hmo, hmd] at hmk
    replace hmo := hide hmo
    replace hmd := hide hmd
    go_region_with ((go_at_call 146; refine (hmk.out _).mono ?_; rintro e' w5 ⟨rfl, hm5⟩; have hm5' : Mod NoB w4 w5 := (Mod.refl NoB w4).drew.trans hm5; clear hm5; have hs5 := hm5'.heap hs3.out id; have s0 := cell_of_block hs5 0 rfl; have s1 := cell_of_block hs5 1 rfl; have y0 := frozen_of_block hs5 0; have y1 := frozen_of_block hs5 1; replace hs5 := hide hs5; replace hm5' := hide hm5'))
    all_goals
      have e : p.answer h clock slewed why (pktOf l).recv (pktOf l).xmit = ({ p with n := p.l, t := 0 }.rest p.l, some ⟨mo, md, h, slewed⟩, 0) := by
        have hlr : lp.recv = (pktOf l).recv ∧ lp.xmit = (pktOf l).xmit := by
          have ht : testR (pktOf l) p.cookie = 0 := by
            have h2 := hwhy
            unfold lookR at h2
            rw [if_neg (by omega)] at h2
            omega
          rw [← hlp.out]
          unfold lookP
          rw [if_neg (by omega), if_pos (Or.inl ht)]
          exact ⟨rfl, rfl⟩
        unfold PeerS.answer
        rw [if_neg hs2, if_neg hs0, if_neg h8, if_neg (by omega), hv, ← hlr.1, ← hlr.2, hmo.out, hmd.out]
        rfl
      replace e := hide e
      have hs6 : ((w5.setCell ⟨w3.heap.size, 0, none⟩ (.int .i64 mo)).setCell ⟨w3.heap.size, 1, none⟩ (.int .i64 md)).heap[w3.heap.size]? = some (.cells #[.int .i64 mo, .int .i64 md, .int .i64 h, .int .i64 slewed] 185 (0, 0)) := heap_setCell_eq (heap_setCell_eq hs5.out _) _
      have hm46 : Mod (· = w3.heap.size) w4 ((w5.setCell ⟨w3.heap.size, 0, none⟩ (.int .i64 mo)).setCell ⟨w3.heap.size, 1, none⟩ (.int .i64 md)) := ((hm5'.out.mono (fun _ _ f => f.elim)).set1 _ _).set1 _ _
      have hm6 : Mod NoB w ((w5.setCell ⟨w3.heap.size, 0, none⟩ (.int .i64 mo)).setCell ⟨w3.heap.size, 1, none⟩ (.int .i64 md)) := (hm4.out.into hm46 (fun b h => Or.inr (by show w.heap.size ≤ b; omega)))
      have hb6 : PeerO ((w5.setCell ⟨w3.heap.size, 0, none⟩ (.int .i64 mo)).setCell ⟨w3.heap.size, 1, none⟩ (.int .i64 md)) b bk p := hb3.out.mod hm46 hbx3 hkx3
      have hr6 := hm46.heap hr3.out hwx3
      obtain ⟨w6, hw6⟩ : ∃ w6, ((w5.setCell ⟨w3.heap.size, 0, none⟩ (.int .i64 mo)).setCell ⟨w3.heap.size, 1, none⟩ (.int .i64 md)) = w6 := ⟨_, rfl⟩
      rw [hw6] at hs6 hm46 hm6 hb6 hr6
      clear k0 k1 k2 k3 k4 k5 k6 x11 x12 s0 s1 y0 y1 hm46
      try rw [hw6]
      have k0 := hb6.pb.cells.1
      replace hs6 := hide hs6
      replace hm6 := hide hm6
      replace hb6 := hide hb6
      replace hr6 := hide hr6
      go_wp2_with fail
      obtain ⟨t, hbo⟩ := hb6.out.bo
      refine (good_any bk p.l p.m p.n t _ hbo).mono ?_
      rintro e' w7 ⟨rfl, hbo7, hm7⟩
      have hpb7 : PB w7 b bk p := hm7.heap hb6.out.pb hne
      have hs7 := hm7.heap hs6.out (Ne.symm hkx3)
      have hr7 := hm7.heap hr6.out hkw.symm
      replace hbo7 := hide hbo7
      replace hs7 := hide hs7
      replace hr7 := hide hr7
      replace hm7 := hide hm7
      clear k0
      go_wp2_with fail
      refine (prest_any b bk p hp p.l hp.l0 hp.l1 _ hpb7).mono ?_
      rintro e' w8 ⟨⟨xx, rfl⟩, hpb8, hm8⟩
      have hs8 := hm8.heap hs7.out (Ne.symm hbx3)
      have hr8 := hm8.heap hr7.out hbw.symm
      have hbo8 : BO w8 bk p.l p.m p.l 0 := hm8.heap hbo7.out (fun e => hne e.symm)
      have hm8' : Mod (fun k => k = b ∨ k = bk) w w8 := ((hm6.out.mono (fun _ _ f => f.elim)).trans (hm7.out.mono (fun _ _ f => Or.inr f))).trans (hm8.mono (fun _ _ f => Or.inl f))
      clear hm8
      have hset := set4_heap (w := w8) hr8 (.int .i64 mo) (.int .i64 md) (.int .i64 h) (.int .i64 slewed)
      have hmf := set4_mod (w := w8) (g := w.heap.size) hm8' (Or.inr (Nat.le_refl _)) (.int .i64 mo) (.int .i64 md) (.int .i64 h) (.int .i64 slewed)
      have hpf : PeerO (set4 w8 w.heap.size (.int .i64 mo) (.int .i64 md) (.int .i64 h) (.int .i64 slewed)) b bk ({ p with n := p.l, t := 0 }.rest p.l) := ⟨(set4_ne hbw (.int .i64 mo) (.int .i64 md) (.int .i64 h) (.int .i64 slewed)).trans hpb8, 0, (set4_ne hkw (.int .i64 mo) (.int .i64 md) (.int .i64 h) (.int .i64 slewed)).trans hbo8⟩
      obtain ⟨wf, hwf⟩ : ∃ wf, set4 w8 w.heap.size (.int .i64 mo) (.int .i64 md) (.int .i64 h) (.int .i64 slewed) = wf := ⟨_, rfl⟩
      rw [hwf] at hset hmf hpf
      replace hwf := hide hwf
      have r0 := cell_of_block hr8 0 rfl
      have q0 := frozen_of_block hr8 0
      have r1 := cell_of_block hr8 1 rfl
      have q1 := frozen_of_block hr8 1
      have r2 := cell_of_block hr8 2 rfl
      have q2 := frozen_of_block hr8 2
      have r3 := cell_of_block hr8 3 rfl
      have q3 := frozen_of_block hr8 3
      have g0 := cell_of_block hs8 0 (v := .int .i64 mo) rfl
      have g1 := cell_of_block hs8 1 (v := .int .i64 md) rfl
      have g2 := cell_of_block hs8 2 (v := .int .i64 h) rfl
      have g3 := cell_of_block hs8 3 (v := .int .i64 slewed) rfl
      replace hr8 := hide hr8
      replace hs8 := hide hs8
      replace hbo8 := hide hbo8
      replace hpb8 := hide hpb8
      go_wp2_with fail
      have hwf := hwf.out
      unfold set4 at hwf
      rw [hwf]
      have d0 := cell_of_block hset 0 (v := .int .i64 mo) rfl
      have d1 := cell_of_block hset 1 (v := .int .i64 md) rfl
      have d2 := cell_of_block hset 2 (v := .int .i64 h) rfl
      have d3 := cell_of_block hset 3 (v := .int .i64 slewed) rfl
      refine bodyPost_ret (v := .tuple #[sampleV mo md h slewed, .int .i64 0]) (by simp [results, Tryz.results118, go_sem, d0, d1, d2, d3]) rfl ⟨by rw [e.out]; rfl, by rw [e.out]; exact hpf, hmf⟩
end Go.Proofs.YtpjfiplejhbdfaaGreatDoor

