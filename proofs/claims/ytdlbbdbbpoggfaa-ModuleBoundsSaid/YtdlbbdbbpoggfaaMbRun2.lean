import Derived.Test.YtdlbbdbbpoggfaaMbFixB
open Go Go.Ab Go.Proofs
set_option linter.unusedVariables false
set_option maxRecDepth 20000
namespace Sx
noncomputable section
def qcb_E (n : Nat) : aC := ⟨(SN [0] pD HH), [SY [0] (u1 (.tup (u2 (.agg (u3 hA hA hA)) .bool))) HH], fun d => qcb n d.1 d.2⟩
def qcb_ls (n : Nat) : List (Nat × aL) := [(0, ⟨[SN [0, 2, 4, 6, 20, 21] (u6 hQ hR hA hU hA hA) Qh], [SY [2, 3] (u2 hR .bool) Qh, SX 0 [2, 4, 6] (u3 hR hA hU) Qh], qcb_W0 n⟩)]
theorem qcb_ok (n : Nat) : aW Try.prog 122 (qcb_E n) :=
 aW.bS n zz Try.f122 { live := [(0, [0, 2, 4, 6, 20, 21])] } (qcb_ls n) (.k (qah_ok n) (.k (qby_ok n) (.k (qba_ok n) (.k (qbb_ok n) .e)))) (.k (fun _ => rfl) (fun _ => by kernel_rfl) .e) (by kernel_rfl) (by kernel_rfl) fun _ => by kernel_rfl
def qp_E (n : Nat) : aC := ⟨(SN [0] pD Io), [SY [0] Qi Io], fun d => qp n d.1.1 d.1.2 d.2.1 d.2.2⟩
theorem qp_ok (n : Nat) : aW Try.prog 119 (qp_E n) :=
 aW.bS n zz Try.f119 {} [] (.k (qcb_ok n) .e) .e (by kernel_rfl) (by kernel_rfl) fun _ => by kernel_rfl
def qe_E (n : Nat) : aC := ⟨(SN [0, 1, 2] (u3 hQ hA (.fn 119 pD .nil)) Io), [SY [0] (u1 (.sl false true yE)) Io], fun d => qe n d.1 d.2.1.1 d.2.1.2 d.2.2.1 d.2.2.2⟩
def qe_ls (n : Nat) : List (Nat × aL) := [(0, ⟨[SN [0, 2, 7, 10, 11] (u5 hQ (.fn 119 pD .nil) hC hA hA) QG], [SX 0 [7] (u1 hC) QG], qe_W0 n⟩)]
theorem qe_ok (n : Nat) : aW Try.prog 118 (qe_E n) :=
 aW.bS n zz Try.f118 { live := [(0, [0, 2, 7, 10, 11])], boxed := [(1, 0), (5, 4)] } (qe_ls n) (.k (qj_ok n) (.k (qp_ok n) .e)) (.k (fun _ => rfl) (fun _ => by kernel_rfl) .e) (by kernel_rfl) (by kernel_rfl) fun _ => by kernel_rfl
def qa_E (n : Nat) : aC := ⟨(SN [0] pD Io), [SY [0] (u1 (.agg (u5 hP hA hA hP (.sl false true yE)))) Io], fun d => qa n d.1.1 d.1.2 d.2.1 d.2.2⟩
theorem qa_ok (n : Nat) : aW Try.prog 86 (qa_E n) :=
 aW.bS n zz Try.f86 {} [] (.k (qc_ok n) (.k (qz_ok n) (.k (qe_ok n) .e))) .e (by kernel_rfl) (by kernel_rfl) fun _ => by kernel_rfl
def qn_E (n : Nat) : aC := ⟨(SN [0, 1, 2] (u3 hQ hA (.fn 86 pD .nil)) Io), [SY [0] (u1 hN) Io], fun d => qn n d.1 d.2.1.1 d.2.1.2 d.2.2.1 d.2.2.2⟩
def qn_ls (n : Nat) : List (Nat × aL) := [(0, ⟨[SN [0, 2, 7, 10, 11] (u5 hQ (.fn 86 pD .nil) hC hA hA) (u3 Pm C4 hW)], [SX 0 [7] (u1 hC) (u3 Pm C4 hW)], qn_W0 n⟩)]
theorem qn_ok (n : Nat) : aW Try.prog 85 (qn_E n) :=
 aW.bS n zz Try.f85 { live := [(0, [0, 2, 7, 10, 11])], boxed := [(1, 0), (5, 4)] } (qn_ls n) (.k (qj_ok n) (.k (qa_ok n) .e)) (.k (fun _ => rfl) (fun _ => by kernel_rfl) .e) (by kernel_rfl) (by kernel_rfl) fun _ => by kernel_rfl
def qw_E (n : Nat) : aC := ⟨(SN [0, 1, 2] PF (u2 Ol QH)), [SY [0] (u1 hU) (u4 Ol QH PJ C4)], fun d => qw n d.1 d.2.1 d.2.2.1 d.2.2.2⟩
theorem qw_ok (n : Nat) : aW Try.prog 78 (qw_E n) :=
 aW.bS n zz Try.f78 {} [] (.k (qay_ok n) .e) .e (by kernel_rfl) (by kernel_rfl) fun _ => by kernel_rfl
def qt_E (n : Nat) : aC := ⟨(SN [0] pD Io), [SY [0] (u1 (.agg (u3 hP hA hA))) Io], fun d => qt n d.1.1 d.1.2 d.2.1 d.2.2⟩
theorem qt_ok (n : Nat) : aW Try.prog 88 (qt_E n) :=
 aW.bS n zz Try.f88 {} [] (.k (qc_ok n) (.k (qz_ok n) .e)) .e (by kernel_rfl) (by kernel_rfl) fun _ => by kernel_rfl
def qd_E (n : Nat) : aC := ⟨(SN [0, 1, 2] (u3 hQ hA (.fn 88 pD .nil)) Io), [SY [0] (u1 hO) Io], fun d => qd n d.1 d.2.1.1 d.2.1.2 d.2.2.1 d.2.2.2⟩
def qd_ls (n : Nat) : List (Nat × aL) := [(0, ⟨[SN [0, 2, 7, 10, 11] (u5 hQ (.fn 88 pD .nil) hC hA hA) (u3 Pm C4 Qj)], [SX 0 [7] (u1 hC) (u3 Pm C4 Qj)], qd_W0 n⟩)]
theorem qd_ok (n : Nat) : aW Try.prog 87 (qd_E n) :=
 aW.bS n zz Try.f87 { live := [(0, [0, 2, 7, 10, 11])], boxed := [(1, 0), (5, 4)] } (qd_ls n) (.k (qj_ok n) (.k (qt_ok n) .e)) (.k (fun _ => rfl) (fun _ => by kernel_rfl) .e) (by kernel_rfl) (by kernel_rfl) fun _ => by kernel_rfl
def qx_E (n : Nat) : aC := ⟨(SN [0, 1, 2] PF (u2 Ol Qu)), [SY [0] (u1 hU) (u4 Ol Qu PJ C4)], fun d => qx n d.1 d.2.1 d.2.2.1 d.2.2.2.1 d.2.2.2.2⟩
theorem qx_ok (n : Nat) : aW Try.prog 78 (qx_E n) :=
 aW.bS n zz Try.f78 {} [] (.k (qay_ok n) .e) .e (by kernel_rfl) (by kernel_rfl) fun _ => by kernel_rfl
def qar_E (n : Nat) : aC := ⟨(SN [0] pD Pz), [SY [0] (u1 hB) Pz], fun d => qar n d.1.1 d.1.2 d.2.1 d.2.2⟩
theorem qar_ok (n : Nat) : aW Try.prog 90 (qar_E n) :=
 aW.bS n zz Try.f90 {} [] (.k (qah_ok n) .e) .e (by kernel_rfl) (by kernel_rfl) fun _ => by kernel_rfl
def qs_E (n : Nat) : aC := ⟨(SN [0, 1, 2] (u3 hQ hA (.fn 90 .nil (u1 hR))) PC), [SY [0] (u1 P9) PC], fun d => qs n d.1 d.2.1.1 d.2.1.2 d.2.2.1 d.2.2.2⟩
def qs_ls (n : Nat) : List (Nat × aL) := [(0, ⟨[SN [0, 2, 7, 10, 11] (u5 hQ (.fn 90 .nil (u1 hR)) hD hA hA) (u4 O5 Pk C4 Qf)], [SX 0 [7] (u1 hD) (u4 O5 Pk C4 Qf)], qs_W0 n⟩)]
theorem qs_ok (n : Nat) : aW Try.prog 89 (qs_E n) :=
 aW.bS n zz Try.f89 { live := [(0, [0, 2, 7, 10, 11])], boxed := [(1, 0), (5, 4)] } (qs_ls n) (.k (qj_ok n) (.k (qar_ok n) .e)) (.k (fun _ => rfl) (fun _ => by kernel_rfl) .e) (by kernel_rfl) (by kernel_rfl) fun _ => by kernel_rfl
def qaa_E (n : Nat) : aC := ⟨(SN [0, 1, 2] PF (u2 Ol Qo)), [SY [0] (u1 hU) (u4 Ol Qo PJ C4)], fun d => qaa n d.1 d.2.1 d.2.2.1 d.2.2.2.1 d.2.2.2.2.1 d.2.2.2.2.2⟩
theorem qaa_ok (n : Nat) : aW Try.prog 78 (qaa_E n) :=
 aW.bS n zz Try.f78 {} [] (.k (qay_ok n) .e) .e (by kernel_rfl) (by kernel_rfl) fun _ => by kernel_rfl
def qal_E (n : Nat) : aC := ⟨(SN [0] pD Pz), [SY [0] (u1 .str) Pz], fun d => qal n d.1.1 d.1.2 d.2.1 d.2.2⟩
theorem qal_ok (n : Nat) : aW Try.prog 93 (qal_E n) :=
 aW.bS n zz Try.f93 {} [] (.k (qj_ok n) (.k (qax_ok n) .e)) .e (by kernel_rfl) (by kernel_rfl) fun _ => by kernel_rfl
def qr_E (n : Nat) : aC := ⟨(SN [0, 1, 2] (u3 hQ hA (.fn 93 .nil (u1 hR))) PC), [SY [0] (u1 (.sl false false .str)) PC], fun d => qr n d.1 d.2.1.1 d.2.1.2 d.2.2.1 d.2.2.2⟩
def qr_ls (n : Nat) : List (Nat × aL) := [(0, ⟨[SN [0, 2, 7, 10, 11] (u5 hQ (.fn 93 .nil (u1 hR)) hD hA hA) (u4 O5 Pk C4 Qc)], [SX 0 [7] (u1 hD) (u4 O5 Pk C4 Qc)], qr_W0 n⟩)]
theorem qr_ok (n : Nat) : aW Try.prog 92 (qr_E n) :=
 aW.bS n zz Try.f92 { live := [(0, [0, 2, 7, 10, 11])], boxed := [(1, 0), (5, 4)] } (qr_ls n) (.k (qj_ok n) (.k (qal_ok n) .e)) (.k (fun _ => rfl) (fun _ => by kernel_rfl) .e) (by kernel_rfl) (by kernel_rfl) fun _ => by kernel_rfl
def qaz_E (n : Nat) : aC := ⟨(SN [0] (u1 Ou) .nil), [SY [0] (u1 (.tup (u2 (.agg (u5 hM hN hO P9 (.sl false false .str))) hA))) .nil], fun d => qaz n d⟩
theorem qaz_ok (n : Nat) : aW Try.prog 47 (qaz_E n) :=
 aW.bS n zz Try.f47 {} [] (.k (qbu_ok n) (.k (qas_ok n) (.k (qae_ok n) (.k (qw_ok n) (.k (qx_ok n) (.k (qaa_ok n) (.k (qay_ok n) (.k (qbb_ok n) (.k (qk_ok n) (.k (qn_ok n) (.k (qd_ok n) (.k (qs_ok n) (.k (qr_ok n) (.k (qbd_ok n) .e)))))))))))))) .e (by kernel_rfl) (by kernel_rfl) fun _ => by kernel_rfl
def qbt_E (n : Nat) : aC := ⟨(SN [0, 1] (u2 hK hK) .nil), [SY [0] hE .nil], fun d => qbt n d.1 d.2⟩
def qbt_ls (n : Nat) : List (Nat × aL) := [(0, ⟨[SN [0, 1, 12, 13] (u4 hK hK hA hA) .nil], [SY [4] hE .nil, SX 0 [] .nil .nil], qbt_W0 n⟩)]
theorem qbt_ok (n : Nat) : aW Try.prog 97 (qbt_E n) :=
 aW.bS n zz Try.f97 { live := [(0, [0, 1, 12, 13])] } (qbt_ls n) .e (.k (fun _ => rfl) (fun _ => by kernel_rfl) .e) (by kernel_rfl) (by kernel_rfl) fun _ => by kernel_rfl
def qav_E (n : Nat) : aC := ⟨(SN [0, 1, 2] (u3 hG hG (.fn 97 .nil .nil)) .nil), [SY [0] hE .nil], fun d => qav n d.1 d.2⟩
def qav_ls (n : Nat) : List (Nat × aL) := [(0, ⟨[SN [1, 2, 15, 16, 17] (u5 hG (.fn 97 .nil .nil) hG hA hA) .nil], [SY [6] hE .nil, SX 0 [] .nil .nil], qav_W0 n⟩)]
theorem qav_ok (n : Nat) : aW Try.prog 96 (qav_E n) :=
 aW.bS n zz Try.f96 { live := [(0, [1, 2, 15, 16, 17])] } (qav_ls n) (.k (qbt_ok n) .e) (.k (fun _ => rfl) (fun _ => by kernel_rfl) .e) (by kernel_rfl) (by kernel_rfl) fun _ => by kernel_rfl
def qbr_E (n : Nat) : aC := ⟨(SN [0, 1] (u2 hL hL) .nil), [SY [0] hE .nil], fun d => qbr n d.1 d.2⟩
def qbr_ls (n : Nat) : List (Nat × aL) := [(0, ⟨[SN [0, 1, 12, 13] (u4 hL hL hA hA) .nil], [SY [4] hE .nil, SX 0 [] .nil .nil], qbr_W0 n⟩)]
theorem qbr_ok (n : Nat) : aW Try.prog 121 (qbr_E n) :=
 aW.bS n zz Try.f121 { live := [(0, [0, 1, 12, 13])] } (qbr_ls n) .e (.k (fun _ => rfl) (fun _ => by kernel_rfl) .e) (by kernel_rfl) (by kernel_rfl) fun _ => by kernel_rfl
def qv_E (n : Nat) : aC := ⟨(SN [0, 1] (u2 P1 P1) .nil), [SY [0] hE .nil], fun d => qv n d.1.1 d.1.2.1 d.1.2.2.1 d.1.2.2.2.1 d.1.2.2.2.2 d.2.1 d.2.2.1 d.2.2.2.1 d.2.2.2.2.1 d.2.2.2.2.2⟩
theorem qv_ok (n : Nat) : aW Try.prog 99 (qv_E n) :=
 aW.bS n zz Try.f99 {} [] (.k (qbt_ok n) (.k (qbr_ok n) .e)) .e (by kernel_rfl) (by kernel_rfl) fun _ => by kernel_rfl
def qau_E (n : Nat) : aC := ⟨(SN [0, 1, 2] (u3 hH hH (.fn 99 .nil .nil)) .nil), [SY [0] hE .nil], fun d => qau n d.1 d.2⟩
def qau_ls (n : Nat) : List (Nat × aL) := [(0, ⟨[SN [1, 2, 15, 16, 17] (u5 hH (.fn 99 .nil .nil) hH hA hA) .nil], [SY [6] hE (u2 Qz Qz), SX 0 [] .nil .nil], qau_W0 n⟩)]
theorem qau_ok (n : Nat) : aW Try.prog 98 (qau_E n) :=
 aW.bS n zz Try.f98 { live := [(0, [1, 2, 15, 16, 17])] } (qau_ls n) (.k (qv_ok n) .e) (.k (fun _ => rfl) (fun _ => by kernel_rfl) .e) (by kernel_rfl) (by kernel_rfl) fun _ => by kernel_rfl
def qi_E (n : Nat) : aC := ⟨(SN [0, 1] (u2 Qb Qb) .nil), [SY [0] hE .nil], fun d => qi n d.1.1 d.1.2.1 d.1.2.2 d.2.1 d.2.2.1 d.2.2.2⟩
theorem qi_ok (n : Nat) : aW Try.prog 101 (qi_E n) :=
 aW.bS n zz Try.f101 {} [] (.k (qbt_ok n) .e) .e (by kernel_rfl) (by kernel_rfl) fun _ => by kernel_rfl
def qy_E (n : Nat) : aC := ⟨(SN [0, 1, 2] (u3 hI hI (.fn 101 .nil .nil)) .nil), [SY [0] hE .nil], fun d => qy n d.1 d.2⟩
def qy_ls (n : Nat) : List (Nat × aL) := [(0, ⟨[SN [1, 2, 15, 16, 17] (u5 hI (.fn 101 .nil .nil) hI hA hA) .nil], [SY [6] hE (u2 PB PB), SX 0 [] .nil .nil], qy_W0 n⟩)]
theorem qy_ok (n : Nat) : aW Try.prog 100 (qy_E n) :=
 aW.bS n zz Try.f100 { live := [(0, [1, 2, 15, 16, 17])] } (qy_ls n) (.k (qi_ok n) .e) (.k (fun _ => rfl) (fun _ => by kernel_rfl) .e) (by kernel_rfl) (by kernel_rfl) fun _ => by kernel_rfl
def qbn_E (n : Nat) : aC := ⟨(SN [0, 1] (u2 hY hY) .nil), [SY [0] hE .nil], fun d => qbn n d.1 d.2⟩
def qbn_ls (n : Nat) : List (Nat × aL) := [(0, ⟨[SN [0, 1, 12, 13] (u4 hY hY hA hA) .nil], [SY [4] hE .nil, SX 0 [] .nil .nil], qbn_W0 n⟩)]
theorem qbn_ok (n : Nat) : aW Try.prog 58 (qbn_E n) :=
 aW.bS n zz Try.f58 { live := [(0, [0, 1, 12, 13])] } (qbn_ls n) .e (.k (fun _ => rfl) (fun _ => by kernel_rfl) .e) (by kernel_rfl) (by kernel_rfl) fun _ => by kernel_rfl
def qbg_E (n : Nat) : aC := ⟨(SN [0, 1] (u2 hJ hJ) .nil), [SY [0] hE .nil], fun d => qbg n d.1 d.2⟩
def qbg_ls (n : Nat) : List (Nat × aL) := [(0, ⟨[SN [0, 1, 12, 13] (u4 hJ hJ hA hA) .nil], [SY [4] hE .nil, SX 0 [] .nil .nil], qbg_W0 n⟩)]
theorem qbg_ok (n : Nat) : aW Try.prog 102 (qbg_E n) :=
 aW.bS n zz Try.f102 { live := [(0, [0, 1, 12, 13])] } (qbg_ls n) .e (.k (fun _ => rfl) (fun _ => by kernel_rfl) .e) (by kernel_rfl) (by kernel_rfl) fun _ => by kernel_rfl
def qbq_E (n : Nat) : aC := ⟨(SN [0, 1] (u2 P8 P8) .nil), [SY [0] hE .nil], fun d => qbq n d.1.1 d.1.2.1 d.1.2.2.1 d.1.2.2.2.1 d.1.2.2.2.2 d.2.1 d.2.2.1 d.2.2.2.1 d.2.2.2.2.1 d.2.2.2.2.2⟩
theorem qbq_ok (n : Nat) : aW Try.prog 48 (qbq_E n) :=
 aW.bS n zz Try.f48 {} [] (.k (qav_ok n) (.k (qau_ok n) (.k (qy_ok n) (.k (qbn_ok n) (.k (qbg_ok n) .e))))) .e (by kernel_rfl) (by kernel_rfl) fun _ => by kernel_rfl
def qcf_E (n : Nat) : aC := ⟨(SN [0] (u1 Ou) .nil), [SY [0] hV .nil], fun d => qcf n d⟩
def qcf_ls (n : Nat) : List (Nat × aL) := [(2, ⟨[SN [3, 7, 8, 9, 17] (u5 (.int .u32) Ou hA hA hA) .nil], [SX 2 [3, 7, 8, 9] (u4 (.int .u32) Ou hA hA) .nil], qcf_W2 n⟩), (0, ⟨[SN [3, 7, 8, 9] (u4 (.int .u32) Ou hA hA) .nil], [SX 0 [3] hV .nil], qcf_W0 n⟩)]
theorem qcf_ok (n : Nat) : aW Try.prog 103 (qcf_E n) :=
 aW.bS n zz Try.f103 { live := [(0, [3, 7, 8, 9]), (2, [3, 7, 8, 9, 17])] } (qcf_ls n) .e (.k (fun _ => rfl) (fun _ => by kernel_rfl) (.k (fun _ => rfl) (fun _ => by kernel_rfl) .e)) (by kernel_rfl) (by kernel_rfl) fun _ => by kernel_rfl
def qbh_E (n : Nat) : aC := ⟨(SN [0] O3 .nil), [SY [0] hV .nil], fun d => qbh n d.1 d.2.1 d.2.2.1 d.2.2.2.1 d.2.2.2.2⟩
theorem qbh_ok (n : Nat) : aW Try.prog 49 (qbh_E n) :=
 aW.bS n zz Try.f49 {} [] (.k (qbd_ok n) (.k (qcf_ok n) .e)) .e (by kernel_rfl) (by kernel_rfl) fun _ => by kernel_rfl
def qbe_E (n : Nat) : aC := ⟨(SN [] .nil .nil), [SY [0] hE .nil], fun d => qbe n⟩
theorem qbe_ok (n : Nat) : aW Try.prog 15 (qbe_E n) :=
 aW.bS n zz Try.f15 {} [] (.k (qbd_ok n) (.k (qaz_ok n) (.k (qbq_ok n) (.k (qbh_ok n) .e)))) .e (by kernel_rfl) (by kernel_rfl) fun _ => by kernel_rfl
def rT (n : Nat) : aC := ⟨(SN [0, 1] Pq .nil), [SY [0] hE .nil], fun d => cM n d.1 d.2⟩
def qP (n : Nat) : List (Nat × aL) := [(0, ⟨[SN [0, 5, 6, 7, 8, 9] N5 On, SN [0, 5, 6, 7, 8, 9] N5 QE], [SX 0 [6, 7, 8] NG On, SX 0 [6, 7, 8] NG QE], cA n⟩)]
theorem qS (n : Nat) : aW Try.prog 5 (rT n) :=
 aW.bS n zz Try.f5 { live := [(0, [0, 5, 6, 7, 8, 9])], boxed := [(3, 2), (3, 4), (10, 2), (10, 3), (12, 6), (12, 7), (14, 4), (14, 5), (16, 4), (16, 5), (18, 2), (18, 3), (20, 8), (20, 9), (22, 8), (22, 9)], hint := [(8, 1, 0)] } (qP n) (.k (qbd_ok n) (.k (qbe_ok n) .e)) (.k (fun _ => rfl) (fun s => by rcases s with s | s <;> kernel_rfl) .e) (by kernel_rfl) (by kernel_rfl) fun _ => by kernel_rfl
def rM (n : Nat) : aC := ⟨(SN [0, 1] Pq .nil), [SY [0] hE .nil], fun d => cJ n d.1 d.2⟩
def qC (n : Nat) : List (Nat × aL) := [(0, ⟨[SN [0, 5, 6, 7, 8, 9] N5 On], [SX 0 [6, 7, 8] NG On], b8 n⟩)]
theorem pZ (n : Nat) : aW Try.prog 5 (rM n) :=
 aW.bS n zz Try.f5 { live := [(0, [0, 5, 6, 7, 8, 9])], boxed := [(3, 2), (3, 4), (10, 2), (10, 3), (12, 6), (12, 7), (14, 4), (14, 5), (16, 4), (16, 5), (18, 2), (18, 3), (20, 8), (20, 9), (22, 8), (22, 9)], hint := [(8, 1, 1)] } (qC n) (.k (qbd_ok n) (.k (qbe_ok n) .e)) (.k (fun _ => rfl) (fun _ => by kernel_rfl) .e) (by kernel_rfl) (by kernel_rfl) fun _ => by kernel_rfl
def rU (n : Nat) : aC := ⟨(SN [0, 1] Pq .nil), [SY [0] hE .nil], fun d => cI n d.1 d.2⟩
def pF (n : Nat) : List (Nat × aL) := [(0, ⟨[SN [0, 5, 6, 7, 8, 9] N5 On, SN [0, 5, 6, 7, 8, 9] N5 QC], [SX 0 [6, 7, 8] NG On, SX 0 [6, 7, 8] NG QC], b9 n⟩)]
theorem q5 (n : Nat) : aW Try.prog 5 (rU n) :=
 aW.bS n zz Try.f5 { live := [(0, [0, 5, 6, 7, 8, 9])], boxed := [(3, 2), (3, 4), (10, 2), (10, 3), (12, 6), (12, 7), (14, 4), (14, 5), (16, 4), (16, 5), (18, 2), (18, 3), (20, 8), (20, 9), (22, 8), (22, 9)], hint := [(8, 1, 2)] } (pF n) (.k (qbd_ok n) (.k (qbe_ok n) .e)) (.k (fun _ => rfl) (fun s => by rcases s with s | s <;> kernel_rfl) .e) (by kernel_rfl) (by kernel_rfl) fun _ => by kernel_rfl
def rL (n : Nat) : aC := ⟨(SN [0, 1] Pq .nil), [SY [0] hE .nil], fun d => cL n d.1 d.2⟩
def qD (n : Nat) : List (Nat × aL) := [(0, ⟨[SN [0, 5, 6, 7, 8, 9] N5 On, SN [0, 5, 6, 7, 8, 9] N5 QA], [SX 0 [6, 7, 8] NG On, SX 0 [6, 7, 8] NG QA], cB n⟩)]
theorem qO (n : Nat) : aW Try.prog 5 (rL n) :=
 aW.bS n zz Try.f5 { live := [(0, [0, 5, 6, 7, 8, 9])], boxed := [(3, 2), (3, 4), (10, 2), (10, 3), (12, 6), (12, 7), (14, 4), (14, 5), (16, 4), (16, 5), (18, 2), (18, 3), (20, 8), (20, 9), (22, 8), (22, 9)], hint := [(8, 1, 3)] } (qD n) (.k (qbd_ok n) (.k (qbe_ok n) .e)) (.k (fun _ => rfl) (fun s => by rcases s with s | s <;> kernel_rfl) .e) (by kernel_rfl) (by kernel_rfl) fun _ => by kernel_rfl
def rP (n : Nat) : aC := ⟨(SN [0, 1] Pq .nil), [SY [0] hE .nil], fun d => cN n d.1 d.2⟩
def pV (n : Nat) : List (Nat × aL) := [(0, ⟨[SN [0, 5, 6, 7, 8, 9] N5 On, SN [0, 5, 6, 7, 8, 9] N5 Qx], [SX 0 [6, 7, 8] NG On, SX 0 [6, 7, 8] NG Qx], cF n⟩)]
theorem pM (n : Nat) : aW Try.prog 5 (rP n) :=
 aW.bS n zz Try.f5 { live := [(0, [0, 5, 6, 7, 8, 9])], boxed := [(3, 2), (3, 4), (10, 2), (10, 3), (12, 6), (12, 7), (14, 4), (14, 5), (16, 4), (16, 5), (18, 2), (18, 3), (20, 8), (20, 9), (22, 8), (22, 9)], hint := [(8, 1, 4)] } (pV n) (.k (qbd_ok n) (.k (qbe_ok n) .e)) (.k (fun _ => rfl) (fun s => by rcases s with s | s <;> kernel_rfl) .e) (by kernel_rfl) (by kernel_rfl) fun _ => by kernel_rfl
def rS (n : Nat) : aC := ⟨(SN [0, 1] Pq .nil), [SY [0] hE .nil], fun d => cH n d.1 d.2⟩
def p6 (n : Nat) : List (Nat × aL) := [(0, ⟨[SN [0, 5, 6, 7, 8, 9] N5 PZ], [SX 0 [6, 7, 8] NG PZ], cD n⟩)]
theorem q7 (n : Nat) : aW Try.prog 5 (rS n) :=
 aW.bS n zz Try.f5 { live := [(0, [0, 5, 6, 7, 8, 9])], boxed := [(3, 2), (10, 2), (10, 3), (12, 6), (14, 4), (14, 5), (16, 4), (16, 5), (18, 2), (18, 3), (20, 8), (20, 9), (22, 8), (22, 9)], vars := [(12, 6)], hint := [(8, 1, 5)], own := [(3, 4), (12, 7)], tidy := [(20, [0, 5, 6, 7, 9], [(.tmp 7, 1, .const (.int .i64 0), 3)]), (23, [6, 7, 8], [])] } (p6 n) (.k (qbd_ok n) (.k (qbe_ok n) .e)) (.k (fun _ => rfl) (fun _ => by kernel_rfl) .e) (by kernel_rfl) (by kernel_rfl) fun _ => by kernel_rfl
def rR (n : Nat) : aC := ⟨(SN [0, 1] Pq .nil), [SY [0] hE .nil], fun d => cK n d.1 d.2⟩
def qT (n : Nat) : List (Nat × aL) := [(0, ⟨[SN [0, 5, 6, 7, 8, 9] N5 PZ], [SX 0 [6, 7, 8] NG PZ], cC n⟩)]
theorem pJ (n : Nat) : aW Try.prog 5 (rR n) :=
 aW.bS n zz Try.f5 { live := [(0, [0, 5, 6, 7, 8, 9])], boxed := [(3, 2), (10, 2), (10, 3), (12, 6), (14, 4), (14, 5), (16, 4), (16, 5), (18, 2), (18, 3), (20, 8), (20, 9), (22, 8), (22, 9)], vars := [(12, 6)], hint := [(8, 1, 6)], own := [(3, 4), (12, 7)], tidy := [(22, [0, 5, 6, 7, 9], [(.tmp 7, 1, .const (.int .i64 0), 4)]), (23, [6, 7, 8], [])] } (qT n) (.k (qbd_ok n) (.k (qbe_ok n) .e)) (.k (fun _ => rfl) (fun _ => by kernel_rfl) .e) (by kernel_rfl) (by kernel_rfl) fun _ => by kernel_rfl
end
end Sx
