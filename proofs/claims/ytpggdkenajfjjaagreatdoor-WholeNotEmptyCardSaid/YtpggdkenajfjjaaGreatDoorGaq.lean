/- Lemmas for wholeNotEmpty; no conditions. -/
import Derived.Test.YtpggdkenajfjjaaGreatDoorGao
import Derived.Test.YtpggdkenajfjjaaGreatDoorGab
set_option linter.all false
set_option maxRecDepth 100000
set_option maxHeartbeats 16000000
namespace Go.Proofs.YtpggdkenajfjjaaGreatDoor
open Go.RowKit Tryz
open Go.Lib renaming hid → Hd
section
open Gn
structure Vd (w:World) (B:Nat) (A:Option Addr) (c:Nat) (N:Int) (M:List Int):Prop where
 hN:Zu N
 rd:Rd w B .i64 A M.length (Qe M)
 i64:∀x∈M,Zu x
 le:M.length≤c
 max:c≤maxLen
theorem Tu {N:Int} {E:Bool} {M:List Int} (h:N<0∨64<N∨(E=true∧0<M.length)∨(E=false∧(M.length:Int)≠4*N*N)):Je N E M=120:=by unfold Je;rw [ZM h]
theorem Nv {n:Nat} (h:n≤64):Je n true []=0:=by unfold Je;rw [ZL (by simp;omega),ZM rfl]
theorem Zg6 {n:Nat} {M:List Int} (h:n≤64) (hl:M.length=4*n*n) (hb:¬Yo (2*n) M):Je n false M=121:=by
 unfold Je;rw [ZL (by rw [hl];push_cast;simp;omega),ZL (by simp),ZL (by simpa using hb)]
theorem Gu {n:Nat} {M:List Int} (h:n≤64) (hl:M.length=4*n*n) (hb:Yo (2*n) M):Je n false M=0:=by
 unfold Je;rw [ZL (by rw [hl];push_cast;simp;omega),ZL (by simp),ZM (by simpa using hb)]
theorem Ul (A:Option Addr) (c:Nat) (N:Int) (E:Bool) (M:List Int) (w:World) (h:Vd w w.heap.size A c N M):
 Calls prog 32 #[.agg #[.int .i64 N,.bool E,.slice A M.length c]] w λe w'=>e=.returned (.int .i64 (Je N E M))∧Below w.heap.size w w':=by
 obtain ⟨hN,hr,hi64,_,_⟩:=h;have cR:=λW=>Bl N W
 have hB1:Below w.heap.size w (w.alloc (.cells #[.int .i64 N,.bool E,.slice A M.length c] 32)):=(QK _ _).alloc (ZH _) _;by_cases hn:0≤N∧N≤64
 .have hd:decide (0≤N∧N≤64)=true:=ZE hn;rw [hd] at cR;clear hd;obtain ⟨n,rfl⟩:=ZV hn.1;have hn64:n≤64:=by omega
  clear hn hN;rcases E with _|_
  .have hq:4*n*n≤16384:=by
    have:=QA hn64 hn64
    rw [Nat.mul_assoc];omega
   have eq:4*(n:Int)*(n:Int)=((4*n*n:Nat):Int):=by push_cast;rfl
   by_cases hl:M.length=4*n*n
   .have hl':((M.length:Int)!=((4*n*n:Nat):Int))=false:=by rw [hl];simp
    have hlen:M.length=(2*n)*(2*n):=by rw [hl,Bz]
    have:M.length≤16384:=by omega
    have HL:=Hd hlen;clear hlen hl;generalize 4*n*n=q at*;go_enter func32,ntmps32
    go_wp2_with (first|(go_at_call 71;with_reducible refine (cR _).mono ?_;rintro e w' ⟨rfl,rfl⟩))
    have hb0:(w.alloc (.cells #[.int .i64 n,.bool false,.slice A M.length c] 32)).cell? ⟨w.heap.size,0,none⟩=some (.int .i64 n):=by simp [QM]
    have hb2:(w.alloc (.cells #[.int .i64 n,.bool false,.slice A M.length c] 32)).cell? ⟨w.heap.size,2,none⟩=some (.slice A M.length c):=by simp [QM]
    have:(w.alloc (.cells #[.int .i64 n,.bool false,.slice A M.length c] 32)).heap.size=w.heap.size+1:=by simp
    have hr1:=hr.below hB1;generalize (w.alloc (.cells #[.int .i64 n,.bool false,.slice A M.length c] 32))=w1 at*;clear hr cR eq hq;go_loopw [43] (λs wr=>∃i:Nat,s=.int .i64 i∧i≤2*n∧(∀i',i'<i->∀j,j<2*n->Lx (2*n) M i' j)∧Below w1.heap.size w1 wr) (λs _=>2*n - (intOf s).toNat)
    case atStart=>exact ⟨0,rfl,by omega,λ_ h=>absurd h (by omega),QK _ _⟩
    obtain ⟨i,rfl,_,hok,hBr⟩:=hrel;have hc0:=(hBr.cell (p:=⟨w.heap.size,0,none⟩) (by simp;omega)).trans hb0;rcases ZJ i (2*n) with hlt|hge
    .go_wp2
     go_loopw [49] (λs wq=>∃j:Nat,s=.int .i64 j∧j≤2*n∧(∀j',j'<j->Lx (2*n) M i j')∧Below w1.heap.size w1 wq) (λs _=>2*n - (intOf s).toNat)
     case atStart=>exact ⟨0,rfl,by omega,λ_ h=>absurd h (by omega),hBr⟩
     obtain ⟨j,rfl,_,hokj,hBq⟩:=hrel;clear hc0 hBr;have hd0:=(hBq.cell (p:=⟨w.heap.size,0,none⟩) (by simp;omega)).trans hb0;have hd2:=(hBq.cell (p:=⟨w.heap.size,2,none⟩) (by simp;omega)).trans hb2;have hqs:=hBq.size;rcases ZJ j (2*n) with hjt|hjge
     .have HO:=Hd hok;have HOj:=Hd hokj;clear hok hokj;have hi2:=Qg hlt;have hj2:=Qg hjt;have cA:=λW=>Wx i j n W (by omega) (by omega) (by omega)
      have cA':=λW=>Wx (ac j) (ac i) n W (by omega) (by omega) (by omega)
      have cMi:=λW=>Hx i j W (by omega) (by omega)
      have hp:i*(2*n)+j<M.length:=by rw [HL.out];exact Zy hlt hjt
      have hp':ac j*(2*n)+ac i<M.length:=by rw [HL.out];exact Zy hj2 hi2
      have hCC:∀v v',cl (2*n) M i j=v->cl (2*n) M (ac j) (ac i)=v'->(Lx (2*n) M i j↔(Hl v=true∧(i=j->v=0)∧v=v')):=by
       rintro v v' rfl rfl;exact Iff.rfl
      have hCC:=hCC _ _ rfl rfl;unfold cl at hCC;obtain ⟨g,off,rfl,_,hcell⟩:=(hr1.below (hBq.mono (by omega))) (by omega);have hcv:=hcell _ hp;have hcv':=hcell _ hp';have:=hi64 _ (Ub hp);have HCC:=Hd hCC;clear hcell hCC;generalize i*(2*n)+j=p at*;generalize ac j*(2*n)+ac i=p' at*;generalize Qe M p=v at*;generalize Qe M p'=v' at*;generalize ac i=ai at*;generalize ac j=aj at*;go_wp2_with fail
      have k0:=(World.cell?_alloc_lt wr (.cells #[.int .i64 i,.int .i64 j] 133) ⟨w.heap.size,0,none⟩ (by simp;omega)).trans hd0;have k2:=(World.cell?_alloc_lt wr (.cells #[.int .i64 i,.int .i64 j] 133) ⟨w.heap.size,2,none⟩ (by simp;omega)).trans hd2;have k3:=(World.cell?_alloc_lt wr (.cells #[.int .i64 i,.int .i64 j] 133) ⟨g,off+p,none⟩ (by simp;omega)).trans hcv;have k4:=(World.cell?_alloc_lt wr (.cells #[.int .i64 i,.int .i64 j] 133) ⟨g,off+p',none⟩ (by simp;omega)).trans hcv';have k5:(wr.alloc (.cells #[.int .i64 i,.int .i64 j] 133)).cell? ⟨wr.heap.size,0,none⟩=some (.int .i64 i):=by simp [QM]
      have k6:(wr.alloc (.cells #[.int .i64 i,.int .i64 j] 133)).cell? ⟨wr.heap.size,1,none⟩=some (.int .i64 j):=by simp [QM]
      have:(wr.alloc (.cells #[.int .i64 i,.int .i64 j] 133)).heap.size=wr.heap.size+1:=by simp
      have k8:Below w1.heap.size w1 (wr.alloc (.cells #[.int .i64 i,.int .i64 j] 133)):=hBq.alloc hqs _;generalize (wr.alloc (.cells #[.int .i64 i,.int .i64 j] 133))=w2 at*;clear hd0 hd2 hcv hcv' hBq;have:(p:Int)<(M.length:Int):=by omega
      have:(p':Int)<(M.length:Int):=by omega
      have:(0:Int)≤(p:Int):=by omega
      have:(0:Int)≤(p':Int):=by omega
      have a0:=Qz.cell k0;have a2:=Qz.cell k2;have a3:=Qz.cell k3;have a5:=Qz.cell k5;have a6:=Qz.cell k6;refine Qk (by kernel_rfl) (by kernel_rfl) ?_
      repeat (go_big_quiet_step ((go_at_call 72;exact Qd (cA _))))
      refine wpQuiet_nil ?_;intro w' hB7;have m0:=Qq hB7 k0;have m2:=Qq hB7 k2;have m4:=Qq hB7 k4;have m5:=Qq hB7 k5;have m6:=Qq hB7 k6;have hk8:=k8.size;have hB8:=k8.trans (hB7.mono hk8);have:=hB7.size;clear k0 k2 k3 k4 k5 k6 cA hB7 a0 a2 a3 a5 a6;have hfin:Hid (Below w.heap.size w w'):=Hd (hB1.trans (hB8.mono (by omega)));have key:(Hl v=false∧¬Lx (2*n) M i j)∨(Hl v=true∧((((i:Int)==j)=true∧(v !=0)=true∧¬Lx (2*n) M i j)∨(((i:Int)==j)=true∧(v !=0)=false∧(v !=v')=true∧¬Lx (2*n) M i j)∨(((i:Int)==j)=false∧(v !=v')=true∧¬Lx (2*n) M i j)
       ∨(((i:Int)==j)=true∧(v !=0)=false∧(v !=v')=false∧Lx (2*n) M i j)∨(((i:Int)==j)=false∧(v !=v')=false∧Lx (2*n) M i j))):=by
       rw [HCC.out];simp only [beq_iff_eq,ZZ,ZK,ZY,Int.natCast_inj,ne_eq];cases Hl v<;>by_cases x1:i=j<;>by_cases x2:v=0<;>by_cases x3:v=v'<;>simp [x1,x2,x3]<;>omega
      have bI:=λW=>Oe v W
      rcases key with ⟨b1,hx⟩|⟨b1,⟨b2,b3,hx⟩|⟨b2,b3,b4,hx⟩|⟨b2,b4,hx⟩|⟨b2,b3,b4,hx⟩|⟨b2,b4,hx⟩⟩<;>(rw [b1] at bI;clear b1)
      all_goals have HX:=Hd hx
      all_goals clear hx
      all_goals go_wp2_with fail
      all_goals have a0:=Qz.cell m0
      all_goals have a2:=Qz.cell m2
      all_goals have a4:=Qz.cell m4
      all_goals have a5:=Qz.cell m5
      all_goals have a6:=Qz.cell m6
      all_goals refine Qk (by kernel_rfl) (by kernel_rfl) ?_
      all_goals repeat (go_big_quiet_step (first|(go_at_call 73;exact Qw (bI _))|(go_at_call 74;exact Qd (cMi _))|(go_at_call 72;exact Qd (cA' _))))
      all_goals refine wpQuiet_nil ?_
      all_goals intro w'' hB9
      all_goals have hend:Hid (Below w.heap.size w w''∧Below w1.heap.size w1 w''):=Hd ⟨hfin.out.trans (hB9.mono (by have:=hfin.out.size;omega)),hB8.trans (hB9.mono (by have:=hB8.size;omega))⟩
      all_goals clear hB9 a0 a2 a4 a5 a6
      all_goals go_wp2
      iterate 4
       .go_ret
        exact ⟨by rw [Zg6 hn64 (by rw [HL.out,Bz]) (λH=>HX.out (H i hlt j hjt))];rfl,hend.out.1⟩
      all_goals
       go_roundw
       case rel=>exact ⟨j+1,by go_num,by omega,λj' h'=>by
        rcases ZJ j' j with h|h
        .exact HOj.out j' h
        obtain rfl:j'=j:=by omega
        exact HX.out,hend.out.2⟩
       case measure=>simp [intOf];omega
     obtain rfl:j=2*n:=by omega
     have HO:=Hd hok;have HOj:=Hd hokj;clear hok hokj;go_wp2_with fail
     go_roundw
     case rel=>exact ⟨i+1,by go_num,by omega,λi' h'=>by
      rcases ZJ i' i with h|h
      .exact HO.out i' h
      obtain rfl:i'=i:=by omega
      exact HOj.out,hBq⟩
     simp [intOf];omega
    obtain rfl:i=2*n:=by omega
    have HO:=Hd hok;clear hok;go_wp2_with fail
    go_ret
    exact ⟨by rw [Gu hn64 (by rw [HL.out,Bz]) HO.out];rfl,hB1.trans (hBr.mono (by omega))⟩
   rw [Tu (by right;right;right;exact ⟨rfl,by rw [eq];omega⟩)];have hl':((M.length:Int)!=((4*n*n:Nat):Int))=true:=by simp;omega
   generalize 4*n*n=q at*;go_enter func32,ntmps32
   go_wp2_with (first|(go_at_call 71;with_reducible refine (cR _).mono ?_;rintro e w' ⟨rfl,rfl⟩))
   go_ret
   exact ⟨rfl,hB1⟩
  rcases Nat.eq_zero_or_pos M.length with h0|h0
  focus
   obtain rfl:=QE h0;rw [Nv hn64]
  rotate_left
  focus
   rw [Tu (by right;right;left;exact ⟨rfl,h0⟩)]
  all_goals
   go_enter func32,ntmps32
   go_wp2_with (first|(go_at_call 71;with_reducible refine (cR _).mono ?_;rintro e w' ⟨rfl,rfl⟩))
   go_ret
   exact ⟨rfl,hB1⟩
 .have hd:decide (0≤N∧N≤64)=false:=ZA hn;rw [hd] at cR;rw [Tu (by omega)];clear hd;go_enter func32,ntmps32
  go_wp2_with (first|(go_at_call 71;with_reducible refine (cR _).mono ?_;rintro e w' ⟨rfl,rfl⟩))
  go_ret
  exact ⟨rfl,hB1⟩
theorem Jr1 (a:Int) (w:World):
 Calls prog 18 #[.int .i64 a] w λe w'=>e=.returned (.bool (Hl a))∧w=w':=by
 by_cases h1:a=9223372036854775807
 .subst h1;go_enter func18,ntmps18
  go_wp2
  go_ret
  exact Sn (by simp [Hl])
 have:(a==9223372036854775807)=false:=beq_eq_false_iff_ne.2 h1;go_enter func18,ntmps18
 go_wp2
 all_goals
  go_ret
  exact Sn (by simp [Hl,h1];omega)
theorem Qw6 (A:Option Addr) (c:Nat) (N:Int) (E:Bool) (M:List Int) (w:World) (h:Vd w w.heap.size A c N M):
 Calls prog 7 #[.agg #[.int .i64 N,.bool E,.slice A M.length c]] w λe w'=>e=.returned (.int .i64 (Je N E M))∧Below w.heap.size w w':=by
 obtain ⟨hN,hr,hi64,_,_⟩:=h;have hB1:Below w.heap.size w (w.alloc (.cells #[.int .i64 N,.bool E,.slice A M.length c] 32)):=(QK _ _).alloc (ZH _) _;by_cases hn:0≤N∧N≤64
 .obtain ⟨n,rfl⟩:=ZV hn.1;have hn64:n≤64:=by omega
  clear hn hN;rcases E with _|_
  .have hq:4*n*n≤16384:=by
    have:=QA hn64 hn64
    rw [Nat.mul_assoc];omega
   have eq:4*(n:Int)*(n:Int)=((4*n*n:Nat):Int):=by push_cast;rfl
   by_cases hl:M.length=4*n*n
   .have hl':((M.length:Int)!=((4*n*n:Nat):Int))=false:=by rw [hl];simp
    have hlen:M.length=(2*n)*(2*n):=by rw [hl,Bz]
    have:M.length≤16384:=by omega
    have HL:=Hd hlen;clear hlen hl;generalize 4*n*n=q at*;go_enter func7,ntmps7
    go_wp2_with fail
    have hb0:(w.alloc (.cells #[.int .i64 n,.bool false,.slice A M.length c] 32)).cell? ⟨w.heap.size,0,none⟩=some (.int .i64 n):=by simp [QM]
    have hb2:(w.alloc (.cells #[.int .i64 n,.bool false,.slice A M.length c] 32)).cell? ⟨w.heap.size,2,none⟩=some (.slice A M.length c):=by simp [QM]
    have:(w.alloc (.cells #[.int .i64 n,.bool false,.slice A M.length c] 32)).heap.size=w.heap.size+1:=by simp
    have hr1:=hr.below hB1;generalize (w.alloc (.cells #[.int .i64 n,.bool false,.slice A M.length c] 32))=w1 at*;clear hr eq hq;go_loopw [4] (λs wr=>∃i:Nat,s=.int .i64 i∧i≤2*n∧(∀i',i'<i->∀j,j<2*n->Lx (2*n) M i' j)∧Below w1.heap.size w1 wr) (λs _=>2*n - (intOf s).toNat)
    case atStart=>exact ⟨0,rfl,by omega,λ_ h=>absurd h (by omega),QK _ _⟩
    obtain ⟨i,rfl,_,hok,hBr⟩:=hrel;rcases ZJ i (2*n) with hlt|hge
    .go_wp2
     go_loopw [5] (λs wq=>∃j:Nat,s=.int .i64 j∧j≤2*n∧(∀j',j'<j->Lx (2*n) M i j')∧Below w1.heap.size w1 wq) (λs _=>2*n - (intOf s).toNat)
     case atStart=>exact ⟨0,rfl,by omega,λ_ h=>absurd h (by omega),hBr⟩
     obtain ⟨j,rfl,_,hokj,hBq⟩:=hrel;clear hBr;have hd0:=(hBq.cell (p:=⟨w.heap.size,0,none⟩) (by simp;omega)).trans hb0;have hd2:=(hBq.cell (p:=⟨w.heap.size,2,none⟩) (by simp;omega)).trans hb2;have hqs:=hBq.size;rcases ZJ j (2*n) with hjt|hjge
     .have HO:=Hd hok;have HOj:=Hd hokj;clear hok hokj;have hi2:=Qg hlt;have hj2:=Qg hjt;have cAi:=λW=>Vp i W (by omega)
      have cAj:=λW=>Vp j W (by omega)
      have hp:i*(2*n)+j<M.length:=by rw [HL.out];exact Zy hlt hjt
      have hp':ac j*(2*n)+ac i<M.length:=by rw [HL.out];exact Zy hj2 hi2
      have hCC:∀v v',cl (2*n) M i j=v->cl (2*n) M (ac j) (ac i)=v'->(Lx (2*n) M i j↔(Hl v=true∧(i=j->v=0)∧v=v')):=by
       rintro v v' rfl rfl;exact Iff.rfl
      have hCC:=hCC _ _ rfl rfl;unfold cl at hCC;obtain ⟨_,_,rfl,_,hcell⟩:=(hr1.below (hBq.mono (by omega))) (by omega);have:=hcell _ hp;have hcv':=hcell _ hp';have hvi:=hi64 _ (Ub hp);have HCC:=Hd hCC;have:(i:Int)*(2*(n:Int))=((i*(2*n):Nat):Int):=by push_cast;rfl
      have:((ac j:Nat):Int)*(2*(n:Int))=((ac j*(2*n):Nat):Int):=by push_cast;rfl
      generalize Qe M (i*(2*n)+j)=v at*;generalize Qe M (ac j*(2*n)+ac i)=v' at*;have b1:i*(2*n)+j<16384:=by omega
      have b2:ac j*(2*n)+ac i<16384:=by omega
      clear hcell hCC hvi;generalize i*(2*n)=p at*;generalize ac j*(2*n)=p' at*;generalize ac i=ai at*;generalize ac j=aj at*;have bI:=λW=>Jr1 v W
      have hBw:=hB1.trans (hBq.mono (by omega));have hqw:=hBw.size;have HBw:=Hd hBw;clear hBw;have key:(Hl v=false∧¬Lx (2*n) M i j)∨(Hl v=true∧((((i:Int)==j)=true∧(v !=0)=true∧¬Lx (2*n) M i j)∨(((i:Int)==j)=true∧(v !=0)=false∧(v !=v')=true∧¬Lx (2*n) M i j)∨(((i:Int)==j)=false∧(v !=v')=true∧¬Lx (2*n) M i j)
       ∨(((i:Int)==j)=true∧(v !=0)=false∧(v !=v')=false∧Lx (2*n) M i j)∨(((i:Int)==j)=false∧(v !=v')=false∧Lx (2*n) M i j))):=by
       rw [HCC.out];simp only [beq_iff_eq,ZZ,ZK,ZY,Int.natCast_inj,ne_eq];cases Hl v<;>by_cases x1:i=j<;>by_cases x2:v=0<;>by_cases x3:v=v'<;>simp [x1,x2,x3]<;>omega
      rcases key with ⟨b1,hx⟩|⟨b1,⟨b2,b3,hx⟩|⟨b2,b3,b4,hx⟩|⟨b2,b4,hx⟩|⟨b2,b3,b4,hx⟩|⟨b2,b4,hx⟩⟩<;>(rw [b1] at bI;clear b1)
      all_goals have HX:=Hd hx
      all_goals clear hx
      all_goals go_wp2_with fail
      all_goals have a0:=Qz.cell hd0
      all_goals have a2:=Qz.cell hd2
      all_goals have a4:=Qz.cell hcv'
      all_goals refine Qk (by kernel_rfl) (by kernel_rfl) ?_
      all_goals repeat (go_big_quiet_step (first|(go_at_call 18;exact Qw (bI _))|(go_at_call 19;with_reducible exact Qw (cAj _))|(go_at_call 19;exact Qw (cAi _))))
      all_goals refine wpQuiet_nil ?_
      all_goals intro w'' hB9
      all_goals have hend:Hid (Below w.heap.size w w''∧Below w1.heap.size w1 w''):=Hd ⟨HBw.out.trans (hB9.mono hqw),hBq.trans (hB9.mono hqs)⟩
      all_goals clear hB9 a0 a2 a4
      all_goals go_wp2
      iterate 4
       .go_ret
        exact ⟨by rw [Zg6 hn64 (by rw [HL.out,Bz]) (λH=>HX.out (H i hlt j hjt))];rfl,hend.out.1⟩
      all_goals
       go_roundw
       case rel=>exact ⟨j+1,by go_num,by omega,λj' h'=>by
        rcases ZJ j' j with h|h
        .exact HOj.out j' h
        obtain rfl:j'=j:=by omega
        exact HX.out,hend.out.2⟩
       case measure=>simp [intOf];omega
     obtain rfl:j=2*n:=by omega
     have HO:=Hd hok;have HOj:=Hd hokj;clear hok hokj;go_wp2_with fail
     go_roundw
     case rel=>exact ⟨i+1,by go_num,by omega,λi' h'=>by
      rcases ZJ i' i with h|h
      .exact HO.out i' h
      obtain rfl:i'=i:=by omega
      exact HOj.out,hBq⟩
     simp [intOf];omega
    obtain rfl:i=2*n:=by omega
    have HO:=Hd hok;clear hok;go_wp2_with fail
    go_ret
    exact ⟨by rw [Gu hn64 (by rw [HL.out,Bz]) HO.out];rfl,hB1.trans (hBr.mono (by omega))⟩
   rw [Tu (by right;right;right;exact ⟨rfl,by rw [eq];omega⟩)];have hl':((M.length:Int)!=((4*n*n:Nat):Int))=true:=by simp;omega
   generalize 4*n*n=q at*;go_enter func7,ntmps7
   go_wp2_with fail
   go_ret
   exact ⟨rfl,hB1⟩
  rcases Nat.eq_zero_or_pos M.length with h0|h0
  .obtain rfl:=QE h0;rw [Nv hn64];go_enter func7,ntmps7
   go_wp2_with fail
   go_ret
   exact ⟨rfl,hB1⟩
  rw [Tu (by right;right;left;exact ⟨rfl,h0⟩)];have:((M.length:Int)!=0)=true:=bne_iff_ne.2 (by omega);go_enter func7,ntmps7
  go_wp2_with fail
  go_ret
  exact ⟨rfl,hB1⟩
 .rw [Tu (by omega)];by_cases hlo:N<0
  all_goals
   go_enter func7,ntmps7
   go_wp2_with fail
   go_ret
   exact ⟨rfl,hB1⟩
end
