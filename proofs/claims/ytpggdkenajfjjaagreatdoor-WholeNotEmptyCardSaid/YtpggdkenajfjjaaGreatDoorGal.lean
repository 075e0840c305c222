/- Lemmas for wholeNotEmpty; no conditions. -/
import Derived.Test.YtpggdkenajfjjaaGreatDoorProg
import Derived.Test.YtpggdkenajfjjaaGreatDoorGaa
import Derived.WalkKit
import Derived.WalkSpells
set_option linter.all false
set_option maxRecDepth 100000
set_option maxHeartbeats 16000000
namespace Go.Proofs.YtpggdkenajfjjaaGreatDoor
open Go.RowKit Tryz
section
open Gn
theorem Vo {k:IntKind} {x x':Int} {w:World} (h1:x=x'):(Ending.returned (.int k x)=.returned (.int k x'))∧w=w:=by subst h1;exact ⟨rfl,rfl⟩
theorem Sn {x x':Bool} {w:World} (h1:x=x'):(Ending.returned (.bool x)=.returned (.bool x'))∧w=w:=by subst h1;exact ⟨rfl,rfl⟩
theorem Xe {k l:IntKind} {x y x' y':Int} {w:World} (h1:x=x') (h2:y=y'):(Ending.returned (.tuple #[.int k x,.int l y])=.returned (.tuple #[.int k x',.int l y']))∧w=w:=by subst h1 h2;exact ⟨rfl,rfl⟩
theorem Zi6 (a b:Int) (w:World) (ha:Zu a) (hb:Zu b):
 Calls prog 196 #[.int .i64 a,.int .i64 b] w λe w'=>e=.returned (.tuple #[.int .i64 (Kd (a+b)),.int .i64 (Xy (a+b))])∧w=w':=by
 obtain ⟨_,_⟩:=ha;obtain ⟨_,_⟩:=hb;by_cases h1:a<0<;>by_cases h2:b<0
 all_goals
  go_enter func196,ntmps196
  go_wp2
  all_goals
   go_ret2
   refine Xe ?_ ?_
   all_goals
    simp only [Bool.not_eq_true',Bool.not_eq_false',ZU,decide_eq_false_iff_not,Kd,Xy,Zu,wrap64] at*
    first|omega|(split<;>omega)
theorem Qb1 (a b:Int) (w:World) (ha:Zu a) (hb:Zu b):
 Calls prog 197 #[.int .i64 a,.int .i64 b] w λe w'=>e=.returned (.tuple #[.int .i64 (Kd (a - b)),.int .i64 (Xy (a - b))])∧w=w':=by
 obtain ⟨_,_⟩:=ha;obtain ⟨_,_⟩:=hb;by_cases h1:a<0<;>by_cases h2:b<0
 all_goals
  go_enter func197,ntmps197
  go_wp2
  all_goals
   go_ret2
   refine Xe ?_ ?_
   all_goals
    simp only [Bool.not_eq_true',Bool.not_eq_false',ZU,decide_eq_false_iff_not,Kd,Xy,Zu,wrap64] at*
    first|omega|(split<;>omega)
theorem Zi1 (a:Int) (w:World) (ha:Zu a):
 Calls prog 253 #[.int .i64 a] w λe w'=>e=.returned (.tuple #[.int .i64 (Kd (-a)),.int .i64 (Xy (-a))])∧w=w':=by
 have c:=Qb1 0 a w (by unfold Zu;omega) ha;rw [Int.zero_sub] at c;go_enter func253,ntmps253
 go_wp2_with (go_at_call 197;refine c.mono ?_;rintro e w' ⟨rfl,rfl⟩)
 go_ret2
 exact ⟨rfl,rfl⟩
theorem Vw6 (a:Int) (w:World) (ha:Zu a):
 Calls prog 164 #[.int .i64 a] w λe w'=>e=.returned (.tuple #[.int .i64 (Kd (-a)),.int .i64 (Xy (-a))])∧w=w':=by
 obtain ⟨_,_⟩:=ha;by_cases h1:a=-9223372036854775808
 .subst h1;go_enter func164,ntmps164
  go_wp2
  go_ret2
  exact Xe (by decide) (by decide)
 have:(a==-9223372036854775808)=false:=by simpa using h1
 go_enter func164,ntmps164
 go_wp2
 go_ret2
 refine Xe ?_ ?_
 all_goals
  simp only [Kd,Xy,Zu]
  first|omega|(split<;>omega)
theorem Vj6 (a b:Int) (w:World) (ha:Zu a) (hb:Zu b):
 Calls prog 165 #[.int .i64 a,.int .i64 b] w λe w'=>e=.returned (.tuple #[.int .i64 (Kd (a+b)),.int .i64 (Xy (a+b))])∧w=w':=by
 obtain ⟨_,_⟩:=ha;obtain ⟨_,_⟩:=hb;by_cases h1:b<0<;>by_cases h2:0<b
 .omega
 all_goals
  go_enter func165,ntmps165
  go_wp2
  all_goals
   go_ret2
   refine Xe ?_ ?_
   all_goals
    simp only [Kd,Xy,Zu] at*
    first|omega|(split<;>omega)
theorem Vz6 (a b:Int) (w:World) (ha:Zu a) (hb:Zu b):
 Calls prog 166 #[.int .i64 a,.int .i64 b] w λe w'=>e=.returned (.tuple #[.int .i64 (Kd (a - b)),.int .i64 (Xy (a - b))])∧w=w':=by
 obtain ⟨_,_⟩:=ha;obtain ⟨_,_⟩:=hb;by_cases h1:b<0<;>by_cases h2:0<b
 .omega
 all_goals
  go_enter func166,ntmps166
  go_wp2
  all_goals
   go_ret2
   refine Xe ?_ ?_
   all_goals
    simp only [Kd,Xy,Zu] at*
    first|omega|(split<;>omega)
end
section
open Gn
theorem Kv (a:Int) (w:World):
 Calls prog 131 #[.int .i64 a] w λe w'=>e=.returned (.int .i64 (Jn a))∧w=w':=by
 by_cases h1:a< -4611686018427387904<;>by_cases h2:4611686018427387904<a
 .omega
 all_goals
  go_enter func131,ntmps131
  go_wp2
  go_ret
  exact Vo (by unfold Jn;repeat' split<;>omega)
theorem Nu (a:Int) (w:World):
 Calls prog 50 #[.int .i64 a] w λe w'=>e=.returned (.int .i64 (Jn a))∧w=w':=by
 by_cases h1:a< -4611686018427387904<;>by_cases h2:4611686018427387904<a
 .omega
 all_goals
  go_enter func50,ntmps50
  go_wp2
  go_ret
  exact Vo (by unfold Jn;repeat' split<;>omega)
theorem Oe (a:Int) (w:World):
 Calls prog 73 #[.int .i64 a] w λe w'=>e=.returned (.bool (Hl a))∧w=w':=by
 by_cases h1:a=9223372036854775807
 .subst h1;go_enter func73,ntmps73
  go_wp2
  go_ret
  exact Sn rfl
 have:(a==9223372036854775807)=false:=beq_eq_false_iff_ne.2 h1;by_cases h2:a< -4611686018427387904<;>by_cases h3:4611686018427387904<a
 .omega
 all_goals
  go_enter func73,ntmps73
  go_wp2
  go_ret
  exact Sn (by unfold Hl;rw [Bool.eq_iff_iff];simp;omega)
theorem Pu (a b:Int) (w:World):
 Calls prog 133 #[.int .i64 a,.int .i64 b] w λe w'=>e=.returned (.int .i64 (Zh a b))∧w=w':=by
 have ca:=Kv a w;have cb:=Kv b w;have ba:=Vy a;have bb:=Vy b;have f:Zh a b=if Jn a=9223372036854775807∨Jn b=9223372036854775807 then 9223372036854775807 else Jn (Jn a+Jn b):=rfl
 rw [f];clear f;generalize Jn a=x at*;generalize Jn b=y at*;unfold Bd at ba bb;by_cases h1:x=9223372036854775807
 .rw [ZM (.inl h1)];subst h1;clear ba bb;go_enter func133,ntmps133
  go_wp2_with (first|(go_at_call 131;first|(with_reducible refine ca.mono ?_;clear ca;rintro e w' ⟨rfl,rfl⟩)|(with_reducible refine cb.mono ?_;clear cb;rintro e w' ⟨rfl,rfl⟩))|go_in)
  go_ret
  exact ⟨rfl,rfl⟩
 have:(x==9223372036854775807)=false:=beq_eq_false_iff_ne.2 h1;by_cases h2:y=9223372036854775807
 .rw [ZM (.inr h2)];subst h2;clear ba bb h1;go_enter func133,ntmps133
  go_wp2_with (first|(go_at_call 131;first|(with_reducible refine ca.mono ?_;clear ca;rintro e w' ⟨rfl,rfl⟩)|(with_reducible refine cb.mono ?_;clear cb;rintro e w' ⟨rfl,rfl⟩))|go_in)
  go_ret
  exact ⟨rfl,rfl⟩
 have:(y==9223372036854775807)=false:=beq_eq_false_iff_ne.2 h2;rw [ZL (by omega)];have:-4611686018427387904≤x:=by omega
 have:x≤4611686018427387904:=by omega
 have:-4611686018427387904≤y:=by omega
 have:y≤4611686018427387904:=by omega
 clear ba bb h1 h2;by_cases h3:0<x
 .by_cases h4:4611686018427387904 - x<y
  .have f:Jn (x+y)=Jn 4611686018427387905:=by unfold Jn;repeat' split<;>omega
   rw [f];clear f;go_enter func133,ntmps133
   go_wp2_with (first|(go_at_call 131;first|(with_reducible refine ca.mono ?_;clear ca;rintro e w' ⟨rfl,rfl⟩)|(with_reducible refine cb.mono ?_;clear cb;rintro e w' ⟨rfl,rfl⟩)|(with_reducible refine (Kv 4611686018427387905 _).mono ?_;rintro e w' ⟨rfl,rfl⟩))|go_in)
   go_ret
   exact ⟨rfl,rfl⟩
  go_enter func133,ntmps133
  go_wp2_with (first|(go_at_call 131;first|(with_reducible refine ca.mono ?_;clear ca;rintro e w' ⟨rfl,rfl⟩)|(with_reducible refine cb.mono ?_;clear cb;rintro e w' ⟨rfl,rfl⟩)|(with_reducible refine (Kv (x+y) _).mono ?_;rintro e w' ⟨rfl,rfl⟩))|go_in)
  go_ret
  exact ⟨rfl,rfl⟩
 go_enter func133,ntmps133
 go_wp2_with (first|(go_at_call 131;first|(with_reducible refine ca.mono ?_;clear ca;rintro e w' ⟨rfl,rfl⟩)|(with_reducible refine cb.mono ?_;clear cb;rintro e w' ⟨rfl,rfl⟩)|(with_reducible refine (Kv (x+y) _).mono ?_;rintro e w' ⟨rfl,rfl⟩))|go_in)
 go_ret
 exact ⟨rfl,rfl⟩
end
section
open Gn
theorem Qh2 (a:Int) (w:World):
 Calls prog 203 #[.int .i64 a] w λe w'=>e=.returned (.int .i64 (if Hl a then 0 else 1))∧w=w':=by
 have c:=Oe a w;rcases h:Hl a with _|_
 all_goals
  rw [h] at c;go_enter func203,ntmps203
  go_wp2_with (go_at_call 73;refine c.mono ?_;rintro e w' ⟨rfl,rfl⟩)
  go_ret
  exact ⟨rfl,rfl⟩
theorem Ia (a b:Int) (w:World):
 Calls prog 132 #[.int .i64 a,.int .i64 b] w λe w'=>e=.returned (.bool (Yj a b))∧w=w':=by
 have ca:=Kv a w;have cb:=Kv b w;have ba:=Vy a;have bb:=Vy b;have f:Yj a b=decide (Jn a≠9223372036854775807∧Jn b≠9223372036854775807∧¬(-4611686018427387904≤Jn a+Jn b∧Jn a+Jn b≤4611686018427387904)):=rfl;rw [f];clear f;generalize Jn a=x at*;generalize Jn b=y at*;unfold Bd at ba bb;by_cases h1:x=9223372036854775807
 .rw [ZA (by omega)];subst h1;clear ba bb;go_enter func132,ntmps132
  go_wp2_with (first|(go_at_call 131;first|(with_reducible refine ca.mono ?_;clear ca;rintro e w' ⟨rfl,rfl⟩)|(with_reducible refine cb.mono ?_;clear cb;rintro e w' ⟨rfl,rfl⟩))|go_in)
  go_ret
  exact ⟨rfl,rfl⟩
 have:(x==9223372036854775807)=false:=beq_eq_false_iff_ne.2 h1;by_cases h2:y=9223372036854775807
 .rw [ZA (by omega)];subst h2;clear ba bb h1;go_enter func132,ntmps132
  go_wp2_with (first|(go_at_call 131;first|(with_reducible refine ca.mono ?_;clear ca;rintro e w' ⟨rfl,rfl⟩)|(with_reducible refine cb.mono ?_;clear cb;rintro e w' ⟨rfl,rfl⟩))|go_in)
  go_ret
  exact ⟨rfl,rfl⟩
 have:(y==9223372036854775807)=false:=beq_eq_false_iff_ne.2 h2;have:-4611686018427387904≤x:=by omega
 have:x≤4611686018427387904:=by omega
 have:-4611686018427387904≤y:=by omega
 have:y≤4611686018427387904:=by omega
 have e0:decide (x≠9223372036854775807∧y≠9223372036854775807∧¬(-4611686018427387904≤x+y∧x+y≤4611686018427387904))=decide (x+y< -4611686018427387904∨4611686018427387904<x+y):=by
  apply decide_eq_decide.2;omega
 rw [e0];clear e0;clear ba bb h1 h2;by_cases h3:4611686018427387904<x+y
 .rw [ZE (by omega)];have h4:0<x:=by omega
  have h5:4611686018427387904 - x<y:=by omega
  have c:=Qh2 4611686018427387905 w;rw [show (if Hl 4611686018427387905 then 0 else 1:Int)=1 by decide] at c;clear h3;go_enter func132,ntmps132
  go_wp2_with (first|(go_at_call 131;first|(with_reducible refine ca.mono ?_;clear ca;rintro e w' ⟨rfl,rfl⟩)|(with_reducible refine cb.mono ?_;clear cb;rintro e w' ⟨rfl,rfl⟩))|(go_at_call 203;with_reducible refine c.mono ?_;rintro e w' ⟨rfl,rfl⟩)|go_in)
  go_ret
  exact ⟨rfl,rfl⟩
 have c:=Qh2 (x+y) w;by_cases h5:x+y< -4611686018427387904
 .rw [ZE (by omega)];have h4:¬0<x:=by omega
  have e1:Hl (x+y)=false:=by rw [Bool.eq_false_iff,Ne,Uu];unfold Bd;omega
  rw [e1] at c;clear e1;rw [show (if false=true then 0 else 1:Int)=1 by decide] at c;go_enter func132,ntmps132
  go_wp2_with (first|(go_at_call 131;first|(with_reducible refine ca.mono ?_;clear ca;rintro e w' ⟨rfl,rfl⟩)|(with_reducible refine cb.mono ?_;clear cb;rintro e w' ⟨rfl,rfl⟩))|(go_at_call 203;with_reducible refine c.mono ?_;rintro e w' ⟨rfl,rfl⟩)|go_in)
  go_ret
  exact ⟨rfl,rfl⟩
 rw [ZA (by omega)];have e1:Hl (x+y)=true:=by rw [Uu];unfold Bd;omega
 rw [e1] at c;clear e1;rw [show (if true=true then 0 else 1:Int)=0 by decide] at c;by_cases h4:0<x
 focus
  have:¬4611686018427387904 - x<y:=by omega
 all_goals
  go_enter func132,ntmps132
  go_wp2_with (first|(go_at_call 131;first|(with_reducible refine ca.mono ?_;clear ca;rintro e w' ⟨rfl,rfl⟩)|(with_reducible refine cb.mono ?_;clear cb;rintro e w' ⟨rfl,rfl⟩))|(go_at_call 203;with_reducible refine c.mono ?_;rintro e w' ⟨rfl,rfl⟩)|go_in)
  go_ret
  exact ⟨rfl,rfl⟩
theorem Jm7 (a b:Int) (w:World):
 Calls prog 163 #[.int .i64 a,.int .i64 b] w λe w'=>e=.returned (.int .i64 (Zh a b))∧w=w':=by
 have ca:=Nu a w;have cb:=Nu b w;have ba:=Vy a;have bb:=Vy b;have f:Zh a b=if Jn a=9223372036854775807∨Jn b=9223372036854775807 then 9223372036854775807 else Jn (Jn a+Jn b):=rfl
 rw [f];clear f;generalize Jn a=x at*;generalize Jn b=y at*;unfold Bd at ba bb;by_cases h1:x=9223372036854775807
 .rw [ZM (.inl h1)];subst h1;clear ba bb;go_enter func163,ntmps163
  go_wp2_with (first|(go_at_call 50;first|(with_reducible refine ca.mono ?_;clear ca;rintro e w' ⟨rfl,rfl⟩)|(with_reducible refine cb.mono ?_;clear cb;rintro e w' ⟨rfl,rfl⟩))|go_in)
  go_ret
  exact ⟨rfl,rfl⟩
 have:(x==9223372036854775807)=false:=beq_eq_false_iff_ne.2 h1;by_cases h2:y=9223372036854775807
 .rw [ZM (.inr h2)];subst h2;clear ba bb h1;go_enter func163,ntmps163
  go_wp2_with (first|(go_at_call 50;first|(with_reducible refine ca.mono ?_;clear ca;rintro e w' ⟨rfl,rfl⟩)|(with_reducible refine cb.mono ?_;clear cb;rintro e w' ⟨rfl,rfl⟩))|go_in)
  go_ret
  exact ⟨rfl,rfl⟩
 have:(y==9223372036854775807)=false:=beq_eq_false_iff_ne.2 h2;rw [ZL (by omega)];have bx:-4611686018427387904≤x:=by omega
 have bx':x≤4611686018427387904:=by omega
 have:-4611686018427387904≤y:=by omega
 have:y≤4611686018427387904:=by omega
 clear ba bb h1 h2;by_cases h3:x=4611686018427387904
 .subst h3;clear bx bx';by_cases h4:y=4611686018427387904
  .subst h4;rw [show Jn (4611686018427387904+4611686018427387904)=9223372036854775807 by decide];go_enter func163,ntmps163
   go_wp2_with (first|(go_at_call 50;first|(with_reducible refine ca.mono ?_;clear ca;rintro e w' ⟨rfl,rfl⟩)|(with_reducible refine cb.mono ?_;clear cb;rintro e w' ⟨rfl,rfl⟩))|go_in)
   go_ret
   exact ⟨rfl,rfl⟩
  have:(y==4611686018427387904)=false:=beq_eq_false_iff_ne.2 h4;have b4:y<4611686018427387904:=by omega
  clear h4;go_enter func163,ntmps163
  go_wp2_with (first|(go_at_call 50;first|(with_reducible refine ca.mono ?_;clear ca;rintro e w' ⟨rfl,rfl⟩)|(with_reducible refine cb.mono ?_;clear cb;rintro e w' ⟨rfl,rfl⟩)|(with_reducible refine (Nu _ _).mono ?_;rintro e w' ⟨rfl,rfl⟩))|go_in)
  go_ret
  exact ⟨rfl,rfl⟩
 have:(x==4611686018427387904)=false:=beq_eq_false_iff_ne.2 h3;have b4:x<4611686018427387904:=by omega
 clear h3;go_enter func163,ntmps163
 go_wp2_with (first|(go_at_call 50;first|(with_reducible refine ca.mono ?_;clear ca;rintro e w' ⟨rfl,rfl⟩)|(with_reducible refine cb.mono ?_;clear cb;rintro e w' ⟨rfl,rfl⟩)|(with_reducible refine (Nu _ _).mono ?_;rintro e w' ⟨rfl,rfl⟩))|go_in)
 go_ret
 exact ⟨rfl,rfl⟩
theorem Qx5 (a b:Int) (w:World):
 Calls prog 162 #[.int .i64 a,.int .i64 b] w λe w'=>e=.returned (.bool (Yj a b))∧w=w':=by
 have ca:=Nu a w;have cb:=Nu b w;have ba:=Vy a;have bb:=Vy b;have f:Yj a b=decide (Jn a≠9223372036854775807∧Jn b≠9223372036854775807∧¬(-4611686018427387904≤Jn a+Jn b∧Jn a+Jn b≤4611686018427387904)):=rfl;rw [f];clear f;generalize Jn a=x at*;generalize Jn b=y at*;unfold Bd at ba bb;by_cases h1:x=9223372036854775807
 .rw [ZA (by omega)];subst h1;clear ba bb;go_enter func162,ntmps162
  go_wp2_with (go_at_call 50;first|(with_reducible refine ca.mono ?_;clear ca;rintro e w' ⟨rfl,rfl⟩)|(with_reducible refine cb.mono ?_;clear cb;rintro e w' ⟨rfl,rfl⟩))
  go_ret
  exact ⟨rfl,rfl⟩
 have:(x==9223372036854775807)=false:=beq_eq_false_iff_ne.2 h1;by_cases h2:y=9223372036854775807
 .rw [ZA (by omega)];subst h2;clear ba bb h1;go_enter func162,ntmps162
  go_wp2_with (go_at_call 50;first|(with_reducible refine ca.mono ?_;clear ca;rintro e w' ⟨rfl,rfl⟩)|(with_reducible refine cb.mono ?_;clear cb;rintro e w' ⟨rfl,rfl⟩))
  go_ret
  exact ⟨rfl,rfl⟩
 have:(y==9223372036854775807)=false:=beq_eq_false_iff_ne.2 h2;have:-4611686018427387904≤x:=by omega
 have:x≤4611686018427387904:=by omega
 have:-4611686018427387904≤y:=by omega
 have:y≤4611686018427387904:=by omega
 have e0:decide (x≠9223372036854775807∧y≠9223372036854775807∧¬(-4611686018427387904≤x+y∧x+y≤4611686018427387904))=decide (x+y< -4611686018427387904∨4611686018427387904<x+y):=by
  apply decide_eq_decide.2;omega
 rw [e0];clear e0;clear ba bb h1 h2;by_cases h6:x=4611686018427387904∧y=4611686018427387904
 .obtain ⟨rfl,rfl⟩:=h6;go_enter func162,ntmps162
  go_wp2_with (go_at_call 50;first|(with_reducible refine ca.mono ?_;clear ca;rintro e w' ⟨rfl,rfl⟩)|(with_reducible refine cb.mono ?_;clear cb;rintro e w' ⟨rfl,rfl⟩))
  go_ret
  exact ⟨rfl,rfl⟩
 have:x+y<9223372036854775808:=by omega
 have g6:((x==4611686018427387904)=false)∨(x=4611686018427387904∧(y==4611686018427387904)=false):=by
  by_cases h7:x=4611686018427387904
  .exact .inr ⟨h7,beq_eq_false_iff_ne.2 (by omega)⟩
  exact .inl (beq_eq_false_iff_ne.2 h7)
 clear h6;rcases g6 with g6|⟨rfl,g6⟩
 all_goals
  go_enter func162,ntmps162
  go_wp2_with (go_at_call 50;first|(with_reducible refine ca.mono ?_;clear ca;rintro e w' ⟨rfl,rfl⟩)|(with_reducible refine cb.mono ?_;clear cb;rintro e w' ⟨rfl,rfl⟩))
  all_goals
   go_ret
   exact Sn (Bool.eq_iff_iff.2 (by simp<;>omega))
end
section
open Gn
theorem Ts (a:Int) (w:World):
 Calls prog 79 #[.int .i64 a] w λe w'=>e=.returned (.int .i64 (Ju a))∧w=w':=by
 have ca:=Kv a w;have ba:=Vy a;have f:Ju a=if Jn a=9223372036854775807 then 9223372036854775807 else Jn a / 2:=rfl
 rw [f];clear f;generalize Jn a=x at*;unfold Bd at ba;by_cases h1:x=9223372036854775807
 focus
  rw [ZM h1];subst h1;clear ba
 rotate_left
 focus
  have:(x==9223372036854775807)=false:=beq_eq_false_iff_ne.2 h1;rw [ZL h1];have:-4611686018427387904≤x:=by omega
  have:x≤4611686018427387904:=by omega
  clear ba h1
 all_goals
  go_enter func79,ntmps79
  go_wp2_with (go_at_call 131;with_reducible refine ca.mono ?_;rintro e w' ⟨rfl,rfl⟩)
  go_ret
  exact ⟨rfl,rfl⟩
theorem Qq7 (a:Int) (w:World):
 Calls prog 101 #[.int .i64 a] w λe w'=>e=.returned (.int .i64 (Ju a))∧w=w':=by
 have ca:=Nu a w;have ba:=Vy a;have f:Ju a=if Jn a=9223372036854775807 then 9223372036854775807 else Jn a / 2:=rfl
 rw [f];clear f;generalize Jn a=x at*;unfold Bd at ba;by_cases h1:x=9223372036854775807
 .rw [ZM h1];subst h1;clear ba;go_enter func101,ntmps101
  go_wp2_with (go_at_call 50;with_reducible refine ca.mono ?_;rintro e w' ⟨rfl,rfl⟩)
  go_ret
  exact ⟨rfl,rfl⟩
 have:(x==9223372036854775807)=false:=beq_eq_false_iff_ne.2 h1;rw [ZL h1];have:-4611686018427387904≤x:=by omega
 have:x≤4611686018427387904:=by omega
 clear ba h1;by_cases h2:x<0
 .have t:x.tmod 2=0∨x.tmod 2=-1:=by
   have h1:=Int.tmod_nonneg 2 (a:=-x) (by omega);rw [Int.neg_tmod] at h1;have h2:(x.tmod 2).natAbs=x.natAbs % 2:=Int.natAbs_tmod x 2;omega
  have q:=Int.mul_tdiv_add_tmod x 2;rcases t with t|t
  focus
   have g3:(x.tmod 2!=0)=false:=by rw [t];rfl
   have e:x / 2=x.tdiv 2:=by omega
  rotate_left
  focus
   have g3:(x.tmod 2!=0)=true:=by rw [t];rfl
   have e:x / 2=x.tdiv 2 - 1:=by omega
   have:-4611686018427387904≤x.tdiv 2:=by omega
   have:x.tdiv 2≤0:=by omega
  all_goals
   rw [e];clear e q t;go_enter func101,ntmps101
   go_wp2_with (go_at_call 50;with_reducible refine ca.mono ?_;rintro e w' ⟨rfl,rfl⟩)
   go_ret
   exact ⟨rfl,rfl⟩
 go_enter func101,ntmps101
 go_wp2_with (go_at_call 50;with_reducible refine ca.mono ?_;rintro e w' ⟨rfl,rfl⟩)
 go_ret
 exact ⟨rfl,rfl⟩
theorem Zd5 (a:Int) (w:World):
 Calls prog 78 #[.int .i64 a] w λe w'=>e=.returned (.int .i64 (Rl a))∧w=w':=by
 have c:=Ts a w;have hb:=Ka a;have hl:Ju a≠9223372036854775807->-4611686018427387904≤2*Ju a∧2*Ju a≤4611686018427387904:=by
  have:=Vy a
  unfold Ju;unfold Bd at this;split<;>omega
 rw [Ck];generalize Ju a=x at*;by_cases h1:x=9223372036854775807
 focus
  rw [ZM h1];subst h1;clear hb hl
 rotate_left
 focus
  have g1:(x !=9223372036854775807)=true:=by simpa using h1
  rw [ZL h1];obtain ⟨_,_⟩:=hl h1;clear hb hl h1
 all_goals
  go_enter func78,ntmps78
  go_wp2_with (go_at_call 79;with_reducible refine c.mono ?_;rintro e w' ⟨rfl,rfl⟩)
  go_ret
  exact ⟨rfl,rfl⟩
theorem Jn6 (a:Int) (w:World):
 Calls prog 100 #[.int .i64 a] w λe w'=>e=.returned (.int .i64 (Rl a))∧w=w':=by
 have ca:=Nu a w;have c:=Qq7 (Jn a) w;have hi:=Lr a;rw [Jt8] at c;have hb:=Ka a;have hl:Ju a≠9223372036854775807->-4611686018427387904≤2*Ju a∧2*Ju a≤4611686018427387904:=by
  have:=Vy a
  unfold Ju;unfold Bd at this;split<;>omega
 rw [Ck];generalize Ju a=x at*;generalize Jn a=y at*;by_cases h1:x=9223372036854775807
 focus
  rw [ZM h1];obtain rfl:=hi.1 h1;subst h1;clear hb hl hi
 rotate_left
 focus
  have g1:(y==9223372036854775807)=false:=beq_eq_false_iff_ne.2 (λk=>h1 (hi.2 k));rw [ZL h1];obtain ⟨_,_⟩:=hl h1;clear hb hl h1 hi
 all_goals
  go_enter func100,ntmps100
  go_wp2_with (first|(go_at_call 50;with_reducible refine ca.mono ?_;rintro e w' ⟨rfl,rfl⟩)|(go_at_call 101;with_reducible refine c.mono ?_;rintro e w' ⟨rfl,rfl⟩))
  go_ret
  exact ⟨rfl,rfl⟩
theorem Ru (a b:Int) (w:World):
 Calls prog 76 #[.int .i64 a,.int .i64 b] w λe w'=>e=.returned (.int .i64 (Jr a b))∧w=w':=by
 go_enter func76,ntmps76
 go_wp2_with (go_at_call 131;refine (Kv _ _).mono ?_;rintro e w' ⟨rfl,rfl⟩)
 all_goals
  go_ret
  exact Vo (by unfold Jr;omega)
end
