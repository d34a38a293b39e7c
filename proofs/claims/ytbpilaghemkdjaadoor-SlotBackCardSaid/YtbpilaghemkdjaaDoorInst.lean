/- What is known of this seat's types and functions, as instances. Written by inst.py out of the names that the load laid. -/
import Derived.Test.YtbpilaghemkdjaaDoorProg
import Derived.Test.YtbpilaghemkdjaaDoorSep10
import Derived.Lib.MakeNoZero
import Derived.Laws.Externs
namespace Go.Sep
open Go Go.Proofs
abbrev iu0 := UT.mk Tryd.underlying0
abbrev ia0 := AG.mk Tryd.isAgg0
abbrev is0 := SZ.mk Tryd.sizeOf0
abbrev it0 := TI.mk Tryd.typeInfo0
abbrev iu1 := UT.mk Tryd.underlying1
abbrev ia1 := AG.mk Tryd.isAgg1
abbrev is1 := SZ.mk Tryd.sizeOf1
abbrev it1 := TI.mk Tryd.typeInfo1
abbrev iu2 := UT.mk Tryd.underlying2
abbrev ia2 := AG.mk Tryd.isAgg2
abbrev is2 := SZ.mk Tryd.sizeOf2
abbrev it2 := TI.mk Tryd.typeInfo2
abbrev iz2 := ZV.mk Tryd.zeroValue2
abbrev iu3 := UT.mk Tryd.underlying3
abbrev ia3 := AG.mk Tryd.isAgg3
abbrev is3 := SZ.mk Tryd.sizeOf3
abbrev it3 := TI.mk Tryd.typeInfo3
abbrev iz3 := ZV.mk Tryd.zeroValue3
abbrev iu4 := UT.mk Tryd.underlying4
abbrev ia4 := AG.mk Tryd.isAgg4
abbrev is4 := SZ.mk Tryd.sizeOf4
abbrev it4 := TI.mk Tryd.typeInfo4
abbrev iz4 := ZV.mk Tryd.zeroValue4
abbrev iu5 := UT.mk Tryd.underlying5
abbrev ia5 := AG.mk Tryd.isAgg5
abbrev is5 := SZ.mk Tryd.sizeOf5
abbrev it5 := TI.mk Tryd.typeInfo5
abbrev iz5 := ZV.mk Tryd.zeroValue5
abbrev iu6 := UT.mk Tryd.underlying6
abbrev ia6 := AG.mk Tryd.isAgg6
abbrev is6 := SZ.mk Tryd.sizeOf6
abbrev it6 := TI.mk Tryd.typeInfo6
abbrev iz6 := ZV.mk Tryd.zeroValue6
abbrev iu7 := UT.mk Tryd.underlying7
abbrev ia7 := AG.mk Tryd.isAgg7
abbrev is7 := SZ.mk Tryd.sizeOf7
abbrev it7 := TI.mk Tryd.typeInfo7
abbrev iz7 := ZV.mk Tryd.zeroValue7
abbrev iu8 := UT.mk Tryd.underlying8
abbrev ia8 := AG.mk Tryd.isAgg8
abbrev is8 := SZ.mk Tryd.sizeOf8
abbrev it8 := TI.mk Tryd.typeInfo8
abbrev iz8 := ZV.mk Tryd.zeroValue8
abbrev iu9 := UT.mk Tryd.underlying9
abbrev ia9 := AG.mk Tryd.isAgg9
abbrev is9 := SZ.mk Tryd.sizeOf9
abbrev it9 := TI.mk Tryd.typeInfo9
abbrev iz9 := ZV.mk Tryd.zeroValue9
abbrev iu10 := UT.mk Tryd.underlying10
abbrev ia10 := AG.mk Tryd.isAgg10
abbrev is10 := SZ.mk Tryd.sizeOf10
abbrev it10 := TI.mk Tryd.typeInfo10
abbrev iz10 := ZV.mk Tryd.zeroValue10
abbrev iu11 := UT.mk Tryd.underlying11
abbrev ia11 := AG.mk Tryd.isAgg11
abbrev is11 := SZ.mk Tryd.sizeOf11
abbrev it11 := TI.mk Tryd.typeInfo11
abbrev iz11 := ZV.mk Tryd.zeroValue11
abbrev iu12 := UT.mk Tryd.underlying12
abbrev ia12 := AG.mk Tryd.isAgg12
abbrev is12 := SZ.mk Tryd.sizeOf12
abbrev it12 := TI.mk Tryd.typeInfo12
abbrev iz12 := ZV.mk Tryd.zeroValue12
abbrev iu13 := UT.mk Tryd.underlying13
abbrev ia13 := AG.mk Tryd.isAgg13
abbrev is13 := SZ.mk Tryd.sizeOf13
abbrev it13 := TI.mk Tryd.typeInfo13
abbrev iz13 := ZV.mk Tryd.zeroValue13
abbrev iu14 := UT.mk Tryd.underlying14
abbrev ia14 := AG.mk Tryd.isAgg14
abbrev is14 := SZ.mk Tryd.sizeOf14
abbrev it14 := TI.mk Tryd.typeInfo14
abbrev iz14 := ZV.mk Tryd.zeroValue14
abbrev iu15 := UT.mk Tryd.underlying15
abbrev ia15 := AG.mk Tryd.isAgg15
abbrev is15 := SZ.mk Tryd.sizeOf15
abbrev it15 := TI.mk Tryd.typeInfo15
abbrev iz15 := ZV.mk Tryd.zeroValue15
abbrev iu16 := UT.mk Tryd.underlying16
abbrev ia16 := AG.mk Tryd.isAgg16
abbrev is16 := SZ.mk Tryd.sizeOf16
abbrev it16 := TI.mk Tryd.typeInfo16
abbrev iz16 := ZV.mk Tryd.zeroValue16
abbrev iu17 := UT.mk Tryd.underlying17
abbrev ia17 := AG.mk Tryd.isAgg17
abbrev is17 := SZ.mk Tryd.sizeOf17
abbrev it17 := TI.mk Tryd.typeInfo17
abbrev iz17 := ZV.mk Tryd.zeroValue17
abbrev iu18 := UT.mk Tryd.underlying18
abbrev ia18 := AG.mk Tryd.isAgg18
abbrev is18 := SZ.mk Tryd.sizeOf18
abbrev it18 := TI.mk Tryd.typeInfo18
abbrev iz18 := ZV.mk Tryd.zeroValue18
abbrev iu19 := UT.mk Tryd.underlying19
abbrev ia19 := AG.mk Tryd.isAgg19
abbrev is19 := SZ.mk Tryd.sizeOf19
abbrev it19 := TI.mk Tryd.typeInfo19
abbrev iz19 := ZV.mk Tryd.zeroValue19
abbrev iu20 := UT.mk Tryd.underlying20
abbrev ia20 := AG.mk Tryd.isAgg20
abbrev is20 := SZ.mk Tryd.sizeOf20
abbrev it20 := TI.mk Tryd.typeInfo20
abbrev iu21 := UT.mk Tryd.underlying21
abbrev ia21 := AG.mk Tryd.isAgg21
abbrev is21 := SZ.mk Tryd.sizeOf21
abbrev it21 := TI.mk Tryd.typeInfo21
abbrev iz21 := ZV.mk Tryd.zeroValue21
abbrev iu22 := UT.mk Tryd.underlying22
abbrev ia22 := AG.mk Tryd.isAgg22
abbrev is22 := SZ.mk Tryd.sizeOf22
abbrev it22 := TI.mk Tryd.typeInfo22
abbrev iz22 := ZV.mk Tryd.zeroValue22
abbrev iu23 := UT.mk Tryd.underlying23
abbrev ia23 := AG.mk Tryd.isAgg23
abbrev is23 := SZ.mk Tryd.sizeOf23
abbrev it23 := TI.mk Tryd.typeInfo23
abbrev iz23 := ZV.mk Tryd.zeroValue23
abbrev iu24 := UT.mk Tryd.underlying24
abbrev ia24 := AG.mk Tryd.isAgg24
abbrev is24 := SZ.mk Tryd.sizeOf24
abbrev it24 := TI.mk Tryd.typeInfo24
abbrev iz24 := ZV.mk Tryd.zeroValue24
abbrev iu25 := UT.mk Tryd.underlying25
abbrev ia25 := AG.mk Tryd.isAgg25
abbrev is25 := SZ.mk Tryd.sizeOf25
abbrev it25 := TI.mk Tryd.typeInfo25
abbrev iz25 := ZV.mk Tryd.zeroValue25
abbrev iu26 := UT.mk Tryd.underlying26
abbrev ia26 := AG.mk Tryd.isAgg26
abbrev is26 := SZ.mk Tryd.sizeOf26
abbrev it26 := TI.mk Tryd.typeInfo26
abbrev iu27 := UT.mk Tryd.underlying27
abbrev ia27 := AG.mk Tryd.isAgg27
abbrev is27 := SZ.mk Tryd.sizeOf27
abbrev it27 := TI.mk Tryd.typeInfo27
abbrev iu28 := UT.mk Tryd.underlying28
abbrev ia28 := AG.mk Tryd.isAgg28
abbrev is28 := SZ.mk Tryd.sizeOf28
abbrev it28 := TI.mk Tryd.typeInfo28
abbrev iu29 := UT.mk Tryd.underlying29
abbrev ia29 := AG.mk Tryd.isAgg29
abbrev is29 := SZ.mk Tryd.sizeOf29
abbrev it29 := TI.mk Tryd.typeInfo29
abbrev iz29 := ZV.mk Tryd.zeroValue29
abbrev iu30 := UT.mk Tryd.underlying30
abbrev ia30 := AG.mk Tryd.isAgg30
abbrev is30 := SZ.mk Tryd.sizeOf30
abbrev it30 := TI.mk Tryd.typeInfo30
abbrev iu31 := UT.mk Tryd.underlying31
abbrev ia31 := AG.mk Tryd.isAgg31
abbrev is31 := SZ.mk Tryd.sizeOf31
abbrev it31 := TI.mk Tryd.typeInfo31
abbrev iz31 := ZV.mk Tryd.zeroValue31
abbrev iu32 := UT.mk Tryd.underlying32
abbrev ia32 := AG.mk Tryd.isAgg32
abbrev is32 := SZ.mk Tryd.sizeOf32
abbrev it32 := TI.mk Tryd.typeInfo32
abbrev iu33 := UT.mk Tryd.underlying33
abbrev ia33 := AG.mk Tryd.isAgg33
abbrev is33 := SZ.mk Tryd.sizeOf33
abbrev it33 := TI.mk Tryd.typeInfo33
abbrev iz33 := ZV.mk Tryd.zeroValue33
abbrev iu34 := UT.mk Tryd.underlying34
abbrev ia34 := AG.mk Tryd.isAgg34
abbrev is34 := SZ.mk Tryd.sizeOf34
abbrev it34 := TI.mk Tryd.typeInfo34
abbrev iz34 := ZV.mk Tryd.zeroValue34
abbrev iu35 := UT.mk Tryd.underlying35
abbrev ia35 := AG.mk Tryd.isAgg35
abbrev is35 := SZ.mk Tryd.sizeOf35
abbrev it35 := TI.mk Tryd.typeInfo35
abbrev iu36 := UT.mk Tryd.underlying36
abbrev ia36 := AG.mk Tryd.isAgg36
abbrev is36 := SZ.mk Tryd.sizeOf36
abbrev it36 := TI.mk Tryd.typeInfo36
abbrev iu37 := UT.mk Tryd.underlying37
abbrev ia37 := AG.mk Tryd.isAgg37
abbrev is37 := SZ.mk Tryd.sizeOf37
abbrev it37 := TI.mk Tryd.typeInfo37
abbrev iu38 := UT.mk Tryd.underlying38
abbrev ia38 := AG.mk Tryd.isAgg38
abbrev is38 := SZ.mk Tryd.sizeOf38
abbrev it38 := TI.mk Tryd.typeInfo38
abbrev iu39 := UT.mk Tryd.underlying39
abbrev ia39 := AG.mk Tryd.isAgg39
abbrev is39 := SZ.mk Tryd.sizeOf39
abbrev it39 := TI.mk Tryd.typeInfo39
abbrev iu40 := UT.mk Tryd.underlying40
abbrev ia40 := AG.mk Tryd.isAgg40
abbrev is40 := SZ.mk Tryd.sizeOf40
abbrev it40 := TI.mk Tryd.typeInfo40
abbrev iu41 := UT.mk Tryd.underlying41
abbrev ia41 := AG.mk Tryd.isAgg41
abbrev is41 := SZ.mk Tryd.sizeOf41
abbrev it41 := TI.mk Tryd.typeInfo41
abbrev iu42 := UT.mk Tryd.underlying42
abbrev ia42 := AG.mk Tryd.isAgg42
abbrev is42 := SZ.mk Tryd.sizeOf42
abbrev it42 := TI.mk Tryd.typeInfo42
abbrev iz42 := ZV.mk Tryd.zeroValue42
abbrev iu43 := UT.mk Tryd.underlying43
abbrev ia43 := AG.mk Tryd.isAgg43
abbrev is43 := SZ.mk Tryd.sizeOf43
abbrev it43 := TI.mk Tryd.typeInfo43
abbrev iu44 := UT.mk Tryd.underlying44
abbrev ia44 := AG.mk Tryd.isAgg44
abbrev is44 := SZ.mk Tryd.sizeOf44
abbrev it44 := TI.mk Tryd.typeInfo44
abbrev iz44 := ZV.mk Tryd.zeroValue44
abbrev iu45 := UT.mk Tryd.underlying45
abbrev ia45 := AG.mk Tryd.isAgg45
abbrev is45 := SZ.mk Tryd.sizeOf45
abbrev it45 := TI.mk Tryd.typeInfo45
abbrev iz45 := ZV.mk Tryd.zeroValue45
abbrev iu46 := UT.mk Tryd.underlying46
abbrev ia46 := AG.mk Tryd.isAgg46
abbrev is46 := SZ.mk Tryd.sizeOf46
abbrev it46 := TI.mk Tryd.typeInfo46
abbrev iz46 := ZV.mk Tryd.zeroValue46
abbrev iu47 := UT.mk Tryd.underlying47
abbrev ia47 := AG.mk Tryd.isAgg47
abbrev is47 := SZ.mk Tryd.sizeOf47
abbrev it47 := TI.mk Tryd.typeInfo47
abbrev iu48 := UT.mk Tryd.underlying48
abbrev ia48 := AG.mk Tryd.isAgg48
abbrev is48 := SZ.mk Tryd.sizeOf48
abbrev it48 := TI.mk Tryd.typeInfo48
abbrev iu49 := UT.mk Tryd.underlying49
abbrev ia49 := AG.mk Tryd.isAgg49
abbrev is49 := SZ.mk Tryd.sizeOf49
abbrev it49 := TI.mk Tryd.typeInfo49
abbrev iu50 := UT.mk Tryd.underlying50
abbrev ia50 := AG.mk Tryd.isAgg50
abbrev is50 := SZ.mk Tryd.sizeOf50
abbrev it50 := TI.mk Tryd.typeInfo50
abbrev iu51 := UT.mk Tryd.underlying51
abbrev ia51 := AG.mk Tryd.isAgg51
abbrev is51 := SZ.mk Tryd.sizeOf51
abbrev it51 := TI.mk Tryd.typeInfo51
abbrev iu52 := UT.mk Tryd.underlying52
abbrev ia52 := AG.mk Tryd.isAgg52
abbrev is52 := SZ.mk Tryd.sizeOf52
abbrev it52 := TI.mk Tryd.typeInfo52
abbrev iu53 := UT.mk Tryd.underlying53
abbrev ia53 := AG.mk Tryd.isAgg53
abbrev is53 := SZ.mk Tryd.sizeOf53
abbrev it53 := TI.mk Tryd.typeInfo53
abbrev iu54 := UT.mk Tryd.underlying54
abbrev ia54 := AG.mk Tryd.isAgg54
abbrev is54 := SZ.mk Tryd.sizeOf54
abbrev it54 := TI.mk Tryd.typeInfo54
abbrev iu55 := UT.mk Tryd.underlying55
abbrev ia55 := AG.mk Tryd.isAgg55
abbrev is55 := SZ.mk Tryd.sizeOf55
abbrev it55 := TI.mk Tryd.typeInfo55
abbrev iu56 := UT.mk Tryd.underlying56
abbrev ia56 := AG.mk Tryd.isAgg56
abbrev is56 := SZ.mk Tryd.sizeOf56
abbrev it56 := TI.mk Tryd.typeInfo56
abbrev iu57 := UT.mk Tryd.underlying57
abbrev ia57 := AG.mk Tryd.isAgg57
abbrev is57 := SZ.mk Tryd.sizeOf57
abbrev it57 := TI.mk Tryd.typeInfo57
abbrev iz57 := ZV.mk Tryd.zeroValue57
abbrev iu58 := UT.mk Tryd.underlying58
abbrev ia58 := AG.mk Tryd.isAgg58
abbrev is58 := SZ.mk Tryd.sizeOf58
abbrev it58 := TI.mk Tryd.typeInfo58
abbrev iz58 := ZV.mk Tryd.zeroValue58
abbrev iu59 := UT.mk Tryd.underlying59
abbrev ia59 := AG.mk Tryd.isAgg59
abbrev is59 := SZ.mk Tryd.sizeOf59
abbrev it59 := TI.mk Tryd.typeInfo59
abbrev iu60 := UT.mk Tryd.underlying60
abbrev ia60 := AG.mk Tryd.isAgg60
abbrev is60 := SZ.mk Tryd.sizeOf60
abbrev it60 := TI.mk Tryd.typeInfo60
abbrev iu61 := UT.mk Tryd.underlying61
abbrev ia61 := AG.mk Tryd.isAgg61
abbrev is61 := SZ.mk Tryd.sizeOf61
abbrev it61 := TI.mk Tryd.typeInfo61
abbrev iz61 := ZV.mk Tryd.zeroValue61
abbrev iu62 := UT.mk Tryd.underlying62
abbrev ia62 := AG.mk Tryd.isAgg62
abbrev is62 := SZ.mk Tryd.sizeOf62
abbrev it62 := TI.mk Tryd.typeInfo62
abbrev iu63 := UT.mk Tryd.underlying63
abbrev ia63 := AG.mk Tryd.isAgg63
abbrev is63 := SZ.mk Tryd.sizeOf63
abbrev it63 := TI.mk Tryd.typeInfo63
abbrev iu64 := UT.mk Tryd.underlying64
abbrev ia64 := AG.mk Tryd.isAgg64
abbrev is64 := SZ.mk Tryd.sizeOf64
abbrev it64 := TI.mk Tryd.typeInfo64
abbrev iu65 := UT.mk Tryd.underlying65
abbrev ia65 := AG.mk Tryd.isAgg65
abbrev is65 := SZ.mk Tryd.sizeOf65
abbrev it65 := TI.mk Tryd.typeInfo65
abbrev iz65 := ZV.mk Tryd.zeroValue65
abbrev iu66 := UT.mk Tryd.underlying66
abbrev ia66 := AG.mk Tryd.isAgg66
abbrev is66 := SZ.mk Tryd.sizeOf66
abbrev it66 := TI.mk Tryd.typeInfo66
abbrev iz66 := ZV.mk Tryd.zeroValue66
abbrev iu67 := UT.mk Tryd.underlying67
abbrev ia67 := AG.mk Tryd.isAgg67
abbrev is67 := SZ.mk Tryd.sizeOf67
abbrev it67 := TI.mk Tryd.typeInfo67
abbrev iz67 := ZV.mk Tryd.zeroValue67
abbrev iu68 := UT.mk Tryd.underlying68
abbrev ia68 := AG.mk Tryd.isAgg68
abbrev is68 := SZ.mk Tryd.sizeOf68
abbrev it68 := TI.mk Tryd.typeInfo68
abbrev iu69 := UT.mk Tryd.underlying69
abbrev ia69 := AG.mk Tryd.isAgg69
abbrev is69 := SZ.mk Tryd.sizeOf69
abbrev it69 := TI.mk Tryd.typeInfo69
abbrev iu70 := UT.mk Tryd.underlying70
abbrev ia70 := AG.mk Tryd.isAgg70
abbrev is70 := SZ.mk Tryd.sizeOf70
abbrev it70 := TI.mk Tryd.typeInfo70
abbrev iu71 := UT.mk Tryd.underlying71
abbrev ia71 := AG.mk Tryd.isAgg71
abbrev is71 := SZ.mk Tryd.sizeOf71
abbrev it71 := TI.mk Tryd.typeInfo71
abbrev iu72 := UT.mk Tryd.underlying72
abbrev ia72 := AG.mk Tryd.isAgg72
abbrev is72 := SZ.mk Tryd.sizeOf72
abbrev it72 := TI.mk Tryd.typeInfo72
abbrev iu73 := UT.mk Tryd.underlying73
abbrev ia73 := AG.mk Tryd.isAgg73
abbrev is73 := SZ.mk Tryd.sizeOf73
abbrev it73 := TI.mk Tryd.typeInfo73
abbrev iz73 := ZV.mk Tryd.zeroValue73
abbrev iu74 := UT.mk Tryd.underlying74
abbrev ia74 := AG.mk Tryd.isAgg74
abbrev is74 := SZ.mk Tryd.sizeOf74
abbrev it74 := TI.mk Tryd.typeInfo74
abbrev iu75 := UT.mk Tryd.underlying75
abbrev ia75 := AG.mk Tryd.isAgg75
abbrev is75 := SZ.mk Tryd.sizeOf75
abbrev it75 := TI.mk Tryd.typeInfo75
abbrev iu76 := UT.mk Tryd.underlying76
abbrev ia76 := AG.mk Tryd.isAgg76
abbrev is76 := SZ.mk Tryd.sizeOf76
abbrev it76 := TI.mk Tryd.typeInfo76
abbrev iz76 := ZV.mk Tryd.zeroValue76
abbrev iu77 := UT.mk Tryd.underlying77
abbrev ia77 := AG.mk Tryd.isAgg77
abbrev is77 := SZ.mk Tryd.sizeOf77
abbrev it77 := TI.mk Tryd.typeInfo77
abbrev iz77 := ZV.mk Tryd.zeroValue77
abbrev iu78 := UT.mk Tryd.underlying78
abbrev ia78 := AG.mk Tryd.isAgg78
abbrev is78 := SZ.mk Tryd.sizeOf78
abbrev it78 := TI.mk Tryd.typeInfo78
abbrev iz78 := ZV.mk Tryd.zeroValue78
abbrev iu79 := UT.mk Tryd.underlying79
abbrev ia79 := AG.mk Tryd.isAgg79
abbrev is79 := SZ.mk Tryd.sizeOf79
abbrev it79 := TI.mk Tryd.typeInfo79
abbrev iz79 := ZV.mk Tryd.zeroValue79
abbrev iu80 := UT.mk Tryd.underlying80
abbrev ia80 := AG.mk Tryd.isAgg80
abbrev is80 := SZ.mk Tryd.sizeOf80
abbrev it80 := TI.mk Tryd.typeInfo80
abbrev iz80 := ZV.mk Tryd.zeroValue80
abbrev iu81 := UT.mk Tryd.underlying81
abbrev ia81 := AG.mk Tryd.isAgg81
abbrev is81 := SZ.mk Tryd.sizeOf81
abbrev it81 := TI.mk Tryd.typeInfo81
abbrev iz81 := ZV.mk Tryd.zeroValue81
abbrev iu82 := UT.mk Tryd.underlying82
abbrev ia82 := AG.mk Tryd.isAgg82
abbrev is82 := SZ.mk Tryd.sizeOf82
abbrev it82 := TI.mk Tryd.typeInfo82
abbrev iz82 := ZV.mk Tryd.zeroValue82
abbrev iu83 := UT.mk Tryd.underlying83
abbrev ia83 := AG.mk Tryd.isAgg83
abbrev is83 := SZ.mk Tryd.sizeOf83
abbrev it83 := TI.mk Tryd.typeInfo83
abbrev iz83 := ZV.mk Tryd.zeroValue83
abbrev iu84 := UT.mk Tryd.underlying84
abbrev ia84 := AG.mk Tryd.isAgg84
abbrev is84 := SZ.mk Tryd.sizeOf84
abbrev it84 := TI.mk Tryd.typeInfo84
abbrev iu85 := UT.mk Tryd.underlying85
abbrev ia85 := AG.mk Tryd.isAgg85
abbrev is85 := SZ.mk Tryd.sizeOf85
abbrev it85 := TI.mk Tryd.typeInfo85
abbrev iu86 := UT.mk Tryd.underlying86
abbrev ia86 := AG.mk Tryd.isAgg86
abbrev is86 := SZ.mk Tryd.sizeOf86
abbrev it86 := TI.mk Tryd.typeInfo86
abbrev iu87 := UT.mk Tryd.underlying87
abbrev ia87 := AG.mk Tryd.isAgg87
abbrev is87 := SZ.mk Tryd.sizeOf87
abbrev it87 := TI.mk Tryd.typeInfo87
abbrev iu88 := UT.mk Tryd.underlying88
abbrev ia88 := AG.mk Tryd.isAgg88
abbrev is88 := SZ.mk Tryd.sizeOf88
abbrev it88 := TI.mk Tryd.typeInfo88
abbrev iu89 := UT.mk Tryd.underlying89
abbrev ia89 := AG.mk Tryd.isAgg89
abbrev is89 := SZ.mk Tryd.sizeOf89
abbrev it89 := TI.mk Tryd.typeInfo89
abbrev iu90 := UT.mk Tryd.underlying90
abbrev ia90 := AG.mk Tryd.isAgg90
abbrev is90 := SZ.mk Tryd.sizeOf90
abbrev it90 := TI.mk Tryd.typeInfo90
abbrev iu91 := UT.mk Tryd.underlying91
abbrev ia91 := AG.mk Tryd.isAgg91
abbrev is91 := SZ.mk Tryd.sizeOf91
abbrev it91 := TI.mk Tryd.typeInfo91
abbrev iu92 := UT.mk Tryd.underlying92
abbrev ia92 := AG.mk Tryd.isAgg92
abbrev is92 := SZ.mk Tryd.sizeOf92
abbrev it92 := TI.mk Tryd.typeInfo92
abbrev iu93 := UT.mk Tryd.underlying93
abbrev ia93 := AG.mk Tryd.isAgg93
abbrev is93 := SZ.mk Tryd.sizeOf93
abbrev it93 := TI.mk Tryd.typeInfo93
abbrev iu94 := UT.mk Tryd.underlying94
abbrev ia94 := AG.mk Tryd.isAgg94
abbrev is94 := SZ.mk Tryd.sizeOf94
abbrev it94 := TI.mk Tryd.typeInfo94
abbrev iu95 := UT.mk Tryd.underlying95
abbrev ia95 := AG.mk Tryd.isAgg95
abbrev is95 := SZ.mk Tryd.sizeOf95
abbrev it95 := TI.mk Tryd.typeInfo95
abbrev iu96 := UT.mk Tryd.underlying96
abbrev ia96 := AG.mk Tryd.isAgg96
abbrev is96 := SZ.mk Tryd.sizeOf96
abbrev it96 := TI.mk Tryd.typeInfo96
abbrev iu97 := UT.mk Tryd.underlying97
abbrev ia97 := AG.mk Tryd.isAgg97
abbrev is97 := SZ.mk Tryd.sizeOf97
abbrev it97 := TI.mk Tryd.typeInfo97
abbrev iz97 := ZV.mk Tryd.zeroValue97
abbrev iu98 := UT.mk Tryd.underlying98
abbrev ia98 := AG.mk Tryd.isAgg98
abbrev is98 := SZ.mk Tryd.sizeOf98
abbrev it98 := TI.mk Tryd.typeInfo98
abbrev iu99 := UT.mk Tryd.underlying99
abbrev ia99 := AG.mk Tryd.isAgg99
abbrev is99 := SZ.mk Tryd.sizeOf99
abbrev it99 := TI.mk Tryd.typeInfo99
abbrev iu100 := UT.mk Tryd.underlying100
abbrev ia100 := AG.mk Tryd.isAgg100
abbrev is100 := SZ.mk Tryd.sizeOf100
abbrev it100 := TI.mk Tryd.typeInfo100
abbrev iu101 := UT.mk Tryd.underlying101
abbrev ia101 := AG.mk Tryd.isAgg101
abbrev is101 := SZ.mk Tryd.sizeOf101
abbrev it101 := TI.mk Tryd.typeInfo101
abbrev iu102 := UT.mk Tryd.underlying102
abbrev ia102 := AG.mk Tryd.isAgg102
abbrev is102 := SZ.mk Tryd.sizeOf102
abbrev it102 := TI.mk Tryd.typeInfo102
abbrev iz102 := ZV.mk Tryd.zeroValue102
abbrev iu103 := UT.mk Tryd.underlying103
abbrev ia103 := AG.mk Tryd.isAgg103
abbrev is103 := SZ.mk Tryd.sizeOf103
abbrev it103 := TI.mk Tryd.typeInfo103
abbrev iu104 := UT.mk Tryd.underlying104
abbrev ia104 := AG.mk Tryd.isAgg104
abbrev is104 := SZ.mk Tryd.sizeOf104
abbrev it104 := TI.mk Tryd.typeInfo104
abbrev iu105 := UT.mk Tryd.underlying105
abbrev ia105 := AG.mk Tryd.isAgg105
abbrev is105 := SZ.mk Tryd.sizeOf105
abbrev it105 := TI.mk Tryd.typeInfo105
abbrev iu106 := UT.mk Tryd.underlying106
abbrev ia106 := AG.mk Tryd.isAgg106
abbrev is106 := SZ.mk Tryd.sizeOf106
abbrev it106 := TI.mk Tryd.typeInfo106
abbrev iz106 := ZV.mk Tryd.zeroValue106
abbrev iu107 := UT.mk Tryd.underlying107
abbrev ia107 := AG.mk Tryd.isAgg107
abbrev is107 := SZ.mk Tryd.sizeOf107
abbrev it107 := TI.mk Tryd.typeInfo107
abbrev iu108 := UT.mk Tryd.underlying108
abbrev ia108 := AG.mk Tryd.isAgg108
abbrev is108 := SZ.mk Tryd.sizeOf108
abbrev it108 := TI.mk Tryd.typeInfo108
abbrev iu109 := UT.mk Tryd.underlying109
abbrev ia109 := AG.mk Tryd.isAgg109
abbrev is109 := SZ.mk Tryd.sizeOf109
abbrev it109 := TI.mk Tryd.typeInfo109
abbrev iu110 := UT.mk Tryd.underlying110
abbrev ia110 := AG.mk Tryd.isAgg110
abbrev is110 := SZ.mk Tryd.sizeOf110
abbrev it110 := TI.mk Tryd.typeInfo110
abbrev iu111 := UT.mk Tryd.underlying111
abbrev ia111 := AG.mk Tryd.isAgg111
abbrev is111 := SZ.mk Tryd.sizeOf111
abbrev it111 := TI.mk Tryd.typeInfo111
abbrev iu112 := UT.mk Tryd.underlying112
abbrev ia112 := AG.mk Tryd.isAgg112
abbrev is112 := SZ.mk Tryd.sizeOf112
abbrev it112 := TI.mk Tryd.typeInfo112
abbrev iz112 := ZV.mk Tryd.zeroValue112
abbrev iu113 := UT.mk Tryd.underlying113
abbrev ia113 := AG.mk Tryd.isAgg113
abbrev is113 := SZ.mk Tryd.sizeOf113
abbrev it113 := TI.mk Tryd.typeInfo113
abbrev iu114 := UT.mk Tryd.underlying114
abbrev ia114 := AG.mk Tryd.isAgg114
abbrev is114 := SZ.mk Tryd.sizeOf114
abbrev it114 := TI.mk Tryd.typeInfo114
abbrev iz114 := ZV.mk Tryd.zeroValue114
abbrev iu115 := UT.mk Tryd.underlying115
abbrev ia115 := AG.mk Tryd.isAgg115
abbrev is115 := SZ.mk Tryd.sizeOf115
abbrev it115 := TI.mk Tryd.typeInfo115
abbrev iu116 := UT.mk Tryd.underlying116
abbrev ia116 := AG.mk Tryd.isAgg116
abbrev is116 := SZ.mk Tryd.sizeOf116
abbrev it116 := TI.mk Tryd.typeInfo116
abbrev iu117 := UT.mk Tryd.underlying117
abbrev ia117 := AG.mk Tryd.isAgg117
abbrev is117 := SZ.mk Tryd.sizeOf117
abbrev it117 := TI.mk Tryd.typeInfo117
abbrev iu118 := UT.mk Tryd.underlying118
abbrev ia118 := AG.mk Tryd.isAgg118
abbrev is118 := SZ.mk Tryd.sizeOf118
abbrev it118 := TI.mk Tryd.typeInfo118
abbrev iu119 := UT.mk Tryd.underlying119
abbrev ia119 := AG.mk Tryd.isAgg119
abbrev is119 := SZ.mk Tryd.sizeOf119
abbrev it119 := TI.mk Tryd.typeInfo119
abbrev iu120 := UT.mk Tryd.underlying120
abbrev ia120 := AG.mk Tryd.isAgg120
abbrev is120 := SZ.mk Tryd.sizeOf120
abbrev it120 := TI.mk Tryd.typeInfo120
abbrev iu121 := UT.mk Tryd.underlying121
abbrev ia121 := AG.mk Tryd.isAgg121
abbrev is121 := SZ.mk Tryd.sizeOf121
abbrev it121 := TI.mk Tryd.typeInfo121
abbrev iu122 := UT.mk Tryd.underlying122
abbrev ia122 := AG.mk Tryd.isAgg122
abbrev is122 := SZ.mk Tryd.sizeOf122
abbrev it122 := TI.mk Tryd.typeInfo122
abbrev iu123 := UT.mk Tryd.underlying123
abbrev ia123 := AG.mk Tryd.isAgg123
abbrev is123 := SZ.mk Tryd.sizeOf123
abbrev it123 := TI.mk Tryd.typeInfo123
abbrev iz123 := ZV.mk Tryd.zeroValue123
abbrev iu124 := UT.mk Tryd.underlying124
abbrev ia124 := AG.mk Tryd.isAgg124
abbrev is124 := SZ.mk Tryd.sizeOf124
abbrev it124 := TI.mk Tryd.typeInfo124
abbrev iu125 := UT.mk Tryd.underlying125
abbrev ia125 := AG.mk Tryd.isAgg125
abbrev is125 := SZ.mk Tryd.sizeOf125
abbrev it125 := TI.mk Tryd.typeInfo125
abbrev iu126 := UT.mk Tryd.underlying126
abbrev ia126 := AG.mk Tryd.isAgg126
abbrev is126 := SZ.mk Tryd.sizeOf126
abbrev it126 := TI.mk Tryd.typeInfo126
abbrev iu127 := UT.mk Tryd.underlying127
abbrev ia127 := AG.mk Tryd.isAgg127
abbrev is127 := SZ.mk Tryd.sizeOf127
abbrev it127 := TI.mk Tryd.typeInfo127
abbrev iz127 := ZV.mk Tryd.zeroValue127
abbrev iu128 := UT.mk Tryd.underlying128
abbrev ia128 := AG.mk Tryd.isAgg128
abbrev is128 := SZ.mk Tryd.sizeOf128
abbrev it128 := TI.mk Tryd.typeInfo128
abbrev iu129 := UT.mk Tryd.underlying129
abbrev ia129 := AG.mk Tryd.isAgg129
abbrev is129 := SZ.mk Tryd.sizeOf129
abbrev it129 := TI.mk Tryd.typeInfo129
abbrev iz129 := ZV.mk Tryd.zeroValue129
abbrev iu130 := UT.mk Tryd.underlying130
abbrev ia130 := AG.mk Tryd.isAgg130
abbrev is130 := SZ.mk Tryd.sizeOf130
abbrev it130 := TI.mk Tryd.typeInfo130
abbrev iu131 := UT.mk Tryd.underlying131
abbrev ia131 := AG.mk Tryd.isAgg131
abbrev is131 := SZ.mk Tryd.sizeOf131
abbrev it131 := TI.mk Tryd.typeInfo131
abbrev iu132 := UT.mk Tryd.underlying132
abbrev ia132 := AG.mk Tryd.isAgg132
abbrev is132 := SZ.mk Tryd.sizeOf132
abbrev it132 := TI.mk Tryd.typeInfo132
abbrev iu133 := UT.mk Tryd.underlying133
abbrev ia133 := AG.mk Tryd.isAgg133
abbrev is133 := SZ.mk Tryd.sizeOf133
abbrev it133 := TI.mk Tryd.typeInfo133
abbrev iz133 := ZV.mk Tryd.zeroValue133
abbrev iu134 := UT.mk Tryd.underlying134
abbrev ia134 := AG.mk Tryd.isAgg134
abbrev is134 := SZ.mk Tryd.sizeOf134
abbrev it134 := TI.mk Tryd.typeInfo134
abbrev iz134 := ZV.mk Tryd.zeroValue134
abbrev iu135 := UT.mk Tryd.underlying135
abbrev ia135 := AG.mk Tryd.isAgg135
abbrev is135 := SZ.mk Tryd.sizeOf135
abbrev it135 := TI.mk Tryd.typeInfo135
abbrev iz135 := ZV.mk Tryd.zeroValue135
abbrev iu136 := UT.mk Tryd.underlying136
abbrev ia136 := AG.mk Tryd.isAgg136
abbrev is136 := SZ.mk Tryd.sizeOf136
abbrev it136 := TI.mk Tryd.typeInfo136
abbrev iz136 := ZV.mk Tryd.zeroValue136
abbrev iu137 := UT.mk Tryd.underlying137
abbrev ia137 := AG.mk Tryd.isAgg137
abbrev is137 := SZ.mk Tryd.sizeOf137
abbrev it137 := TI.mk Tryd.typeInfo137
abbrev iz137 := ZV.mk Tryd.zeroValue137
abbrev iu138 := UT.mk Tryd.underlying138
abbrev ia138 := AG.mk Tryd.isAgg138
abbrev is138 := SZ.mk Tryd.sizeOf138
abbrev it138 := TI.mk Tryd.typeInfo138
abbrev iz138 := ZV.mk Tryd.zeroValue138
abbrev iu139 := UT.mk Tryd.underlying139
abbrev ia139 := AG.mk Tryd.isAgg139
abbrev is139 := SZ.mk Tryd.sizeOf139
abbrev it139 := TI.mk Tryd.typeInfo139
abbrev iz139 := ZV.mk Tryd.zeroValue139
abbrev iu140 := UT.mk Tryd.underlying140
abbrev ia140 := AG.mk Tryd.isAgg140
abbrev is140 := SZ.mk Tryd.sizeOf140
abbrev it140 := TI.mk Tryd.typeInfo140
abbrev iu141 := UT.mk Tryd.underlying141
abbrev ia141 := AG.mk Tryd.isAgg141
abbrev is141 := SZ.mk Tryd.sizeOf141
abbrev it141 := TI.mk Tryd.typeInfo141
abbrev iz141 := ZV.mk Tryd.zeroValue141
abbrev iu142 := UT.mk Tryd.underlying142
abbrev ia142 := AG.mk Tryd.isAgg142
abbrev is142 := SZ.mk Tryd.sizeOf142
abbrev it142 := TI.mk Tryd.typeInfo142
abbrev iz142 := ZV.mk Tryd.zeroValue142
abbrev iu143 := UT.mk Tryd.underlying143
abbrev ia143 := AG.mk Tryd.isAgg143
abbrev is143 := SZ.mk Tryd.sizeOf143
abbrev it143 := TI.mk Tryd.typeInfo143
abbrev iz143 := ZV.mk Tryd.zeroValue143
abbrev iu144 := UT.mk Tryd.underlying144
abbrev ia144 := AG.mk Tryd.isAgg144
abbrev is144 := SZ.mk Tryd.sizeOf144
abbrev it144 := TI.mk Tryd.typeInfo144
abbrev iz144 := ZV.mk Tryd.zeroValue144
abbrev iu145 := UT.mk Tryd.underlying145
abbrev ia145 := AG.mk Tryd.isAgg145
abbrev is145 := SZ.mk Tryd.sizeOf145
abbrev it145 := TI.mk Tryd.typeInfo145
abbrev iz145 := ZV.mk Tryd.zeroValue145
abbrev iu146 := UT.mk Tryd.underlying146
abbrev ia146 := AG.mk Tryd.isAgg146
abbrev is146 := SZ.mk Tryd.sizeOf146
abbrev it146 := TI.mk Tryd.typeInfo146
abbrev iz146 := ZV.mk Tryd.zeroValue146
abbrev if7_0 := FA.of' (i := 0) (off := 0) Tryd.underlying7 rfl rfl rfl Tryd.sizeOf2 Tryd.isAgg2 rfl
abbrev if7_1 := FA.of' (i := 1) (off := 1) Tryd.underlying7 rfl rfl rfl Tryd.sizeOf3 Tryd.isAgg3 rfl
abbrev if7_2 := FA.of' (i := 2) (off := 2) Tryd.underlying7 rfl rfl rfl Tryd.sizeOf4 Tryd.isAgg4 rfl
abbrev if7_3 := FA.of' (i := 3) (off := 3) Tryd.underlying7 rfl rfl rfl Tryd.sizeOf6 Tryd.isAgg6 rfl
abbrev if8_0 := FA.of' (i := 0) (off := 0) Tryd.underlying8 rfl rfl rfl Tryd.sizeOf2 Tryd.isAgg2 rfl
abbrev if8_1 := FA.of' (i := 1) (off := 1) Tryd.underlying8 rfl rfl rfl Tryd.sizeOf3 Tryd.isAgg3 rfl
abbrev if8_2 := FA.of' (i := 2) (off := 2) Tryd.underlying8 rfl rfl rfl Tryd.sizeOf4 Tryd.isAgg4 rfl
abbrev if8_3 := FA.of' (i := 3) (off := 3) Tryd.underlying8 rfl rfl rfl Tryd.sizeOf6 Tryd.isAgg6 rfl
abbrev if13_0 := FA.of' (i := 0) (off := 0) Tryd.underlying13 rfl rfl rfl Tryd.sizeOf9 Tryd.isAgg9 rfl
abbrev if13_1 := FA.of' (i := 1) (off := 1) Tryd.underlying13 rfl rfl rfl Tryd.sizeOf12 Tryd.isAgg12 rfl
abbrev if14_0 := FA.of' (i := 0) (off := 0) Tryd.underlying14 rfl rfl rfl Tryd.sizeOf9 Tryd.isAgg9 rfl
abbrev if14_1 := FA.of' (i := 1) (off := 1) Tryd.underlying14 rfl rfl rfl Tryd.sizeOf12 Tryd.isAgg12 rfl
abbrev if18_0 := FA.of' (i := 0) (off := 0) Tryd.underlying18 rfl rfl rfl Tryd.sizeOf17 Tryd.isAgg17 rfl
abbrev if19_0 := FA.of' (i := 0) (off := 0) Tryd.underlying19 rfl rfl rfl Tryd.sizeOf17 Tryd.isAgg17 rfl
abbrev if22_0 := FA.of' (i := 0) (off := 0) Tryd.underlying22 rfl rfl rfl Tryd.sizeOf3 Tryd.isAgg3 rfl
abbrev if22_1 := FA.of' (i := 1) (off := 1) Tryd.underlying22 rfl rfl rfl Tryd.sizeOf3 Tryd.isAgg3 rfl
abbrev if22_2 := FA.of' (i := 2) (off := 2) Tryd.underlying22 rfl rfl rfl Tryd.sizeOf3 Tryd.isAgg3 rfl
abbrev if23_0 := FA.of' (i := 0) (off := 0) Tryd.underlying23 rfl rfl rfl Tryd.sizeOf3 Tryd.isAgg3 rfl
abbrev if23_1 := FA.of' (i := 1) (off := 1) Tryd.underlying23 rfl rfl rfl Tryd.sizeOf3 Tryd.isAgg3 rfl
abbrev if23_2 := FA.of' (i := 2) (off := 2) Tryd.underlying23 rfl rfl rfl Tryd.sizeOf3 Tryd.isAgg3 rfl
abbrev if33_0 := FA.of' (i := 0) (off := 0) Tryd.underlying33 rfl rfl rfl Tryd.sizeOf3 Tryd.isAgg3 rfl
abbrev if33_1 := FA.of' (i := 1) (off := 1) Tryd.underlying33 rfl rfl rfl Tryd.sizeOf31 Tryd.isAgg31 rfl
abbrev if33_2 := FA.of' (i := 2) (off := 2) Tryd.underlying33 rfl rfl rfl Tryd.sizeOf25 Tryd.isAgg25 rfl
abbrev if33_3 := FA.of' (i := 3) (off := 3) Tryd.underlying33 rfl rfl rfl Tryd.sizeOf24 Tryd.isAgg24 rfl
abbrev if34_0 := FA.of' (i := 0) (off := 0) Tryd.underlying34 rfl rfl rfl Tryd.sizeOf3 Tryd.isAgg3 rfl
abbrev if34_1 := FA.of' (i := 1) (off := 1) Tryd.underlying34 rfl rfl rfl Tryd.sizeOf31 Tryd.isAgg31 rfl
abbrev if34_2 := FA.of' (i := 2) (off := 2) Tryd.underlying34 rfl rfl rfl Tryd.sizeOf25 Tryd.isAgg25 rfl
abbrev if34_3 := FA.of' (i := 3) (off := 3) Tryd.underlying34 rfl rfl rfl Tryd.sizeOf24 Tryd.isAgg24 rfl
abbrev if44_0 := FA.of' (i := 0) (off := 0) Tryd.underlying44 rfl rfl rfl Tryd.sizeOf5 Tryd.isAgg5 rfl
abbrev if44_1 := FA.of' (i := 1) (off := 1) Tryd.underlying44 rfl rfl rfl Tryd.sizeOf3 Tryd.isAgg3 rfl
abbrev if44_2 := FA.of' (i := 2) (off := 2) Tryd.underlying44 rfl rfl rfl Tryd.sizeOf25 Tryd.isAgg25 rfl
abbrev if44_3 := FA.of' (i := 3) (off := 3) Tryd.underlying44 rfl rfl rfl Tryd.sizeOf24 Tryd.isAgg24 rfl
abbrev if44_4 := FA.of' (i := 4) (off := 4) Tryd.underlying44 rfl rfl rfl Tryd.sizeOf5 Tryd.isAgg5 rfl
abbrev if44_5 := FA.of' (i := 5) (off := 5) Tryd.underlying44 rfl rfl rfl Tryd.sizeOf42 Tryd.isAgg42 rfl
abbrev if45_0 := FA.of' (i := 0) (off := 0) Tryd.underlying45 rfl rfl rfl Tryd.sizeOf5 Tryd.isAgg5 rfl
abbrev if45_1 := FA.of' (i := 1) (off := 1) Tryd.underlying45 rfl rfl rfl Tryd.sizeOf3 Tryd.isAgg3 rfl
abbrev if45_2 := FA.of' (i := 2) (off := 2) Tryd.underlying45 rfl rfl rfl Tryd.sizeOf25 Tryd.isAgg25 rfl
abbrev if45_3 := FA.of' (i := 3) (off := 3) Tryd.underlying45 rfl rfl rfl Tryd.sizeOf24 Tryd.isAgg24 rfl
abbrev if45_4 := FA.of' (i := 4) (off := 4) Tryd.underlying45 rfl rfl rfl Tryd.sizeOf5 Tryd.isAgg5 rfl
abbrev if45_5 := FA.of' (i := 5) (off := 5) Tryd.underlying45 rfl rfl rfl Tryd.sizeOf42 Tryd.isAgg42 rfl
abbrev if57_0 := FA.of' (i := 0) (off := 0) Tryd.underlying57 rfl rfl rfl Tryd.sizeOf3 Tryd.isAgg3 rfl
abbrev if57_1 := FA.of' (i := 1) (off := 1) Tryd.underlying57 rfl rfl rfl Tryd.sizeOf3 Tryd.isAgg3 rfl
abbrev if57_2 := FA.of' (i := 2) (off := 2) Tryd.underlying57 rfl rfl rfl Tryd.sizeOf55 Tryd.isAgg55 rfl
abbrev if57_3 := FA.of' (i := 3) (off := 3) Tryd.underlying57 rfl rfl rfl Tryd.sizeOf56 Tryd.isAgg56 rfl
abbrev if58_0 := FA.of' (i := 0) (off := 0) Tryd.underlying58 rfl rfl rfl Tryd.sizeOf3 Tryd.isAgg3 rfl
abbrev if58_1 := FA.of' (i := 1) (off := 1) Tryd.underlying58 rfl rfl rfl Tryd.sizeOf3 Tryd.isAgg3 rfl
abbrev if58_2 := FA.of' (i := 2) (off := 2) Tryd.underlying58 rfl rfl rfl Tryd.sizeOf55 Tryd.isAgg55 rfl
abbrev if58_3 := FA.of' (i := 3) (off := 3) Tryd.underlying58 rfl rfl rfl Tryd.sizeOf56 Tryd.isAgg56 rfl
abbrev if66_0 := FA.of' (i := 0) (off := 0) Tryd.underlying66 rfl rfl rfl Tryd.sizeOf23 Tryd.isAgg23 rfl
abbrev if66_1 := FA.of' (i := 1) (off := 3) Tryd.underlying66 rfl rfl rfl Tryd.sizeOf3 Tryd.isAgg3 rfl
abbrev if66_2 := FA.of' (i := 2) (off := 4) Tryd.underlying66 rfl rfl rfl Tryd.sizeOf25 Tryd.isAgg25 rfl
abbrev if66_3 := FA.of' (i := 3) (off := 5) Tryd.underlying66 rfl rfl rfl Tryd.sizeOf65 Tryd.isAgg65 rfl
abbrev if67_0 := FA.of' (i := 0) (off := 0) Tryd.underlying67 rfl rfl rfl Tryd.sizeOf23 Tryd.isAgg23 rfl
abbrev if67_1 := FA.of' (i := 1) (off := 3) Tryd.underlying67 rfl rfl rfl Tryd.sizeOf3 Tryd.isAgg3 rfl
abbrev if67_2 := FA.of' (i := 2) (off := 4) Tryd.underlying67 rfl rfl rfl Tryd.sizeOf25 Tryd.isAgg25 rfl
abbrev if67_3 := FA.of' (i := 3) (off := 5) Tryd.underlying67 rfl rfl rfl Tryd.sizeOf65 Tryd.isAgg65 rfl
abbrev if78_0 := FA.of' (i := 0) (off := 0) Tryd.underlying78 rfl rfl rfl Tryd.sizeOf3 Tryd.isAgg3 rfl
abbrev if78_1 := FA.of' (i := 1) (off := 1) Tryd.underlying78 rfl rfl rfl Tryd.sizeOf24 Tryd.isAgg24 rfl
abbrev if78_2 := FA.of' (i := 2) (off := 2) Tryd.underlying78 rfl rfl rfl Tryd.sizeOf76 Tryd.isAgg76 rfl
abbrev if78_3 := FA.of' (i := 3) (off := 3) Tryd.underlying78 rfl rfl rfl Tryd.sizeOf77 Tryd.isAgg77 rfl
abbrev if78_4 := FA.of' (i := 4) (off := 4) Tryd.underlying78 rfl rfl rfl Tryd.sizeOf3 Tryd.isAgg3 rfl
abbrev if78_5 := FA.of' (i := 5) (off := 5) Tryd.underlying78 rfl rfl rfl Tryd.sizeOf3 Tryd.isAgg3 rfl
abbrev if79_0 := FA.of' (i := 0) (off := 0) Tryd.underlying79 rfl rfl rfl Tryd.sizeOf3 Tryd.isAgg3 rfl
abbrev if79_1 := FA.of' (i := 1) (off := 1) Tryd.underlying79 rfl rfl rfl Tryd.sizeOf24 Tryd.isAgg24 rfl
abbrev if79_2 := FA.of' (i := 2) (off := 2) Tryd.underlying79 rfl rfl rfl Tryd.sizeOf76 Tryd.isAgg76 rfl
abbrev if79_3 := FA.of' (i := 3) (off := 3) Tryd.underlying79 rfl rfl rfl Tryd.sizeOf77 Tryd.isAgg77 rfl
abbrev if79_4 := FA.of' (i := 4) (off := 4) Tryd.underlying79 rfl rfl rfl Tryd.sizeOf3 Tryd.isAgg3 rfl
abbrev if79_5 := FA.of' (i := 5) (off := 5) Tryd.underlying79 rfl rfl rfl Tryd.sizeOf3 Tryd.isAgg3 rfl
abbrev if80_0 := FA.of' (i := 0) (off := 0) Tryd.underlying80 rfl rfl rfl Tryd.sizeOf3 Tryd.isAgg3 rfl
abbrev if80_1 := FA.of' (i := 1) (off := 1) Tryd.underlying80 rfl rfl rfl Tryd.sizeOf24 Tryd.isAgg24 rfl
abbrev if81_0 := FA.of' (i := 0) (off := 0) Tryd.underlying81 rfl rfl rfl Tryd.sizeOf3 Tryd.isAgg3 rfl
abbrev if81_1 := FA.of' (i := 1) (off := 1) Tryd.underlying81 rfl rfl rfl Tryd.sizeOf24 Tryd.isAgg24 rfl
abbrev if133_0 := FA.of' (i := 0) (off := 0) Tryd.underlying133 rfl rfl rfl Tryd.sizeOf17 Tryd.isAgg17 rfl
abbrev if133_1 := FA.of' (i := 1) (off := 1) Tryd.underlying133 rfl rfl rfl Tryd.sizeOf17 Tryd.isAgg17 rfl
abbrev if133_2 := FA.of' (i := 2) (off := 2) Tryd.underlying133 rfl rfl rfl Tryd.sizeOf17 Tryd.isAgg17 rfl
abbrev if133_3 := FA.of' (i := 3) (off := 3) Tryd.underlying133 rfl rfl rfl Tryd.sizeOf9 Tryd.isAgg9 rfl
abbrev if134_0 := FA.of' (i := 0) (off := 0) Tryd.underlying134 rfl rfl rfl Tryd.sizeOf17 Tryd.isAgg17 rfl
abbrev if134_1 := FA.of' (i := 1) (off := 1) Tryd.underlying134 rfl rfl rfl Tryd.sizeOf17 Tryd.isAgg17 rfl
abbrev if134_2 := FA.of' (i := 2) (off := 2) Tryd.underlying134 rfl rfl rfl Tryd.sizeOf17 Tryd.isAgg17 rfl
abbrev if134_3 := FA.of' (i := 3) (off := 3) Tryd.underlying134 rfl rfl rfl Tryd.sizeOf9 Tryd.isAgg9 rfl
abbrev if144_0 := FA.of' (i := 0) (off := 0) Tryd.underlying144 rfl rfl rfl Tryd.sizeOf12 Tryd.isAgg12 rfl
abbrev if144_1 := FA.of' (i := 1) (off := 1) Tryd.underlying144 rfl rfl rfl Tryd.sizeOf12 Tryd.isAgg12 rfl
abbrev if144_2 := FA.of' (i := 2) (off := 2) Tryd.underlying144 rfl rfl rfl Tryd.sizeOf65 Tryd.isAgg65 rfl
abbrev if144_3 := FA.of' (i := 3) (off := 3) Tryd.underlying144 rfl rfl rfl Tryd.sizeOf138 Tryd.isAgg138 rfl
abbrev if144_4 := FA.of' (i := 4) (off := 4) Tryd.underlying144 rfl rfl rfl Tryd.sizeOf5 Tryd.isAgg5 rfl
abbrev if144_5 := FA.of' (i := 5) (off := 5) Tryd.underlying144 rfl rfl rfl Tryd.sizeOf5 Tryd.isAgg5 rfl
abbrev if144_6 := FA.of' (i := 6) (off := 6) Tryd.underlying144 rfl rfl rfl Tryd.sizeOf139 Tryd.isAgg139 rfl
abbrev if144_7 := FA.of' (i := 7) (off := 7) Tryd.underlying144 rfl rfl rfl Tryd.sizeOf140 Tryd.isAgg140 rfl
abbrev if144_8 := FA.of' (i := 8) (off := 8) Tryd.underlying144 rfl rfl rfl Tryd.sizeOf141 Tryd.isAgg141 rfl
abbrev if144_9 := FA.of' (i := 9) (off := 9) Tryd.underlying144 rfl rfl rfl Tryd.sizeOf142 Tryd.isAgg142 rfl
abbrev if144_10 := FA.of' (i := 10) (off := 10) Tryd.underlying144 rfl rfl rfl Tryd.sizeOf143 Tryd.isAgg143 rfl
abbrev if145_0 := FA.of' (i := 0) (off := 0) Tryd.underlying145 rfl rfl rfl Tryd.sizeOf12 Tryd.isAgg12 rfl
abbrev if145_1 := FA.of' (i := 1) (off := 1) Tryd.underlying145 rfl rfl rfl Tryd.sizeOf12 Tryd.isAgg12 rfl
abbrev if145_2 := FA.of' (i := 2) (off := 2) Tryd.underlying145 rfl rfl rfl Tryd.sizeOf65 Tryd.isAgg65 rfl
abbrev if145_3 := FA.of' (i := 3) (off := 3) Tryd.underlying145 rfl rfl rfl Tryd.sizeOf138 Tryd.isAgg138 rfl
abbrev if145_4 := FA.of' (i := 4) (off := 4) Tryd.underlying145 rfl rfl rfl Tryd.sizeOf5 Tryd.isAgg5 rfl
abbrev if145_5 := FA.of' (i := 5) (off := 5) Tryd.underlying145 rfl rfl rfl Tryd.sizeOf5 Tryd.isAgg5 rfl
abbrev if145_6 := FA.of' (i := 6) (off := 6) Tryd.underlying145 rfl rfl rfl Tryd.sizeOf139 Tryd.isAgg139 rfl
abbrev if145_7 := FA.of' (i := 7) (off := 7) Tryd.underlying145 rfl rfl rfl Tryd.sizeOf140 Tryd.isAgg140 rfl
abbrev if145_8 := FA.of' (i := 8) (off := 8) Tryd.underlying145 rfl rfl rfl Tryd.sizeOf141 Tryd.isAgg141 rfl
abbrev if145_9 := FA.of' (i := 9) (off := 9) Tryd.underlying145 rfl rfl rfl Tryd.sizeOf142 Tryd.isAgg142 rfl
abbrev if145_10 := FA.of' (i := 10) (off := 10) Tryd.underlying145 rfl rfl rfl Tryd.sizeOf143 Tryd.isAgg143 rfl
abbrev ib7 := BT.mk Tryd.zeroValue7 (pl := [(0, 1), (1, 1), (2, 1), (3, 1)]) ⟨_, Tryd.underlying7, ⟨⟨rfl, Tryd.sizeOf2⟩, ⟨⟨rfl, Tryd.sizeOf3⟩, ⟨⟨rfl, Tryd.sizeOf4⟩, ⟨⟨rfl, Tryd.sizeOf6⟩, trivial⟩⟩⟩⟩⟩
abbrev ib8 := BT.mk Tryd.zeroValue8 (pl := [(0, 1), (1, 1), (2, 1), (3, 1)]) ⟨_, Tryd.underlying8, ⟨⟨rfl, Tryd.sizeOf2⟩, ⟨⟨rfl, Tryd.sizeOf3⟩, ⟨⟨rfl, Tryd.sizeOf4⟩, ⟨⟨rfl, Tryd.sizeOf6⟩, trivial⟩⟩⟩⟩⟩
abbrev ib13 := BT.mk Tryd.zeroValue13 (pl := [(0, 1), (1, 1)]) ⟨_, Tryd.underlying13, ⟨⟨rfl, Tryd.sizeOf9⟩, ⟨⟨rfl, Tryd.sizeOf12⟩, trivial⟩⟩⟩
abbrev ib14 := BT.mk Tryd.zeroValue14 (pl := [(0, 1), (1, 1)]) ⟨_, Tryd.underlying14, ⟨⟨rfl, Tryd.sizeOf9⟩, ⟨⟨rfl, Tryd.sizeOf12⟩, trivial⟩⟩⟩
abbrev ib18 := BT.mk Tryd.zeroValue18 (pl := [(0, 1)]) ⟨_, Tryd.underlying18, ⟨⟨rfl, Tryd.sizeOf17⟩, trivial⟩⟩
abbrev ib19 := BT.mk Tryd.zeroValue19 (pl := [(0, 1)]) ⟨_, Tryd.underlying19, ⟨⟨rfl, Tryd.sizeOf17⟩, trivial⟩⟩
abbrev ib22 := BT.mk Tryd.zeroValue22 (pl := [(0, 1), (1, 1), (2, 1)]) ⟨_, Tryd.underlying22, ⟨⟨rfl, Tryd.sizeOf3⟩, ⟨⟨rfl, Tryd.sizeOf3⟩, ⟨⟨rfl, Tryd.sizeOf3⟩, trivial⟩⟩⟩⟩
abbrev ib23 := BT.mk Tryd.zeroValue23 (pl := [(0, 1), (1, 1), (2, 1)]) ⟨_, Tryd.underlying23, ⟨⟨rfl, Tryd.sizeOf3⟩, ⟨⟨rfl, Tryd.sizeOf3⟩, ⟨⟨rfl, Tryd.sizeOf3⟩, trivial⟩⟩⟩⟩
abbrev ib33 := BT.mk Tryd.zeroValue33 (pl := [(0, 1), (1, 1), (2, 1), (3, 1)]) ⟨_, Tryd.underlying33, ⟨⟨rfl, Tryd.sizeOf3⟩, ⟨⟨rfl, Tryd.sizeOf31⟩, ⟨⟨rfl, Tryd.sizeOf25⟩, ⟨⟨rfl, Tryd.sizeOf24⟩, trivial⟩⟩⟩⟩⟩
abbrev ib34 := BT.mk Tryd.zeroValue34 (pl := [(0, 1), (1, 1), (2, 1), (3, 1)]) ⟨_, Tryd.underlying34, ⟨⟨rfl, Tryd.sizeOf3⟩, ⟨⟨rfl, Tryd.sizeOf31⟩, ⟨⟨rfl, Tryd.sizeOf25⟩, ⟨⟨rfl, Tryd.sizeOf24⟩, trivial⟩⟩⟩⟩⟩
abbrev ib44 := BT.mk Tryd.zeroValue44 (pl := [(0, 1), (1, 1), (2, 1), (3, 1), (4, 1), (5, 1)]) ⟨_, Tryd.underlying44, ⟨⟨rfl, Tryd.sizeOf5⟩, ⟨⟨rfl, Tryd.sizeOf3⟩, ⟨⟨rfl, Tryd.sizeOf25⟩, ⟨⟨rfl, Tryd.sizeOf24⟩, ⟨⟨rfl, Tryd.sizeOf5⟩, ⟨⟨rfl, Tryd.sizeOf42⟩, trivial⟩⟩⟩⟩⟩⟩⟩
abbrev ib45 := BT.mk Tryd.zeroValue45 (pl := [(0, 1), (1, 1), (2, 1), (3, 1), (4, 1), (5, 1)]) ⟨_, Tryd.underlying45, ⟨⟨rfl, Tryd.sizeOf5⟩, ⟨⟨rfl, Tryd.sizeOf3⟩, ⟨⟨rfl, Tryd.sizeOf25⟩, ⟨⟨rfl, Tryd.sizeOf24⟩, ⟨⟨rfl, Tryd.sizeOf5⟩, ⟨⟨rfl, Tryd.sizeOf42⟩, trivial⟩⟩⟩⟩⟩⟩⟩
abbrev ib57 := BT.mk Tryd.zeroValue57 (pl := [(0, 1), (1, 1), (2, 1), (3, 1)]) ⟨_, Tryd.underlying57, ⟨⟨rfl, Tryd.sizeOf3⟩, ⟨⟨rfl, Tryd.sizeOf3⟩, ⟨⟨rfl, Tryd.sizeOf55⟩, ⟨⟨rfl, Tryd.sizeOf56⟩, trivial⟩⟩⟩⟩⟩
abbrev ib58 := BT.mk Tryd.zeroValue58 (pl := [(0, 1), (1, 1), (2, 1), (3, 1)]) ⟨_, Tryd.underlying58, ⟨⟨rfl, Tryd.sizeOf3⟩, ⟨⟨rfl, Tryd.sizeOf3⟩, ⟨⟨rfl, Tryd.sizeOf55⟩, ⟨⟨rfl, Tryd.sizeOf56⟩, trivial⟩⟩⟩⟩⟩
abbrev ib66 := BT.mk Tryd.zeroValue66 (pl := [(0, 3), (3, 1), (4, 1), (5, 1)]) ⟨_, Tryd.underlying66, ⟨⟨rfl, Tryd.sizeOf23⟩, ⟨⟨rfl, Tryd.sizeOf3⟩, ⟨⟨rfl, Tryd.sizeOf25⟩, ⟨⟨rfl, Tryd.sizeOf65⟩, trivial⟩⟩⟩⟩⟩
abbrev ib67 := BT.mk Tryd.zeroValue67 (pl := [(0, 3), (3, 1), (4, 1), (5, 1)]) ⟨_, Tryd.underlying67, ⟨⟨rfl, Tryd.sizeOf23⟩, ⟨⟨rfl, Tryd.sizeOf3⟩, ⟨⟨rfl, Tryd.sizeOf25⟩, ⟨⟨rfl, Tryd.sizeOf65⟩, trivial⟩⟩⟩⟩⟩
abbrev ib78 := BT.mk Tryd.zeroValue78 (pl := [(0, 1), (1, 1), (2, 1), (3, 1), (4, 1), (5, 1)]) ⟨_, Tryd.underlying78, ⟨⟨rfl, Tryd.sizeOf3⟩, ⟨⟨rfl, Tryd.sizeOf24⟩, ⟨⟨rfl, Tryd.sizeOf76⟩, ⟨⟨rfl, Tryd.sizeOf77⟩, ⟨⟨rfl, Tryd.sizeOf3⟩, ⟨⟨rfl, Tryd.sizeOf3⟩, trivial⟩⟩⟩⟩⟩⟩⟩
abbrev ib79 := BT.mk Tryd.zeroValue79 (pl := [(0, 1), (1, 1), (2, 1), (3, 1), (4, 1), (5, 1)]) ⟨_, Tryd.underlying79, ⟨⟨rfl, Tryd.sizeOf3⟩, ⟨⟨rfl, Tryd.sizeOf24⟩, ⟨⟨rfl, Tryd.sizeOf76⟩, ⟨⟨rfl, Tryd.sizeOf77⟩, ⟨⟨rfl, Tryd.sizeOf3⟩, ⟨⟨rfl, Tryd.sizeOf3⟩, trivial⟩⟩⟩⟩⟩⟩⟩
abbrev ib80 := BT.mk Tryd.zeroValue80 (pl := [(0, 1), (1, 1)]) ⟨_, Tryd.underlying80, ⟨⟨rfl, Tryd.sizeOf3⟩, ⟨⟨rfl, Tryd.sizeOf24⟩, trivial⟩⟩⟩
abbrev ib81 := BT.mk Tryd.zeroValue81 (pl := [(0, 1), (1, 1)]) ⟨_, Tryd.underlying81, ⟨⟨rfl, Tryd.sizeOf3⟩, ⟨⟨rfl, Tryd.sizeOf24⟩, trivial⟩⟩⟩
abbrev ib82 := BT.mk Tryd.zeroValue82 (pl := []) ⟨_, Tryd.underlying82, trivial⟩
abbrev ib83 := BT.mk Tryd.zeroValue83 (pl := []) ⟨_, Tryd.underlying83, trivial⟩
abbrev ib133 := BT.mk Tryd.zeroValue133 (pl := [(0, 1), (1, 1), (2, 1), (3, 1)]) ⟨_, Tryd.underlying133, ⟨⟨rfl, Tryd.sizeOf17⟩, ⟨⟨rfl, Tryd.sizeOf17⟩, ⟨⟨rfl, Tryd.sizeOf17⟩, ⟨⟨rfl, Tryd.sizeOf9⟩, trivial⟩⟩⟩⟩⟩
abbrev ib134 := BT.mk Tryd.zeroValue134 (pl := [(0, 1), (1, 1), (2, 1), (3, 1)]) ⟨_, Tryd.underlying134, ⟨⟨rfl, Tryd.sizeOf17⟩, ⟨⟨rfl, Tryd.sizeOf17⟩, ⟨⟨rfl, Tryd.sizeOf17⟩, ⟨⟨rfl, Tryd.sizeOf9⟩, trivial⟩⟩⟩⟩⟩
abbrev ib136 := BT.mk Tryd.zeroValue136 (pl := [(0, 0)]) ⟨_, Tryd.underlying136, ⟨⟨rfl, Tryd.sizeOf135⟩, trivial⟩⟩
abbrev ib137 := BT.mk Tryd.zeroValue137 (pl := [(0, 0)]) ⟨_, Tryd.underlying137, ⟨⟨rfl, Tryd.sizeOf135⟩, trivial⟩⟩
abbrev ib144 := BT.mk Tryd.zeroValue144 (pl := [(0, 1), (1, 1), (2, 1), (3, 1), (4, 1), (5, 1), (6, 1), (7, 1), (8, 1), (9, 1), (10, 1)]) ⟨_, Tryd.underlying144, ⟨⟨rfl, Tryd.sizeOf12⟩, ⟨⟨rfl, Tryd.sizeOf12⟩, ⟨⟨rfl, Tryd.sizeOf65⟩, ⟨⟨rfl, Tryd.sizeOf138⟩, ⟨⟨rfl, Tryd.sizeOf5⟩, ⟨⟨rfl, Tryd.sizeOf5⟩, ⟨⟨rfl, Tryd.sizeOf139⟩, ⟨⟨rfl, Tryd.sizeOf140⟩, ⟨⟨rfl, Tryd.sizeOf141⟩, ⟨⟨rfl, Tryd.sizeOf142⟩, ⟨⟨rfl, Tryd.sizeOf143⟩, trivial⟩⟩⟩⟩⟩⟩⟩⟩⟩⟩⟩⟩
abbrev ib145 := BT.mk Tryd.zeroValue145 (pl := [(0, 1), (1, 1), (2, 1), (3, 1), (4, 1), (5, 1), (6, 1), (7, 1), (8, 1), (9, 1), (10, 1)]) ⟨_, Tryd.underlying145, ⟨⟨rfl, Tryd.sizeOf12⟩, ⟨⟨rfl, Tryd.sizeOf12⟩, ⟨⟨rfl, Tryd.sizeOf65⟩, ⟨⟨rfl, Tryd.sizeOf138⟩, ⟨⟨rfl, Tryd.sizeOf5⟩, ⟨⟨rfl, Tryd.sizeOf5⟩, ⟨⟨rfl, Tryd.sizeOf139⟩, ⟨⟨rfl, Tryd.sizeOf140⟩, ⟨⟨rfl, Tryd.sizeOf141⟩, ⟨⟨rfl, Tryd.sizeOf142⟩, ⟨⟨rfl, Tryd.sizeOf143⟩, trivial⟩⟩⟩⟩⟩⟩⟩⟩⟩⟩⟩⟩
abbrev ie7 : SF Tryd.prog 7 [.int, .int, .bool, .int] := ⟨⟨_, Tryd.underlying7, ⟨by decide, rfl, Tryd.isAgg2, ⟨_, Tryd.underlying2⟩, ⟨by decide, rfl, Tryd.isAgg3, ⟨_, Tryd.underlying3⟩, ⟨by decide, rfl, Tryd.isAgg4, Tryd.underlying4, ⟨by decide, rfl, Tryd.isAgg6, ⟨_, Tryd.underlying6⟩, trivial⟩⟩⟩⟩⟩, Tryd.eqGuardType7, Tryd.stoodInHeld7⟩
abbrev ie8 : SF Tryd.prog 8 [.int, .int, .bool, .int] := ⟨⟨_, Tryd.underlying8, ⟨by decide, rfl, Tryd.isAgg2, ⟨_, Tryd.underlying2⟩, ⟨by decide, rfl, Tryd.isAgg3, ⟨_, Tryd.underlying3⟩, ⟨by decide, rfl, Tryd.isAgg4, Tryd.underlying4, ⟨by decide, rfl, Tryd.isAgg6, ⟨_, Tryd.underlying6⟩, trivial⟩⟩⟩⟩⟩, Tryd.eqGuardType8, Tryd.stoodInHeld8⟩
abbrev ie22 : SF Tryd.prog 22 [.int, .int, .int] := ⟨⟨_, Tryd.underlying22, ⟨by decide, rfl, Tryd.isAgg3, ⟨_, Tryd.underlying3⟩, ⟨by decide, rfl, Tryd.isAgg3, ⟨_, Tryd.underlying3⟩, ⟨by decide, rfl, Tryd.isAgg3, ⟨_, Tryd.underlying3⟩, trivial⟩⟩⟩⟩, Tryd.eqGuardType22, Tryd.stoodInHeld22⟩
abbrev ie23 : SF Tryd.prog 23 [.int, .int, .int] := ⟨⟨_, Tryd.underlying23, ⟨by decide, rfl, Tryd.isAgg3, ⟨_, Tryd.underlying3⟩, ⟨by decide, rfl, Tryd.isAgg3, ⟨_, Tryd.underlying3⟩, ⟨by decide, rfl, Tryd.isAgg3, ⟨_, Tryd.underlying3⟩, trivial⟩⟩⟩⟩, Tryd.eqGuardType23, Tryd.stoodInHeld23⟩
abbrev ic2 := HasBody.mk Tryd.call2
abbrev ic3 := HasBody.mk Tryd.call3
abbrev ic4 := HasBody.mk Tryd.call4
abbrev ic5 := HasBody.mk Tryd.call5
abbrev ic6 := HasBody.mk Tryd.call6
abbrev ic7 := HasBody.mk Tryd.call7
abbrev ic8 := HasBody.mk Tryd.call8
abbrev ic9 := HasBody.mk Tryd.call9
abbrev ic10 := HasBody.mk Tryd.call10
abbrev ic11 := HasBody.mk Tryd.call11
abbrev ic12 := HasBody.mk Tryd.call12
abbrev ic13 := HasBody.mk Tryd.call13
abbrev ic14 := HasBody.mk Tryd.call14
abbrev ic15 := HasBody.mk Tryd.call15
abbrev ic16 := HasBody.mk Tryd.call16
abbrev ic17 := HasBody.mk Tryd.call17
abbrev ic18 := HasBody.mk Tryd.call18
abbrev ic19 := HasBody.mk Tryd.call19
abbrev ic20 := HasBody.mk Tryd.call20
abbrev ic21 := HasBody.mk Tryd.call21
abbrev ic22 := HasBody.mk Tryd.call22
abbrev ic23 := HasBody.mk Tryd.call23
abbrev ic24 := HasBody.mk Tryd.call24
abbrev ic25 := HasBody.mk Tryd.call25
abbrev ic26 := HasBody.mk Tryd.call26
abbrev ic27 := HasBody.mk Tryd.call27
abbrev ic28 := HasBody.mk Tryd.call28
abbrev ic29 := HasBody.mk Tryd.call29
abbrev ic30 := HasBody.mk Tryd.call30
abbrev ic31 := HasBody.mk Tryd.call31
abbrev ic32 := HasBody.mk Tryd.call32
abbrev ic33 := HasBody.mk Tryd.call33
abbrev ic34 := HasBody.mk Tryd.call34
abbrev ic35 := HasBody.mk Tryd.call35
abbrev ic36 := HasBody.mk Tryd.call36
abbrev ic37 := HasBody.mk Tryd.call37
abbrev ic38 := HasBody.mk Tryd.call38
abbrev ic39 := HasBody.mk Tryd.call39
abbrev ic40 := HasBody.mk Tryd.call40
abbrev ic41 := HasBody.mk Tryd.call41
abbrev ic42 := HasBody.mk Tryd.call42
abbrev ic43 := HasBody.mk Tryd.call43
abbrev ic44 := HasBody.mk Tryd.call44
abbrev ic45 := HasBody.mk Tryd.call45
abbrev ic46 := HasBody.mk Tryd.call46
abbrev ic47 := HasBody.mk Tryd.call47
abbrev ic48 := HasBody.mk Tryd.call48
abbrev ic49 := HasBody.mk Tryd.call49
abbrev ic50 := HasBody.mk Tryd.call50
abbrev ic51 := HasBody.mk Tryd.call51
abbrev ic52 := HasBody.mk Tryd.call52
abbrev ic53 := HasBody.mk Tryd.call53
abbrev ic54 := HasBody.mk Tryd.call54
abbrev ic55 := HasBody.mk Tryd.call55
abbrev ic56 := HasBody.mk Tryd.call56
abbrev ic57 := HasBody.mk Tryd.call57
abbrev ic58 := HasBody.mk Tryd.call58
abbrev ic59 := HasBody.mk Tryd.call59
abbrev ic60 := HasBody.mk Tryd.call60
abbrev ic61 := HasBody.mk Tryd.call61
abbrev ic62 := HasBody.mk Tryd.call62
abbrev ic63 := HasBody.mk Tryd.call63
abbrev ic64 := HasBody.mk Tryd.call64
abbrev ic65 := HasBody.mk Tryd.call65
abbrev ic66 := HasBody.mk Tryd.call66
abbrev ic67 := HasBody.mk Tryd.call67
abbrev ic68 := HasBody.mk Tryd.call68
theorem imz69 : MZ Tryd.prog 69 5 := ⟨fun m hm w => by
  obtain ⟨cs, h1, h2, _⟩ := Lib.run_makeNoZero (P := Tryd.prog) w #[2] 24 5 Tryd.underlying24 m hm
  refine ⟨cs, ?_, h2⟩
  rw [run_callFunc_extern Tryd.func69 (by kernel_rfl) (by kernel_rfl) (by kernel_rfl) (e := Extern.BytealgMakeNoZero.makeNoZero #[2] #[24]) (by kernel_rfl), h1]
  rfl⟩
abbrev ic70 := HasBody.mk Tryd.call70
abbrev ic71 := HasBody.mk Tryd.call71
abbrev ic72 := HasBody.mk Tryd.call72
abbrev ic73 := HasBody.mk Tryd.call73
abbrev ic74 := HasBody.mk Tryd.call74
abbrev ic75 := HasBody.mk Tryd.call75
abbrev ic76 := HasBody.mk Tryd.call76
abbrev ic77 := HasBody.mk Tryd.call77
abbrev ic78 := HasBody.mk Tryd.call78
abbrev ic79 := HasBody.mk Tryd.call79
abbrev ic80 := HasBody.mk Tryd.call80
abbrev ic81 := HasBody.mk Tryd.call81
abbrev ic82 := HasBody.mk Tryd.call82
abbrev ic83 := HasBody.mk Tryd.call83
abbrev ic84 := HasBody.mk Tryd.call84
abbrev ic85 := HasBody.mk Tryd.call85
abbrev ic86 := HasBody.mk Tryd.call86
abbrev ic87 := HasBody.mk Tryd.call87
abbrev ic88 := HasBody.mk Tryd.call88
abbrev ic89 := HasBody.mk Tryd.call89
abbrev ic90 := HasBody.mk Tryd.call90
abbrev ic111 := HasBody.mk Tryd.call111
attribute [instance] iu0 ia0 is0 it0 iu1 ia1 is1 it1 iu2 ia2 is2 it2
attribute [instance] iz2 iu3 ia3 is3 it3 iz3 iu4 ia4 is4 it4 iz4 iu5
attribute [instance] ia5 is5 it5 iz5 iu6 ia6 is6 it6 iz6 iu7 ia7 is7
attribute [instance] it7 iz7 iu8 ia8 is8 it8 iz8 iu9 ia9 is9 it9 iz9
attribute [instance] iu10 ia10 is10 it10 iz10 iu11 ia11 is11 it11 iz11 iu12 ia12
attribute [instance] is12 it12 iz12 iu13 ia13 is13 it13 iz13 iu14 ia14 is14 it14
attribute [instance] iz14 iu15 ia15 is15 it15 iz15 iu16 ia16 is16 it16 iz16 iu17
attribute [instance] ia17 is17 it17 iz17 iu18 ia18 is18 it18 iz18 iu19 ia19 is19
attribute [instance] it19 iz19 iu20 ia20 is20 it20 iu21 ia21 is21 it21 iz21 iu22
attribute [instance] ia22 is22 it22 iz22 iu23 ia23 is23 it23 iz23 iu24 ia24 is24
attribute [instance] it24 iz24 iu25 ia25 is25 it25 iz25 iu26 ia26 is26 it26 iu27
attribute [instance] ia27 is27 it27 iu28 ia28 is28 it28 iu29 ia29 is29 it29 iz29
attribute [instance] iu30 ia30 is30 it30 iu31 ia31 is31 it31 iz31 iu32 ia32 is32
attribute [instance] it32 iu33 ia33 is33 it33 iz33 iu34 ia34 is34 it34 iz34 iu35
attribute [instance] ia35 is35 it35 iu36 ia36 is36 it36 iu37 ia37 is37 it37 iu38
attribute [instance] ia38 is38 it38 iu39 ia39 is39 it39 iu40 ia40 is40 it40 iu41
attribute [instance] ia41 is41 it41 iu42 ia42 is42 it42 iz42 iu43 ia43 is43 it43
attribute [instance] iu44 ia44 is44 it44 iz44 iu45 ia45 is45 it45 iz45 iu46 ia46
attribute [instance] is46 it46 iz46 iu47 ia47 is47 it47 iu48 ia48 is48 it48 iu49
attribute [instance] ia49 is49 it49 iu50 ia50 is50 it50 iu51 ia51 is51 it51 iu52
attribute [instance] ia52 is52 it52 iu53 ia53 is53 it53 iu54 ia54 is54 it54 iu55
attribute [instance] ia55 is55 it55 iu56 ia56 is56 it56 iu57 ia57 is57 it57 iz57
attribute [instance] iu58 ia58 is58 it58 iz58 iu59 ia59 is59 it59 iu60 ia60 is60
attribute [instance] it60 iu61 ia61 is61 it61 iz61 iu62 ia62 is62 it62 iu63 ia63
attribute [instance] is63 it63 iu64 ia64 is64 it64 iu65 ia65 is65 it65 iz65 iu66
attribute [instance] ia66 is66 it66 iz66 iu67 ia67 is67 it67 iz67 iu68 ia68 is68
attribute [instance] it68 iu69 ia69 is69 it69 iu70 ia70 is70 it70 iu71 ia71 is71
attribute [instance] it71 iu72 ia72 is72 it72 iu73 ia73 is73 it73 iz73 iu74 ia74
attribute [instance] is74 it74 iu75 ia75 is75 it75 iu76 ia76 is76 it76 iz76 iu77
attribute [instance] ia77 is77 it77 iz77 iu78 ia78 is78 it78 iz78 iu79 ia79 is79
attribute [instance] it79 iz79 iu80 ia80 is80 it80 iz80 iu81 ia81 is81 it81 iz81
attribute [instance] iu82 ia82 is82 it82 iz82 iu83 ia83 is83 it83 iz83 iu84 ia84
attribute [instance] is84 it84 iu85 ia85 is85 it85 iu86 ia86 is86 it86 iu87 ia87
attribute [instance] is87 it87 iu88 ia88 is88 it88 iu89 ia89 is89 it89 iu90 ia90
attribute [instance] is90 it90 iu91 ia91 is91 it91 iu92 ia92 is92 it92 iu93 ia93
attribute [instance] is93 it93 iu94 ia94 is94 it94 iu95 ia95 is95 it95 iu96 ia96
attribute [instance] is96 it96 iu97 ia97 is97 it97 iz97 iu98 ia98 is98 it98 iu99
attribute [instance] ia99 is99 it99 iu100 ia100 is100 it100 iu101 ia101 is101 it101 iu102
attribute [instance] ia102 is102 it102 iz102 iu103 ia103 is103 it103 iu104 ia104 is104 it104
attribute [instance] iu105 ia105 is105 it105 iu106 ia106 is106 it106 iz106 iu107 ia107 is107
attribute [instance] it107 iu108 ia108 is108 it108 iu109 ia109 is109 it109 iu110 ia110 is110
attribute [instance] it110 iu111 ia111 is111 it111 iu112 ia112 is112 it112 iz112 iu113 ia113
attribute [instance] is113 it113 iu114 ia114 is114 it114 iz114 iu115 ia115 is115 it115 iu116
attribute [instance] ia116 is116 it116 iu117 ia117 is117 it117 iu118 ia118 is118 it118 iu119
attribute [instance] ia119 is119 it119 iu120 ia120 is120 it120 iu121 ia121 is121 it121 iu122
attribute [instance] ia122 is122 it122 iu123 ia123 is123 it123 iz123 iu124 ia124 is124 it124
attribute [instance] iu125 ia125 is125 it125 iu126 ia126 is126 it126 iu127 ia127 is127 it127
attribute [instance] iz127 iu128 ia128 is128 it128 iu129 ia129 is129 it129 iz129 iu130 ia130
attribute [instance] is130 it130 iu131 ia131 is131 it131 iu132 ia132 is132 it132 iu133 ia133
attribute [instance] is133 it133 iz133 iu134 ia134 is134 it134 iz134 iu135 ia135 is135 it135
attribute [instance] iz135 iu136 ia136 is136 it136 iz136 iu137 ia137 is137 it137 iz137 iu138
attribute [instance] ia138 is138 it138 iz138 iu139 ia139 is139 it139 iz139 iu140 ia140 is140
attribute [instance] it140 iu141 ia141 is141 it141 iz141 iu142 ia142 is142 it142 iz142 iu143
attribute [instance] ia143 is143 it143 iz143 iu144 ia144 is144 it144 iz144 iu145 ia145 is145
attribute [instance] it145 iz145 iu146 ia146 is146 it146 iz146 if7_0 if7_1 if7_2 if7_3 if8_0
attribute [instance] if8_1 if8_2 if8_3 if13_0 if13_1 if14_0 if14_1 if18_0 if19_0 if22_0 if22_1 if22_2
attribute [instance] if23_0 if23_1 if23_2 if33_0 if33_1 if33_2 if33_3 if34_0 if34_1 if34_2 if34_3 if44_0
attribute [instance] if44_1 if44_2 if44_3 if44_4 if44_5 if45_0 if45_1 if45_2 if45_3 if45_4 if45_5 if57_0
attribute [instance] if57_1 if57_2 if57_3 if58_0 if58_1 if58_2 if58_3 if66_0 if66_1 if66_2 if66_3 if67_0
attribute [instance] if67_1 if67_2 if67_3 if78_0 if78_1 if78_2 if78_3 if78_4 if78_5 if79_0 if79_1 if79_2
attribute [instance] if79_3 if79_4 if79_5 if80_0 if80_1 if81_0 if81_1 if133_0 if133_1 if133_2 if133_3 if134_0
attribute [instance] if134_1 if134_2 if134_3 if144_0 if144_1 if144_2 if144_3 if144_4 if144_5 if144_6 if144_7 if144_8
attribute [instance] if144_9 if144_10 if145_0 if145_1 if145_2 if145_3 if145_4 if145_5 if145_6 if145_7 if145_8 if145_9
attribute [instance] if145_10 ib7 ib8 ib13 ib14 ib18 ib19 ib22 ib23 ib33 ib34 ib44
attribute [instance] ib45 ib57 ib58 ib66 ib67 ib78 ib79 ib80 ib81 ib82 ib83 ib133
attribute [instance] ib134 ib136 ib137 ib144 ib145 ie7 ie8 ie22 ie23 ic2 ic3 ic4
attribute [instance] ic5 ic6 ic7 ic8 ic9 ic10 ic11 ic12 ic13 ic14 ic15 ic16
attribute [instance] ic17 ic18 ic19 ic20 ic21 ic22 ic23 ic24 ic25 ic26 ic27 ic28
attribute [instance] ic29 ic30 ic31 ic32 ic33 ic34 ic35 ic36 ic37 ic38 ic39 ic40
attribute [instance] ic41 ic42 ic43 ic44 ic45 ic46 ic47 ic48 ic49 ic50 ic51 ic52
attribute [instance] ic53 ic54 ic55 ic56 ic57 ic58 ic59 ic60 ic61 ic62 ic63 ic64
attribute [instance] ic65 ic66 ic67 ic68 imz69 ic70 ic71 ic72 ic73 ic74 ic75 ic76
attribute [instance] ic77 ic78 ic79 ic80 ic81 ic82 ic83 ic84 ic85 ic86 ic87 ic88
attribute [instance] ic89 ic90 ic111
theorem mixed : Tryd.prog.follows .mixedOrders = true := by kernel_rfl
end Go.Sep
